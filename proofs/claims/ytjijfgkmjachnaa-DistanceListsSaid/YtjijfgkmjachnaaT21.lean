/- Plain: the tables of the postorder lists hold the distances. -/
import Derived.Test.YtjijfgkmjachnaaT20
import Derived.Test.YtjijfgkmjachnaaT10
namespace Go.Proofs.Ytjijfgkmjachnaa
set_option linter.unusedVariables false
set_option linter.unusedSimpArgs false

abbrev dE : Ent := (.mk 0 ByteArray.empty 0 0 [], 0, 0)
theorem ent_def (xs : List Ent) (i : Nat) : ent xs i = xs.getD i dE := rfl

def OkAt (L : List Ent) (f i : Nat) : Prop :=
  f ≤ (L.getD i dE).2.1 ∧ (L.getD i dE).2.1 + Nd.sizes (L.getD i dE).1.kids = f + i ∧
    ∀ j, j < Nd.sizes (L.getD i dE).1.kids → L.getD ((L.getD i dE).2.1 - f + j) dE = (postK (L.getD i dE).1.kids (L.getD i dE).2.1 ((L.getD i dE).2.2 + 1)).getD j dE

theorem getD_left {α : Type} (a b : List α) (i : Nat) (d : α) (h : i < a.length) : (a ++ b).getD i d = a.getD i d := by
  simp [List.getD_eq_getElem?_getD, List.getElem?_append_left h]
theorem getD_right {α : Type} (a b : List α) (i : Nat) (d : α) (h : a.length ≤ i) : (a ++ b).getD i d = b.getD (i - a.length) d := by
  simp [List.getD_eq_getElem?_getD, List.getElem?_append_right h]

theorem OkAt.left {A B : List Ent} {f i : Nat} (hi : i < A.length) (h : OkAt A f i) : OkAt (A ++ B) f i := by
  unfold OkAt at h ⊢
  rw [getD_left _ _ _ _ hi]
  obtain ⟨h1, h2, h3⟩ := h
  refine ⟨h1, h2, fun j hj => ?_⟩
  rw [getD_left _ _ _ _ (by omega)]
  exact h3 j hj
theorem OkAt.right {A B : List Ent} {f i : Nat} (h : OkAt B (f + A.length) i) : OkAt (A ++ B) f (A.length + i) := by
  unfold OkAt at h ⊢
  rw [getD_right _ _ _ _ (by omega), Nat.add_sub_cancel_left]
  obtain ⟨h1, h2, h3⟩ := h
  refine ⟨by omega, by omega, fun j hj => ?_⟩
  rw [getD_right _ _ _ _ (by omega)]
  rw [← h3 j hj]
  congr 1
  omega

theorem postK_ok (n : Nat) : ∀ (l : List Nd), Nd.sizes l ≤ n → ∀ f m i, i < Nd.sizes l → OkAt (postK l f m) f i := by
  induction n with
  | zero => intro l h f m i hi; omega
  | succ n ih =>
    intro l
    induction l with
    | nil => intro _ f m i hi; rw [Nd.sizes_nil] at hi; omega
    | cons t ts ihl =>
      intro h f m i hi
      rw [Nd.sizes_cons] at h hi
      have hts := t.size_eq
      have hpl := post_len t f m
      rw [postK_cons]
      by_cases hit : i < t.size
      · refine OkAt.left (by omega) ?_
        rw [post_eq]
        have hkl := postK_len t.kids f (m + 1)
        by_cases hik : i < Nd.sizes t.kids
        · exact OkAt.left (by omega) (ih t.kids (by omega) f (m + 1) i hik)
        · have hie : i = (postK t.kids f (m + 1)).length + 0 := by omega
          have e : (postK t.kids f (m + 1) ++ [(t, f, m)]).getD i dE = (t, f, m) := by rw [getD_right _ _ _ _ (by omega), hie, Nat.add_sub_cancel_left]; rfl
          unfold OkAt
          rw [e]
          refine ⟨Nat.le_refl _, by simp only; omega, fun j hj => ?_⟩
          simp only at hj ⊢
          rw [getD_left _ _ _ _ (by omega)]
          congr 1
          omega
      · have := OkAt.right (A := post t f m) (f := f) (i := i - t.size) (by rw [hpl]; exact ihl (by omega) (f + t.size) (m + t.size) (i - t.size) (by omega))
        rw [hpl, show t.size + (i - t.size) = i by omega] at this
        exact this

/-- The postorder list of a tree. -/
structure Good (xs : List Ent) : Prop where
  lf_le : ∀ s, s < xs.length → lf xs s + Nd.sizes (nd xs s).kids = s
  seg : ∀ s, s < xs.length → ∀ j, j < Nd.sizes (nd xs s).kids → ent xs (lf xs s + j) = (postK (nd xs s).kids (lf xs s) (nm xs s + 1)).getD j dE
theorem post_good (t : Nd) : Good (post t 0 0) := by
  have hk : post t 0 0 = postK [t] 0 0 := by rw [postK_cons, postK_nil, List.append_nil]
  have hl : Nd.sizes [t] = t.size := by rw [Nd.sizes_cons, Nd.sizes_nil]; rfl
  have ok := fun s hs => postK_ok t.size [t] (by omega) 0 0 s hs
  rw [← hk] at ok
  rw [hl] at ok
  refine ⟨fun s hs => ?_, fun s hs j hj => ?_⟩
  · have := (ok s (by rw [post_len] at hs; exact hs)).2.1
    show ((post t 0 0).getD s dE).2.1 + Nd.sizes ((post t 0 0).getD s dE).1.kids = s
    omega
  · have := (ok s (by rw [post_len] at hs; exact hs)).2.2 j hj
    rw [Nat.sub_zero] at this
    exact this

theorem postK_first (l : List Nd) (f m i : Nat) (h : i < Nd.sizes l) : f ≤ ((postK l f m).getD i dE).2.1 := (postK_ok _ l (Nat.le_refl _) f m i h).1

/-- nodes that overlap lie in each other -/
theorem Good.lam {xs : List Ent} (hg : Good xs) {s j : Nat} (hsj : s < j) (hj : j < xs.length) (h : lf xs j ≤ s) : lf xs j ≤ lf xs s := by
  have h1 := hg.lf_le j hj
  have h2 := hg.seg j hj (s - lf xs j) (by omega)
  rw [show lf xs j + (s - lf xs j) = s by omega] at h2
  have h3 := postK_first (nd xs j).kids (lf xs j) (nm xs j + 1) (s - lf xs j) (by omega)
  rw [← h2] at h3
  exact h3

/-- F is the list of trees of the x nodes from p on, the last one first. -/
inductive IsF (xs : List Ent) (p : Nat) : Nat → List Nd → Prop where
  | nil : IsF xs p 0 []
  | cons (x y : Nat) (F : List Nd) (h : lf xs (p + x) = p + y) (hy : y ≤ x) (hF : IsF xs p y F) : IsF xs p (x + 1) (nd xs (p + x) :: F)

theorem IsF.sizes {xs : List Ent} (hg : Good xs) {p x : Nat} {F : List Nd} (h : IsF xs p x F) (hx : p + x ≤ xs.length) : Nd.sizes F = x := by
  induction h with
  | nil => rfl
  | cons x y F h hy _ ih =>
    have h1 := hg.lf_le (p + x) (by omega)
    rw [Nd.sizes_cons, ih (by omega), Nd.size_eq]
    omega
theorem IsF.uniq {xs : List Ent} {p x : Nat} {F : List Nd} (h : IsF xs p x F) : ∀ {F' : List Nd}, IsF xs p x F' → F = F' := by
  induction h with
  | nil => intro F' h'; cases h'; rfl
  | cons x y F h hy _ ih =>
    intro F' h'
    cases h' with
    | cons _ y' F'' h2 hy2 hF2 =>
      obtain rfl : y = y' := by omega
      rw [ih hF2]

theorem seg_IsF {xs : List Ent} {p : Nat} (k : Nat) : ∀ (l : List Nd) (f m : Nat) (R : List Nd), l.length = k → p ≤ f → (∀ j, j < Nd.sizes l → ent xs (f + j) = (postK l f m).getD j dE) → IsF xs p (f - p) R → IsF xs p (f + Nd.sizes l - p) (l.reverse ++ R) := by
  induction k with
  | zero =>
    intro l f m R hl hp _ hR
    obtain rfl := List.eq_nil_of_length_eq_zero hl
    simpa [Nd.sizes_nil] using hR
  | succ k ih =>
    intro l f m R hl hp hs hR
    have hne : l ≠ [] := by rintro rfl; simp at hl
    obtain ⟨init, t, rfl⟩ : ∃ init t, l = init ++ [t] := ⟨l.dropLast, l.getLast hne, (List.dropLast_concat_getLast hne).symm⟩
    have hsz : Nd.sizes (init ++ [t]) = Nd.sizes init + t.size := by rw [Nd.sizes_append, Nd.sizes_cons, Nd.sizes_nil]; rfl
    have hpk : postK (init ++ [t]) f m = postK init f m ++ (postK t.kids (f + Nd.sizes init) (m + Nd.sizes init + 1) ++ [(t, f + Nd.sizes init, m + Nd.sizes init)]) := by
      rw [postK_append, postK_cons, postK_nil, List.append_nil, post_eq]
    have hl1 := postK_len init f m
    have hl2 := postK_len t.kids (f + Nd.sizes init) (m + Nd.sizes init + 1)
    have hts := t.size_eq
    have h1 := ih init f m R (by simpa using hl) hp (fun j hj => by
      rw [hs j (by omega), hpk, getD_left _ _ _ _ (by omega)]) hR
    have hlast : ent xs (f + (Nd.sizes init + t.size - 1)) = (t, f + Nd.sizes init, m + Nd.sizes init) := by
      rw [hs _ (by omega), hpk, getD_right _ _ _ _ (by omega), getD_right _ _ _ _ (by omega)]
      rw [show Nd.sizes init + t.size - 1 - (postK init f m).length - (postK t.kids (f + Nd.sizes init) (m + Nd.sizes init + 1)).length = 0 by omega]
      rfl
    have e1 : nd xs (f + (Nd.sizes init + t.size - 1)) = t := by unfold nd; rw [hlast]
    have e2 : lf xs (f + (Nd.sizes init + t.size - 1)) = f + Nd.sizes init := by unfold lf; rw [hlast]
    have hx : p + (f - p + (Nd.sizes init + t.size - 1)) = f + (Nd.sizes init + t.size - 1) := by omega
    have := IsF.cons (xs := xs) (p := p) (f - p + (Nd.sizes init + t.size - 1)) (f + Nd.sizes init - p) _ (by rw [hx, e2]; omega) (by omega) h1
    rw [hx, e1] at this
    rw [hsz, List.reverse_append, show f + (Nd.sizes init + t.size) - p = f - p + (Nd.sizes init + t.size - 1) + 1 by omega]
    exact this

theorem IsF.kids {xs : List Ent} (hg : Good xs) {p x y : Nat} {F : List Nd} (hx : p + x < xs.length) (h : lf xs (p + x) = p + y) (hF : IsF xs p y F) : IsF xs p x (rv (nd xs (p + x)) ++ F) := by
  have h1 := hg.lf_le (p + x) hx
  have := seg_IsF (xs := xs) (p := p) _ (nd xs (p + x)).kids (lf xs (p + x)) (nm xs (p + x) + 1) F rfl (by omega) (hg.seg (p + x) hx) (by rw [h, Nat.add_sub_cancel_left]; exact hF)
  rw [show lf xs (p + x) + Nd.sizes (nd xs (p + x)).kids - p = x by omega] at this
  exact this

theorem table_ok {xs ys : List Ent} (hgx : Good xs) (hgy : Good ys) {i k : Nat} (hi : i < xs.length) (hk : k < ys.length) {D F : Nat → Nat → Int} (hr : Rec xs ys i k D F)
    (hD : ∀ s t, lf xs i ≤ s → s ≤ i → lf ys k ≤ t → t ≤ k → (lf xs s ≠ lf xs i ∨ lf ys t ≠ lf ys k) → D s t = td (nd xs s) (nd ys t)) (n : Nat) :
    ∀ x y A B, x + y ≤ n → x ≤ i - lf xs i + 1 → y ≤ k - lf ys k + 1 → IsF xs (lf xs i) x A → IsF ys (lf ys k) y B → F x y = fd A B := by
  have hli := hgx.lf_le i hi
  have hlk := hgy.lf_le k hk
  induction n with
  | zero =>
    intro x y A B h _ _ hA hB
    obtain rfl : x = 0 := by omega
    obtain rfl : y = 0 := by omega
    cases hA; cases hB
    rw [hr.row 0 (by omega)]; rfl
  | succ n ih =>
    intro x y A B h hx hy hA hB
    have hsA := hA.sizes hgx (by omega)
    have hsB := hB.sizes hgy (by omega)
    cases hA with
    | nil => rw [hr.col y hy, fd_left, hsB]
    | cons x a A ha hax hA =>
      cases hB with
      | nil => rw [hr.row _ hx, fd_right, hsA]
      | cons y b B hb hby hB =>
        have hkA := hA.kids hgx (by omega) ha
        have hkB := hB.kids hgy (by omega) hb
        have i1 := ih x (y + 1) _ _ (by omega) (by omega) hy hkA (IsF.cons y b B hb hby hB)
        have i2 := ih (x + 1) y _ _ (by omega) hx (by omega) (IsF.cons x a A ha hax hA) hkB
        have i3 := ih a b _ _ (by omega) (by omega) (by omega) hA hB
        have ex : lf xs i + x - lf xs i = x := by omega
        have ey : lf ys k + y - lf ys k = y := by omega
        by_cases hal : lf xs (lf xs i + x) = lf xs i ∧ lf ys (lf ys k + y) = lf ys k
        · have h1 := hr.one (lf xs i + x) (lf ys k + y) (by omega) (by omega) (by omega) (by omega) hal.1 hal.2
          obtain rfl : a = 0 := by omega
          obtain rfl : b = 0 := by omega
          cases hA; cases hB
          rw [ex, ey] at h1
          have i4 := ih x y _ _ (by omega) (by omega) (by omega) hkA hkB
          rw [h1, i1, i2, i4, fd_cc]
          simp only [List.append_nil, fd_nn, cost]
          split <;> omega
        · have h1 := hr.two (lf xs i + x) (lf ys k + y) (by omega) (by omega) (by omega) (by omega) (by omega)
          have h2 := hD (lf xs i + x) (lf ys k + y) (by omega) (by omega) (by omega) (by omega) (by omega)
          rw [ex, ey, ha, hb, Nat.add_sub_cancel_left, Nat.add_sub_cancel_left, h2, i1, i2, i3] at h1
          rw [h1, fd_step]
          omega

theorem table_td {xs ys : List Ent} (hgx : Good xs) (hgy : Good ys) {i k : Nat} (hi : i < xs.length) (hk : k < ys.length) {D F : Nat → Nat → Int} (hr : Rec xs ys i k D F)
    (hD : ∀ s t, lf xs i ≤ s → s ≤ i → lf ys k ≤ t → t ≤ k → (lf xs s ≠ lf xs i ∨ lf ys t ≠ lf ys k) → D s t = td (nd xs s) (nd ys t))
    (s t : Nat) (h1 : lf xs i ≤ s) (h2 : s ≤ i) (h3 : lf ys k ≤ t) (h4 : t ≤ k) (h5 : lf xs s = lf xs i) (h6 : lf ys t = lf ys k) : F (s - lf xs i + 1) (t - lf ys k + 1) = td (nd xs s) (nd ys t) := by
  have a1 : IsF xs (lf xs i) (s - lf xs i + 1) [nd xs (lf xs i + (s - lf xs i))] := IsF.cons _ 0 _ (by rw [show lf xs i + (s - lf xs i) = s by omega, h5]; rfl) (by omega) .nil
  have a2 : IsF ys (lf ys k) (t - lf ys k + 1) [nd ys (lf ys k + (t - lf ys k))] := IsF.cons _ 0 _ (by rw [show lf ys k + (t - lf ys k) = t by omega, h6]; rfl) (by omega) .nil
  have := table_ok hgx hgy hi hk hr hD _ _ _ _ _ (Nat.le_refl _) (by omega) (by omega) a1 a2
  rw [show lf xs i + (s - lf xs i) = s by omega, show lf ys k + (t - lf ys k) = t by omega] at this
  exact this
end Go.Proofs.Ytjijfgkmjachnaa
