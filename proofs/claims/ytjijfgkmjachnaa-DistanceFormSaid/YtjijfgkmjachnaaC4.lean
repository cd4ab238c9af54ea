/- Seat 37, texts merged: plain facts on the distance. Lemmas for the laws of chapter 37; no conditions of their own beyond what each states. -/
import Derived.Test.YtjijfgkmjachnaaC1
import Derived.Test.YtjijfgkmjachnaaC3
namespace Go.Proofs.Ytjijfgkmjachnaa
set_option linter.unusedVariables false
set_option linter.unusedSimpArgs false

def cost (a b : Nd) : Nat := if sameLabel a b then 0 else 1
def rv (t : Nd) : List Nd := t.kids.reverse
/-- The rightmost tree stands first. -/
def fdN : Nat → List Nd → List Nd → Nat
  | 0, _, _ => 0
  | _ + 1, [], [] => 0
  | n + 1, t :: F, [] => fdN n (rv t ++ F) [] + 1
  | n + 1, [], u :: G => fdN n [] (rv u ++ G) + 1
  | n + 1, t :: F, u :: G => min (min (fdN n (rv t ++ F) (u :: G)) (fdN n (t :: F) (rv u ++ G)) + 1) (fdN n (rv t) (rv u) + fdN n F G + cost t u)
def fd (F G : List Nd) : Nat := fdN (Nd.sizes F + Nd.sizes G) F G

theorem sizes_rev (l : List Nd) : Nd.sizes l.reverse = Nd.sizes l := by
  induction l with
  | nil => rfl
  | cons t ts ih => rw [List.reverse_cons, Nd.sizes_append, ih, Nd.sizes_cons, Nd.sizes_cons, Nd.sizes_nil]; omega
theorem sizes_rv (t : Nd) : Nd.sizes (rv t) + 1 = t.size := by unfold rv; rw [sizes_rev, t.size_eq]; omega

theorem fdN_stable (n : Nat) : ∀ (m : Nat) (F G : List Nd), Nd.sizes F + Nd.sizes G ≤ n → Nd.sizes F + Nd.sizes G ≤ m → fdN n F G = fdN m F G := by
  induction n with
  | zero =>
    intro m F G h _
    cases F with
    | cons t F => rw [Nd.sizes_cons] at h; have := t.size_pos; omega
    | nil =>
      cases G with
      | cons u G => rw [Nd.sizes_cons] at h; have := u.size_pos; omega
      | nil => cases m <;> rfl
  | succ n ih =>
    intro m F G h h2
    cases m with
    | zero =>
      cases F with
      | cons t F => rw [Nd.sizes_cons] at h2; have := t.size_pos; omega
      | nil =>
        cases G with
        | cons u G => rw [Nd.sizes_cons] at h2; have := u.size_pos; omega
        | nil => rfl
    | succ m =>
      cases F with
      | nil =>
        cases G with
        | nil => rfl
        | cons u G =>
          have := sizes_rv u
          rw [Nd.sizes_cons] at h h2
          simp only [fdN]
          rw [ih m [] (rv u ++ G) (by rw [Nd.sizes_append]; omega) (by rw [Nd.sizes_append]; omega)]
      | cons t F =>
        have ht := sizes_rv t
        cases G with
        | nil =>
          rw [Nd.sizes_cons] at h h2
          simp only [fdN]
          rw [ih m (rv t ++ F) [] (by rw [Nd.sizes_append]; omega) (by rw [Nd.sizes_append]; omega)]
        | cons u G =>
          have hu := sizes_rv u
          rw [Nd.sizes_cons, Nd.sizes_cons] at h h2
          simp only [fdN]
          rw [ih m (rv t ++ F) (u :: G) (by rw [Nd.sizes_append, Nd.sizes_cons]; omega) (by rw [Nd.sizes_append, Nd.sizes_cons]; omega),
            ih m (t :: F) (rv u ++ G) (by rw [Nd.sizes_append, Nd.sizes_cons]; omega) (by rw [Nd.sizes_append, Nd.sizes_cons]; omega),
            ih m (rv t) (rv u) (by omega) (by omega), ih m F G (by omega) (by omega)]
theorem fd_of (n : Nat) (F G : List Nd) (h : Nd.sizes F + Nd.sizes G ≤ n) : fdN n F G = fd F G := fdN_stable n _ F G h (Nat.le_refl _)

theorem fd_nn : fd [] [] = 0 := rfl
theorem fd_cn (t : Nd) (F : List Nd) : fd (t :: F) [] = fd (rv t ++ F) [] + 1 := by
  have ht := sizes_rv t
  rw [← fd_of (Nd.sizes (t :: F) + Nd.sizes [] + 1) (t :: F) [] (by omega)]
  simp only [fdN]
  rw [fd_of _ _ _ (by rw [Nd.sizes_append, Nd.sizes_cons]; omega)]
theorem fd_nc (u : Nd) (G : List Nd) : fd [] (u :: G) = fd [] (rv u ++ G) + 1 := by
  have ht := sizes_rv u
  rw [← fd_of (Nd.sizes [] + Nd.sizes (u :: G) + 1) [] (u :: G) (by omega)]
  simp only [fdN]
  rw [fd_of _ _ _ (by rw [Nd.sizes_append, Nd.sizes_cons]; omega)]
theorem fd_cc (t u : Nd) (F G : List Nd) : fd (t :: F) (u :: G) = min (min (fd (rv t ++ F) (u :: G)) (fd (t :: F) (rv u ++ G)) + 1) (fd (rv t) (rv u) + fd F G + cost t u) := by
  have ht := sizes_rv t
  have hu := sizes_rv u
  rw [← fd_of (Nd.sizes (t :: F) + Nd.sizes (u :: G) + 1) (t :: F) (u :: G) (by omega)]
  simp only [fdN]
  rw [fd_of _ _ _ (by rw [Nd.sizes_append, Nd.sizes_cons, Nd.sizes_cons]; omega), fd_of _ _ _ (by rw [Nd.sizes_append, Nd.sizes_cons, Nd.sizes_cons]; omega),
    fd_of _ _ _ (by rw [Nd.sizes_cons, Nd.sizes_cons]; omega), fd_of _ _ _ (by rw [Nd.sizes_cons, Nd.sizes_cons]; omega)]

theorem fd_nil_right (n : Nat) : ∀ F : List Nd, Nd.sizes F ≤ n → fd F [] = Nd.sizes F := by
  induction n with
  | zero => intro F h; cases F with
    | nil => rfl
    | cons t F => rw [Nd.sizes_cons] at h; have := t.size_pos; omega
  | succ n ih => intro F h; cases F with
    | nil => rfl
    | cons t F =>
      have ht := sizes_rv t
      rw [Nd.sizes_cons] at h
      rw [fd_cn, ih _ (by rw [Nd.sizes_append]; omega), Nd.sizes_append, Nd.sizes_cons]; omega
theorem fd_nil_left (n : Nat) : ∀ F : List Nd, Nd.sizes F ≤ n → fd [] F = Nd.sizes F := by
  induction n with
  | zero => intro F h; cases F with
    | nil => rfl
    | cons t F => rw [Nd.sizes_cons] at h; have := t.size_pos; omega
  | succ n ih => intro F h; cases F with
    | nil => rfl
    | cons t F =>
      have ht := sizes_rv t
      rw [Nd.sizes_cons] at h
      rw [fd_nc, ih _ (by rw [Nd.sizes_append]; omega), Nd.sizes_append, Nd.sizes_cons]; omega
theorem fd_right (F : List Nd) : fd F [] = Nd.sizes F := fd_nil_right _ F (Nat.le_refl _)
theorem fd_left (F : List Nd) : fd [] F = Nd.sizes F := fd_nil_left _ F (Nat.le_refl _)

theorem fd_del (t : Nd) (F G : List Nd) : fd (t :: F) G ≤ fd (rv t ++ F) G + 1 := by
  cases G with
  | nil => rw [fd_cn]; exact Nat.le_refl _
  | cons u G => rw [fd_cc]; omega
theorem fd_ins (u : Nd) (F G : List Nd) : fd F (u :: G) ≤ fd F (rv u ++ G) + 1 := by
  cases F with
  | nil => rw [fd_nc]; exact Nat.le_refl _
  | cons t F => rw [fd_cc]; omega
theorem fd_pair (t u : Nd) (F G : List Nd) : fd (t :: F) (u :: G) ≤ fd (rv t) (rv u) + fd F G + cost t u := by rw [fd_cc]; omega
/-- one of the three -/
theorem fd_cases (t u : Nd) (F G : List Nd) : fd (t :: F) (u :: G) = fd (rv t ++ F) (u :: G) + 1 ∨ fd (t :: F) (u :: G) = fd (t :: F) (rv u ++ G) + 1 ∨ fd (t :: F) (u :: G) = fd (rv t) (rv u) + fd F G + cost t u := by
  rw [fd_cc]; omega

/-- side by side -/
theorem fd_append (n : Nat) : ∀ (A B C D : List Nd), Nd.sizes A + Nd.sizes C ≤ n → fd (A ++ B) (C ++ D) ≤ fd A C + fd B D := by
  induction n with
  | zero =>
    intro A B C D h
    cases A with
    | cons t A => rw [Nd.sizes_cons] at h; have := t.size_pos; omega
    | nil =>
      cases C with
      | cons u C => rw [Nd.sizes_cons] at h; have := u.size_pos; omega
      | nil => simp [fd_nn]
  | succ n ih =>
    intro A B C D h
    cases A with
    | nil =>
      cases C with
      | nil => simp [fd_nn]
      | cons u C =>
        have hu := sizes_rv u
        rw [Nd.sizes_cons] at h
        have h1 := ih [] B (rv u ++ C) D (by rw [Nd.sizes_append]; omega)
        have h2 := fd_ins u ([] ++ B) (C ++ D)
        rw [List.append_assoc] at h1
        rw [List.cons_append, fd_nc]
        omega
    | cons t A =>
      have ht := sizes_rv t
      cases C with
      | nil =>
        rw [Nd.sizes_cons] at h
        have h1 := ih (rv t ++ A) B [] D (by rw [Nd.sizes_append]; omega)
        have h2 := fd_del t (A ++ B) ([] ++ D)
        rw [List.append_assoc] at h1
        rw [List.cons_append, fd_cn]
        omega
      | cons u C =>
        have hu := sizes_rv u
        rw [Nd.sizes_cons, Nd.sizes_cons] at h
        rcases fd_cases t u A C with e | e | e
        · have h1 := ih (rv t ++ A) B (u :: C) D (by rw [Nd.sizes_append, Nd.sizes_cons]; omega)
          have h2 := fd_del t (A ++ B) (u :: C ++ D)
          rw [List.append_assoc] at h1
          rw [List.cons_append, e]
          omega
        · have h1 := ih (t :: A) B (rv u ++ C) D (by rw [Nd.sizes_append, Nd.sizes_cons]; omega)
          have h2 := fd_ins u (t :: A ++ B) (C ++ D)
          rw [List.append_assoc] at h1
          rw [List.cons_append (a := u), e]
          omega
        · have h1 := ih A B C D (by omega)
          have h2 := fd_pair t u (A ++ B) (C ++ D)
          rw [List.cons_append, List.cons_append, e]
          omega
theorem fd_app (A B C D : List Nd) : fd (A ++ B) (C ++ D) ≤ fd A C + fd B D := fd_append _ A B C D (Nat.le_refl _)

/-- The distance of two trees. -/
def td (t u : Nd) : Nat := fd [t] [u]
theorem td_le_pair (t u : Nd) : td t u ≤ fd (rv t) (rv u) + cost t u := by have := fd_pair t u [] []; rw [fd_nn] at this; exact this
/-- The step of the table where the two trees stand beside others. -/
theorem fd_step (t u : Nd) (F G : List Nd) : fd (t :: F) (u :: G) = min (min (fd (rv t ++ F) (u :: G)) (fd (t :: F) (rv u ++ G)) + 1) (fd F G + td t u) := by
  have h1 := fd_cc t u F G
  have h2 : fd (t :: F) (u :: G) ≤ td t u + fd F G := fd_app [t] F [u] G
  have h3 := td_le_pair t u
  omega
end Go.Proofs.Ytjijfgkmjachnaa

namespace Go.Proofs.Ytjijfgkmjachnaa
set_option linter.unusedVariables false
set_option linter.unusedSimpArgs false

abbrev dE : Ent := (.mk 0 ByteArray.empty 0 0 [], 0, 0)
theorem ent_def (xs : List Ent) (i : Nat) : ent xs i = xs.getD i dE := rfl

def OkAt (L : List Ent) (f i : Nat) : Prop :=
  f ≤ (L.getD i dE).2.1 ∧ (L.getD i dE).2.1 + Nd.sizes (L.getD i dE).1.kids = f + i ∧
    ∀ j, j < Nd.sizes (L.getD i dE).1.kids → L.getD ((L.getD i dE).2.1 - f + j) dE = (postK (L.getD i dE).1.kids (L.getD i dE).2.1 ((L.getD i dE).2.2 + 1)).getD j dE

theorem getD_left {α : Type} (a b : List α) (i : Nat) (d : α) (h : i < a.length) : (a ++ b).getD i d = a.getD i d := by
  simp [List.getD_eq_getElem?_getD, List.getElem?_append_left h]
theorem getD_right {α : Type} (a b : List α) (i : Nat) (d : α) (h : a.length ≤ i) : (a ++ b).getD i d = b.getD (i - a.length) d := by
  simp [List.getD_eq_getElem?_getD, List.getElem?_append_right h]

theorem OkAt.left {A B : List Ent} {f i : Nat} (hi : i < A.length) (h : OkAt A f i) : OkAt (A ++ B) f i := by
  unfold OkAt at h ⊢
  rw [getD_left _ _ _ _ hi]
  obtain ⟨h1, h2, h3⟩ := h
  refine ⟨h1, h2, fun j hj => ?_⟩
  rw [getD_left _ _ _ _ (by omega)]
  exact h3 j hj
theorem OkAt.right {A B : List Ent} {f i : Nat} (h : OkAt B (f + A.length) i) : OkAt (A ++ B) f (A.length + i) := by
  unfold OkAt at h ⊢
  rw [getD_right _ _ _ _ (by omega), Nat.add_sub_cancel_left]
  obtain ⟨h1, h2, h3⟩ := h
  refine ⟨by omega, by omega, fun j hj => ?_⟩
  rw [getD_right _ _ _ _ (by omega)]
  rw [← h3 j hj]
  congr 1
  omega

theorem postK_ok (n : Nat) : ∀ (l : List Nd), Nd.sizes l ≤ n → ∀ f m i, i < Nd.sizes l → OkAt (postK l f m) f i := by
  induction n with
  | zero => intro l h f m i hi; omega
  | succ n ih =>
    intro l
    induction l with
    | nil => intro _ f m i hi; rw [Nd.sizes_nil] at hi; omega
    | cons t ts ihl =>
      intro h f m i hi
      rw [Nd.sizes_cons] at h hi
      have hts := t.size_eq
      have hpl := post_len t f m
      rw [postK_cons]
      by_cases hit : i < t.size
      · refine OkAt.left (by omega) ?_
        rw [post_eq]
        have hkl := postK_len t.kids f (m + 1)
        by_cases hik : i < Nd.sizes t.kids
        · exact OkAt.left (by omega) (ih t.kids (by omega) f (m + 1) i hik)
        · have hie : i = (postK t.kids f (m + 1)).length + 0 := by omega
          have e : (postK t.kids f (m + 1) ++ [(t, f, m)]).getD i dE = (t, f, m) := by rw [getD_right _ _ _ _ (by omega), hie, Nat.add_sub_cancel_left]; rfl
          unfold OkAt
          rw [e]
          refine ⟨Nat.le_refl _, by simp only; omega, fun j hj => ?_⟩
          simp only at hj ⊢
          rw [getD_left _ _ _ _ (by omega)]
          congr 1
          omega
      · have := OkAt.right (A := post t f m) (f := f) (i := i - t.size) (by rw [hpl]; exact ihl (by omega) (f + t.size) (m + t.size) (i - t.size) (by omega))
        rw [hpl, show t.size + (i - t.size) = i by omega] at this
        exact this

/-- The postorder list of a tree. -/
structure Good (xs : List Ent) : Prop where
  lf_le : ∀ s, s < xs.length → lf xs s + Nd.sizes (nd xs s).kids = s
  seg : ∀ s, s < xs.length → ∀ j, j < Nd.sizes (nd xs s).kids → ent xs (lf xs s + j) = (postK (nd xs s).kids (lf xs s) (nm xs s + 1)).getD j dE
theorem post_good (t : Nd) : Good (post t 0 0) := by
  have hk : post t 0 0 = postK [t] 0 0 := by rw [postK_cons, postK_nil, List.append_nil]
  have hl : Nd.sizes [t] = t.size := by rw [Nd.sizes_cons, Nd.sizes_nil]; rfl
  have ok := fun s hs => postK_ok t.size [t] (by omega) 0 0 s hs
  rw [← hk] at ok
  rw [hl] at ok
  refine ⟨fun s hs => ?_, fun s hs j hj => ?_⟩
  · have := (ok s (by rw [post_len] at hs; exact hs)).2.1
    show ((post t 0 0).getD s dE).2.1 + Nd.sizes ((post t 0 0).getD s dE).1.kids = s
    omega
  · have := (ok s (by rw [post_len] at hs; exact hs)).2.2 j hj
    rw [Nat.sub_zero] at this
    exact this

theorem postK_first (l : List Nd) (f m i : Nat) (h : i < Nd.sizes l) : f ≤ ((postK l f m).getD i dE).2.1 := (postK_ok _ l (Nat.le_refl _) f m i h).1

/-- nodes that overlap lie in each other -/
theorem Good.lam {xs : List Ent} (hg : Good xs) {s j : Nat} (hsj : s < j) (hj : j < xs.length) (h : lf xs j ≤ s) : lf xs j ≤ lf xs s := by
  have h1 := hg.lf_le j hj
  have h2 := hg.seg j hj (s - lf xs j) (by omega)
  rw [show lf xs j + (s - lf xs j) = s by omega] at h2
  have h3 := postK_first (nd xs j).kids (lf xs j) (nm xs j + 1) (s - lf xs j) (by omega)
  rw [← h2] at h3
  exact h3

/-- F is the list of trees of the x nodes from p on, the last one first. -/
inductive IsF (xs : List Ent) (p : Nat) : Nat → List Nd → Prop where
  | nil : IsF xs p 0 []
  | cons (x y : Nat) (F : List Nd) (h : lf xs (p + x) = p + y) (hy : y ≤ x) (hF : IsF xs p y F) : IsF xs p (x + 1) (nd xs (p + x) :: F)

theorem IsF.sizes {xs : List Ent} (hg : Good xs) {p x : Nat} {F : List Nd} (h : IsF xs p x F) (hx : p + x ≤ xs.length) : Nd.sizes F = x := by
  induction h with
  | nil => rfl
  | cons x y F h hy _ ih =>
    have h1 := hg.lf_le (p + x) (by omega)
    rw [Nd.sizes_cons, ih (by omega), Nd.size_eq]
    omega
theorem IsF.uniq {xs : List Ent} {p x : Nat} {F : List Nd} (h : IsF xs p x F) : ∀ {F' : List Nd}, IsF xs p x F' → F = F' := by
  induction h with
  | nil => intro F' h'; cases h'; rfl
  | cons x y F h hy _ ih =>
    intro F' h'
    cases h' with
    | cons _ y' F'' h2 hy2 hF2 =>
      obtain rfl : y = y' := by omega
      rw [ih hF2]

theorem seg_IsF {xs : List Ent} {p : Nat} (k : Nat) : ∀ (l : List Nd) (f m : Nat) (R : List Nd), l.length = k → p ≤ f → (∀ j, j < Nd.sizes l → ent xs (f + j) = (postK l f m).getD j dE) → IsF xs p (f - p) R → IsF xs p (f + Nd.sizes l - p) (l.reverse ++ R) := by
  induction k with
  | zero =>
    intro l f m R hl hp _ hR
    obtain rfl := List.eq_nil_of_length_eq_zero hl
    simpa [Nd.sizes_nil] using hR
  | succ k ih =>
    intro l f m R hl hp hs hR
    have hne : l ≠ [] := by rintro rfl; simp at hl
    obtain ⟨init, t, rfl⟩ : ∃ init t, l = init ++ [t] := ⟨l.dropLast, l.getLast hne, (List.dropLast_concat_getLast hne).symm⟩
    have hsz : Nd.sizes (init ++ [t]) = Nd.sizes init + t.size := by rw [Nd.sizes_append, Nd.sizes_cons, Nd.sizes_nil]; rfl
    have hpk : postK (init ++ [t]) f m = postK init f m ++ (postK t.kids (f + Nd.sizes init) (m + Nd.sizes init + 1) ++ [(t, f + Nd.sizes init, m + Nd.sizes init)]) := by
      rw [postK_append, postK_cons, postK_nil, List.append_nil, post_eq]
    have hl1 := postK_len init f m
    have hl2 := postK_len t.kids (f + Nd.sizes init) (m + Nd.sizes init + 1)
    have hts := t.size_eq
    have h1 := ih init f m R (by simpa using hl) hp (fun j hj => by
      rw [hs j (by omega), hpk, getD_left _ _ _ _ (by omega)]) hR
    have hlast : ent xs (f + (Nd.sizes init + t.size - 1)) = (t, f + Nd.sizes init, m + Nd.sizes init) := by
      rw [hs _ (by omega), hpk, getD_right _ _ _ _ (by omega), getD_right _ _ _ _ (by omega)]
      rw [show Nd.sizes init + t.size - 1 - (postK init f m).length - (postK t.kids (f + Nd.sizes init) (m + Nd.sizes init + 1)).length = 0 by omega]
      rfl
    have e1 : nd xs (f + (Nd.sizes init + t.size - 1)) = t := by unfold nd; rw [hlast]
    have e2 : lf xs (f + (Nd.sizes init + t.size - 1)) = f + Nd.sizes init := by unfold lf; rw [hlast]
    have hx : p + (f - p + (Nd.sizes init + t.size - 1)) = f + (Nd.sizes init + t.size - 1) := by omega
    have := IsF.cons (xs := xs) (p := p) (f - p + (Nd.sizes init + t.size - 1)) (f + Nd.sizes init - p) _ (by rw [hx, e2]; omega) (by omega) h1
    rw [hx, e1] at this
    rw [hsz, List.reverse_append, show f + (Nd.sizes init + t.size) - p = f - p + (Nd.sizes init + t.size - 1) + 1 by omega]
    exact this

theorem IsF.kids {xs : List Ent} (hg : Good xs) {p x y : Nat} {F : List Nd} (hx : p + x < xs.length) (h : lf xs (p + x) = p + y) (hF : IsF xs p y F) : IsF xs p x (rv (nd xs (p + x)) ++ F) := by
  have h1 := hg.lf_le (p + x) hx
  have := seg_IsF (xs := xs) (p := p) _ (nd xs (p + x)).kids (lf xs (p + x)) (nm xs (p + x) + 1) F rfl (by omega) (hg.seg (p + x) hx) (by rw [h, Nat.add_sub_cancel_left]; exact hF)
  rw [show lf xs (p + x) + Nd.sizes (nd xs (p + x)).kids - p = x by omega] at this
  exact this

theorem table_ok {xs ys : List Ent} (hgx : Good xs) (hgy : Good ys) {i k : Nat} (hi : i < xs.length) (hk : k < ys.length) {D F : Nat → Nat → Int} (hr : Rec xs ys i k D F)
    (hD : ∀ s t, lf xs i ≤ s → s ≤ i → lf ys k ≤ t → t ≤ k → (lf xs s ≠ lf xs i ∨ lf ys t ≠ lf ys k) → D s t = td (nd xs s) (nd ys t)) (n : Nat) :
    ∀ x y A B, x + y ≤ n → x ≤ i - lf xs i + 1 → y ≤ k - lf ys k + 1 → IsF xs (lf xs i) x A → IsF ys (lf ys k) y B → F x y = fd A B := by
  have hli := hgx.lf_le i hi
  have hlk := hgy.lf_le k hk
  induction n with
  | zero =>
    intro x y A B h _ _ hA hB
    obtain rfl : x = 0 := by omega
    obtain rfl : y = 0 := by omega
    cases hA; cases hB
    rw [hr.row 0 (by omega)]; rfl
  | succ n ih =>
    intro x y A B h hx hy hA hB
    have hsA := hA.sizes hgx (by omega)
    have hsB := hB.sizes hgy (by omega)
    cases hA with
    | nil => rw [hr.col y hy, fd_left, hsB]
    | cons x a A ha hax hA =>
      cases hB with
      | nil => rw [hr.row _ hx, fd_right, hsA]
      | cons y b B hb hby hB =>
        have hkA := hA.kids hgx (by omega) ha
        have hkB := hB.kids hgy (by omega) hb
        have i1 := ih x (y + 1) _ _ (by omega) (by omega) hy hkA (IsF.cons y b B hb hby hB)
        have i2 := ih (x + 1) y _ _ (by omega) hx (by omega) (IsF.cons x a A ha hax hA) hkB
        have i3 := ih a b _ _ (by omega) (by omega) (by omega) hA hB
        have ex : lf xs i + x - lf xs i = x := by omega
        have ey : lf ys k + y - lf ys k = y := by omega
        by_cases hal : lf xs (lf xs i + x) = lf xs i ∧ lf ys (lf ys k + y) = lf ys k
        · have h1 := hr.one (lf xs i + x) (lf ys k + y) (by omega) (by omega) (by omega) (by omega) hal.1 hal.2
          obtain rfl : a = 0 := by omega
          obtain rfl : b = 0 := by omega
          cases hA; cases hB
          rw [ex, ey] at h1
          have i4 := ih x y _ _ (by omega) (by omega) (by omega) hkA hkB
          rw [h1, i1, i2, i4, fd_cc]
          simp only [List.append_nil, fd_nn, cost]
          split <;> omega
        · have h1 := hr.two (lf xs i + x) (lf ys k + y) (by omega) (by omega) (by omega) (by omega) (by omega)
          have h2 := hD (lf xs i + x) (lf ys k + y) (by omega) (by omega) (by omega) (by omega) (by omega)
          rw [ex, ey, ha, hb, Nat.add_sub_cancel_left, Nat.add_sub_cancel_left, h2, i1, i2, i3] at h1
          rw [h1, fd_step]
          omega

theorem table_td {xs ys : List Ent} (hgx : Good xs) (hgy : Good ys) {i k : Nat} (hi : i < xs.length) (hk : k < ys.length) {D F : Nat → Nat → Int} (hr : Rec xs ys i k D F)
    (hD : ∀ s t, lf xs i ≤ s → s ≤ i → lf ys k ≤ t → t ≤ k → (lf xs s ≠ lf xs i ∨ lf ys t ≠ lf ys k) → D s t = td (nd xs s) (nd ys t))
    (s t : Nat) (h1 : lf xs i ≤ s) (h2 : s ≤ i) (h3 : lf ys k ≤ t) (h4 : t ≤ k) (h5 : lf xs s = lf xs i) (h6 : lf ys t = lf ys k) : F (s - lf xs i + 1) (t - lf ys k + 1) = td (nd xs s) (nd ys t) := by
  have a1 : IsF xs (lf xs i) (s - lf xs i + 1) [nd xs (lf xs i + (s - lf xs i))] := IsF.cons _ 0 _ (by rw [show lf xs i + (s - lf xs i) = s by omega, h5]; rfl) (by omega) .nil
  have a2 : IsF ys (lf ys k) (t - lf ys k + 1) [nd ys (lf ys k + (t - lf ys k))] := IsF.cons _ 0 _ (by rw [show lf ys k + (t - lf ys k) = t by omega, h6]; rfl) (by omega) .nil
  have := table_ok hgx hgy hi hk hr hD _ _ _ _ _ (Nat.le_refl _) (by omega) (by omega) a1 a2
  rw [show lf xs i + (s - lf xs i) = s by omega, show lf ys k + (t - lf ys k) = t by omega] at this
  exact this
end Go.Proofs.Ytjijfgkmjachnaa

namespace Go.Proofs.Ytjijfgkmjachnaa
set_option linter.unusedVariables false
set_option linter.unusedSimpArgs false

theorem postK_nums (n : Nat) : ∀ (l : List Nd), Nd.sizes l ≤ n → ∀ f m, ((postK l f m).map (·.2.2)).Perm (List.range' m (Nd.sizes l)) := by
  induction n with
  | zero =>
    intro l h f m
    cases l with
    | nil => simp [postK_nil, Nd.sizes_nil]
    | cons t ts => rw [Nd.sizes_cons] at h; have := t.size_pos; omega
  | succ n ih =>
    intro l
    induction l with
    | nil => intro _ f m; simp [postK_nil, Nd.sizes_nil]
    | cons t ts ihl =>
      intro h f m
      rw [Nd.sizes_cons] at h
      have hts := t.size_eq
      have h1 := ih t.kids (by omega) f (m + 1)
      have h2 := ihl (by omega) (f + t.size) (m + t.size)
      rw [postK_cons, List.map_append, Nd.sizes_cons, ← List.range'_append_1]
      refine List.Perm.append ?_ h2
      rw [post_eq, List.map_append, hts, Nat.add_comm 1, List.range'_succ]
      refine (List.perm_append_comm).trans ?_
      simpa using h1

theorem post_nums (t : Nd) : ((post t 0 0).map (·.2.2)).Perm (List.range' 0 t.size) := by
  have := postK_nums _ [t] (Nat.le_refl _) 0 0
  rw [postK_cons, postK_nil, List.append_nil, Nd.sizes_cons, Nd.sizes_nil, Nat.add_zero] at this
  exact this
theorem nm_get (xs : List Ent) (i : Nat) (h : i < xs.length) : (xs.map (·.2.2))[i]'(by simpa using h) = nm xs i := by
  simp [nm, ent, List.getD, h]
theorem nm_lt (t : Nd) (i : Nat) (h : i < t.size) : nm (post t 0 0) i < t.size := by
  have hl : i < (post t 0 0).length := by rw [post_len]; exact h
  have := (post_nums t).mem_iff.1 (by rw [← nm_get _ i hl]; exact List.getElem_mem _ : nm (post t 0 0) i ∈ (post t 0 0).map (·.2.2))
  simpa using this
theorem nm_inj (t : Nd) (i j : Nat) (hi : i < t.size) (hj : j < t.size) (h : nm (post t 0 0) i = nm (post t 0 0) j) : i = j := by
  have hn : ((post t 0 0).map (·.2.2)).Nodup := (post_nums t).nodup_iff.2 List.nodup_range'
  rw [← nm_get _ i (by rw [post_len]; exact hi), ← nm_get _ j (by rw [post_len]; exact hj)] at h
  exact (List.getElem_inj hn).1 h
theorem nm_surj (t : Nd) (s : Nat) (h : s < t.size) : ∃ i, i < t.size ∧ nm (post t 0 0) i = s := by
  have : s ∈ (post t 0 0).map (·.2.2) := (post_nums t).mem_iff.2 (by simpa using h)
  obtain ⟨i, hi, e⟩ := List.getElem_of_mem this
  have hi' : i < t.size := by rw [← post_len t 0 0]; simpa using hi
  exact ⟨i, hi', by rw [← nm_get _ i (by rw [post_len]; exact hi')]; exact e⟩
theorem post_last (t : Nd) : ent (post t 0 0) (t.size - 1) = (t, 0, 0) := by
  have hk := postK_len t.kids 0 1
  have hs := t.size_eq
  rw [ent_def, post_eq, getD_right _ _ _ _ (by rw [hk]; omega), hk, show t.size - 1 - Nd.sizes t.kids = 0 by omega]
  rfl

/-- i is the last place of its lf. -/
def Last (xs : List Ent) (i : Nat) : Prop := ∀ j, i < j → j < xs.length → lf xs j ≠ lf xs i
/-- a node below the root i that is not on i's own left path has its own root before i -/
theorem root_before {xs : List Ent} (hg : Good xs) {i s : Nat} (hi : i < xs.length) (h1 : lf xs i ≤ s) (h2 : s ≤ i) (hne : lf xs s ≠ lf xs i) {k : Nat} (hk : k < xs.length) (hks : lf xs k = lf xs s) : k < i := by
  rcases Nat.lt_trichotomy k i with h | h | h
  · exact h
  · subst h; exact absurd hks.symm hne
  · exfalso
    have hs := hg.lf_le s (by omega)
    have a := hg.lam h hk (by omega)
    have b := hg.lam (s := s) (j := i) (by rcases Nat.lt_or_ge s i with h | h; exact h; (exfalso; apply hne; rw [show s = i by omega])) hi h1
    omega
theorem last_le {xs : List Ent} (hg : Good xs) {i s : Nat} (hl : Last xs i) (hs : s < xs.length) (h : lf xs s = lf xs i) : lf xs i ≤ s ∧ s ≤ i := by
  have := hg.lf_le s hs
  refine ⟨by omega, ?_⟩
  rcases Nat.lt_or_ge i s with h' | h'
  · exact absurd h (hl s h' hs)
  · exact h'
theorem last_of {xs : List Ent} {s : Nat} (hs : s < xs.length) : ∃ k, k < xs.length ∧ lf xs k = lf xs s ∧ Last xs k := by
  have : ∀ d i, xs.length - i ≤ d → i < xs.length → lf xs i = lf xs s → ∃ k, k < xs.length ∧ lf xs k = lf xs s ∧ Last xs k := by
    intro d
    induction d with
    | zero => intro i h hi; omega
    | succ d ih =>
      intro i h hi he
      by_cases hq : ∃ j, i < j ∧ j < xs.length ∧ lf xs j = lf xs i
      · obtain ⟨j, h1, h2, h3⟩ := hq
        exact ih j (by omega) h2 (by rw [h3, he])
      · exact ⟨i, hi, he, fun j hj hjn hl => hq ⟨j, hj, hjn, hl⟩⟩
  exact this _ s (Nat.le_refl _) hs rfl
end Go.Proofs.Ytjijfgkmjachnaa

namespace Go.Proofs.Ytjijfgkmjachnaa
set_option linter.unusedVariables false
set_option linter.unusedSimpArgs false

theorem sameLabel_comm (a b : Nd) : sameLabel a b = sameLabel b a := by
  unfold sameLabel
  rw [Bool.beq_comm (a := a.kind), Bool.beq_comm (a := a.text.toList)]
theorem cost_comm (a b : Nd) : cost a b = cost b a := by unfold cost; rw [sameLabel_comm]
theorem cost_le (a b : Nd) : cost a b ≤ 1 := by unfold cost; split <;> omega
theorem cost_tri (a b c : Nd) : cost a c ≤ cost a b + cost b c := by
  unfold cost
  by_cases h1 : sameLabel a b = true
  · by_cases h2 : sameLabel b c = true
    · have h3 : sameLabel a c = true := by
        unfold sameLabel at *
        simp only [Bool.and_eq_true, beq_iff_eq] at *
        exact ⟨h1.1.trans h2.1, h1.2.trans h2.2⟩
      simp [h3]
    · simp only [h2]; split <;> simp
  · simp only [h1]; split <;> simp

theorem fd_comm_n (n : Nat) : ∀ F G : List Nd, Nd.sizes F + Nd.sizes G ≤ n → fd F G = fd G F := by
  induction n with
  | zero =>
    intro F G h
    cases F with
    | cons t F => rw [Nd.sizes_cons] at h; have := t.size_pos; omega
    | nil => cases G with
      | cons u G => rw [Nd.sizes_cons] at h; have := u.size_pos; omega
      | nil => rfl
  | succ n ih =>
    intro F G h
    cases F with
    | nil => rw [fd_left, fd_right]
    | cons t F =>
      cases G with
      | nil => rw [fd_left, fd_right]
      | cons u G =>
        rw [Nd.sizes_cons, Nd.sizes_cons] at h
        have ht := sizes_rv t
        have hu := sizes_rv u
        rw [fd_cc, fd_cc, ih (rv t ++ F) (u :: G) (by rw [Nd.sizes_append, Nd.sizes_cons]; omega), ih (t :: F) (rv u ++ G) (by rw [Nd.sizes_append, Nd.sizes_cons]; omega), ih (rv t) (rv u) (by omega), ih F G (by omega), cost_comm, Nat.min_comm (fd (u :: G) (rv t ++ F))]
theorem fd_comm (F G : List Nd) : fd F G = fd G F := fd_comm_n _ F G (Nat.le_refl _)
theorem td_comm (t u : Nd) : td t u = td u t := fd_comm _ _

theorem fd_ge_n (n : Nat) : ∀ F G : List Nd, Nd.sizes F + Nd.sizes G ≤ n → Nd.sizes G ≤ Nd.sizes F + fd F G := by
  induction n with
  | zero =>
    intro F G h
    omega
  | succ n ih =>
    intro F G h
    cases G with
    | nil => rw [Nd.sizes_nil]; omega
    | cons u G =>
      cases F with
      | nil => rw [fd_left]; omega
      | cons t F =>
        have h0 := h
        rw [Nd.sizes_cons, Nd.sizes_cons] at h
        have ht := sizes_rv t
        have hu := sizes_rv u
        have h1 := ih (rv t ++ F) (u :: G) (by rw [Nd.sizes_append, Nd.sizes_cons]; omega)
        have h2 := ih (t :: F) (rv u ++ G) (by rw [Nd.sizes_append, Nd.sizes_cons]; omega)
        have h3 := ih (rv t) (rv u) (by omega)
        have h4 := ih F G (by omega)
        rw [Nd.sizes_append, Nd.sizes_cons] at h1 h2
        rw [Nd.sizes_cons, Nd.sizes_cons]
        rcases fd_cases t u F G with e | e | e <;> rw [e] <;> omega
theorem fd_ge (F G : List Nd) : Nd.sizes G ≤ Nd.sizes F + fd F G := fd_ge_n _ F G (Nat.le_refl _)
theorem fd_le (F G : List Nd) : fd F G ≤ Nd.sizes F + Nd.sizes G := by
  have := fd_app F [] [] G
  rw [List.append_nil, List.nil_append, fd_right, fd_left] at this
  exact this

theorem fd_tri_n (n : Nat) : ∀ F G H : List Nd, Nd.sizes F + Nd.sizes G + Nd.sizes H ≤ n → fd F H ≤ fd F G + fd G H := by
  induction n with
  | zero =>
    intro F G H h
    cases F with
    | cons t F => rw [Nd.sizes_cons] at h; have := t.size_pos; omega
    | nil => cases H with
      | cons u H => rw [Nd.sizes_cons] at h; have := u.size_pos; omega
      | nil => rw [fd_nn]; omega
  | succ n ih =>
    intro F G H h
    cases F with
    | nil => rw [fd_left, fd_left]; exact fd_ge G H
    | cons t F =>
      cases H with
      | nil => rw [fd_right, fd_right]; have := fd_ge G (t :: F); rw [fd_comm] at this; omega
      | cons v H =>
        cases G with
        | nil => rw [fd_right, fd_left]; exact fd_le _ _
        | cons u G =>
          rw [Nd.sizes_cons, Nd.sizes_cons, Nd.sizes_cons] at h
          have ht := sizes_rv t
          have hu := sizes_rv u
          have hv := sizes_rv v
          have dl := fd_del t F (v :: H)
          have is := fd_ins v (t :: F) H
          have pr := fd_pair t v F H
          have a1 := fd_app (rv u) G (rv v) H
          have a2 := fd_app (rv t) F (rv u) G
          rcases fd_cases t u F G with e | e | e
          · have i1 := ih (rv t ++ F) (u :: G) (v :: H) (by rw [Nd.sizes_append, Nd.sizes_cons, Nd.sizes_cons]; omega)
            omega
          · rcases fd_cases u v G H with e2 | e2 | e2
            · have i1 := ih (t :: F) (rv u ++ G) (v :: H) (by rw [Nd.sizes_append, Nd.sizes_cons, Nd.sizes_cons]; omega)
              omega
            · have i1 := ih (t :: F) (u :: G) (rv v ++ H) (by rw [Nd.sizes_append, Nd.sizes_cons, Nd.sizes_cons]; omega)
              omega
            · have i1 := ih (t :: F) (rv u ++ G) (rv v ++ H) (by rw [Nd.sizes_append, Nd.sizes_append, Nd.sizes_cons]; omega)
              omega
          · rcases fd_cases u v G H with e2 | e2 | e2
            · have i1 := ih (rv t ++ F) (rv u ++ G) (v :: H) (by rw [Nd.sizes_append, Nd.sizes_append, Nd.sizes_cons]; omega)
              omega
            · have i1 := ih (t :: F) (u :: G) (rv v ++ H) (by rw [Nd.sizes_append, Nd.sizes_cons, Nd.sizes_cons]; omega)
              omega
            · have i1 := ih (rv t) (rv u) (rv v) (by omega)
              have i2 := ih F G H (by omega)
              have ct := cost_tri t u v
              omega
theorem fd_tri (F G H : List Nd) : fd F H ≤ fd F G + fd G H := fd_tri_n _ F G H (Nat.le_refl _)
theorem td_tri (t u v : Nd) : td t v ≤ td t u + td u v := fd_tri _ _ _
end Go.Proofs.Ytjijfgkmjachnaa

namespace Go.Proofs.Ytjijfgkmjachnaa
set_option linter.unusedVariables false
set_option linter.unusedSimpArgs false

theorem size_le_sizes : ∀ (l : List Nd) (i : Nat) (h : i < l.length), (l[i]).size ≤ Nd.sizes l
  | t :: ts, 0, _ => by rw [Nd.sizes_cons]; simp
  | t :: ts, i + 1, h => by
    have := size_le_sizes ts i (by simpa using h)
    rw [Nd.sizes_cons]
    simp only [List.getElem_cons_succ]
    omega

theorem fd_zero : ∀ F G : List Nd, fd F G = 0 ↔ F.length = G.length ∧ ∀ i (h : i < F.length) (h' : i < G.length), td F[i] G[i] = 0
  | [], [] => by simp [fd_nn]
  | t :: F, [] => by rw [fd_right, Nd.sizes_cons]; have := t.size_pos; simp; omega
  | [], u :: G => by rw [fd_left, Nd.sizes_cons]; have := u.size_pos; simp; omega
  | t :: F, u :: G => by
    have ih := fd_zero F G
    rw [fd_step]
    constructor
    · intro h
      have h1 : fd F G = 0 := by omega
      have h2 : td t u = 0 := by omega
      obtain ⟨e, f⟩ := ih.1 h1
      refine ⟨by simp [e], fun i h h' => ?_⟩
      cases i with
      | zero => exact h2
      | succ i => exact f i (by simpa using h) (by simpa using h')
    · rintro ⟨e, f⟩
      have h1 : fd F G = 0 := ih.2 ⟨by simpa using e, fun i h h' => f (i + 1) (by simpa using h) (by simpa using h')⟩
      have h2 : td t u = 0 := f 0 (by simp) (by simp)
      omega
theorem td_zero (t u : Nd) : td t u = 0 ↔ sameLabel t u = true ∧ fd (rv t) (rv u) = 0 := by
  unfold td
  rw [fd_cc, fd_nn]
  unfold cost
  constructor
  · intro h
    by_cases hs : sameLabel t u = true
    · exact ⟨hs, by rw [if_pos hs] at h; omega⟩
    · rw [if_neg hs] at h; omega
  · rintro ⟨hs, h⟩
    rw [if_pos hs]; omega
theorem rv_zero (t u : Nd) : fd (rv t) (rv u) = 0 ↔ t.kids.length = u.kids.length ∧ ∀ i (h : i < t.kids.length) (h' : i < u.kids.length), td t.kids[i] u.kids[i] = 0 := by
  rw [fd_zero]
  unfold rv
  simp only [List.length_reverse]
  refine and_congr_right fun e => ⟨fun f i h h' => ?_, fun f i h h' => ?_⟩
  · have := f (t.kids.length - 1 - i) (by omega) (by omega)
    rw [List.getElem_reverse, List.getElem_reverse] at this
    have e1 : t.kids.length - 1 - (t.kids.length - 1 - i) = i := by omega
    have e2 : u.kids.length - 1 - (t.kids.length - 1 - i) = i := by omega
    simp only [e1, e2] at this
    exact this
  · rw [List.getElem_reverse, List.getElem_reverse]
    have e2 : u.kids.length - 1 - i = t.kids.length - 1 - i := by omega
    simp only [e2]
    exact f _ _ _
theorem sameN_iff (n : Nat) : ∀ a b : Nd, a.size ≤ n → (sameN n a b = true ↔ td a b = 0) := by
  induction n with
  | zero => intro a b h; have := a.size_pos; omega
  | succ n ih =>
    intro a b h
    rw [td_zero, rv_zero]
    simp only [sameN, Bool.and_eq_true, beq_iff_eq, List.all_eq_true, and_assoc]
    refine and_congr_right fun _ => and_congr_right fun e => ⟨fun f i h1 h2 => ?_, fun f x hx => ?_⟩
    · have hk := Nd.size_eq a
      have hs : (a.kids[i]).size ≤ n := by have := size_le_sizes a.kids i h1; omega
      refine (ih _ _ hs).1 (f _ ?_)
      rw [List.mem_iff_getElem]
      exact ⟨i, by simp; omega, by simp⟩
    · obtain ⟨i, hi, rfl⟩ := List.mem_iff_getElem.1 hx
      simp only [List.length_zipWith] at hi
      have hk := Nd.size_eq a
      have hs : (a.kids[i]'(by omega)).size ≤ n := by have := size_le_sizes a.kids i (by omega); omega
      rw [List.getElem_zipWith]
      exact (ih _ _ hs).2 (f i (by omega) (by omega))
end Go.Proofs.Ytjijfgkmjachnaa

namespace Go.Proofs.Ytjijfgkmjachnaa
set_option linter.unusedVariables false
set_option linter.unusedSimpArgs false

def Nd.setKids (t : Nd) (l : List Nd) : Nd := .mk t.kind t.text t.pos t.fin l
/-- x is t with one subtree 'old' replaced by u. -/
inductive Rep (u : Nd) : Nd → Nd → Nd → Prop where
  | here (t : Nd) : Rep u t u t
  | kid (t x old : Nd) (i : Nat) (h : i < t.kids.length) (r : Rep u t.kids[i] x old) : Rep u t (t.setKids (t.kids.set i x)) old

theorem setKids_kids (t : Nd) (l : List Nd) : (t.setKids l).kids = l := rfl
theorem sameLabel_set (t : Nd) (l : List Nd) : sameLabel t (t.setKids l) = true := by
  unfold sameLabel Nd.setKids
  cases t
  simp [Nd.kind, Nd.text]
theorem sameLabel_self (t : Nd) : sameLabel t t = true := by
  unfold sameLabel
  simp
theorem td_self_n (n : Nat) : ∀ a : Nd, a.size ≤ n → td a a = 0 := by
  induction n with
  | zero => intro a h; have := a.size_pos; omega
  | succ n ih =>
    intro a h
    have ha := a.size_eq
    exact (td_zero a a).2 ⟨sameLabel_self a, (rv_zero a a).2 ⟨rfl, fun i h1 _ => ih _ (by have := size_le_sizes a.kids i h1; omega)⟩⟩
theorem td_self (a : Nd) : td a a = 0 := td_self_n _ a (Nat.le_refl _)
theorem fd_self (F : List Nd) : fd F F = 0 := (fd_zero F F).2 ⟨rfl, fun _ _ _ => td_self _⟩

theorem split_at (l : List Nd) (i : Nat) (h : i < l.length) (x : Nd) : l = l.take i ++ l[i] :: l.drop (i + 1) ∧ l.set i x = l.take i ++ x :: l.drop (i + 1) := by
  constructor
  · rw [List.getElem_cons_drop, List.take_append_drop]
  · rw [List.set_eq_take_append_cons_drop, if_pos h]

theorem Rep.td_le {u t x old : Nd} (r : Rep u t x old) : td t x ≤ td old u := by
  induction r with
  | here t => exact Nat.le_refl _
  | kid t x old i h r ih =>
    have h1 := td_le_pair t (t.setKids (t.kids.set i x))
    have hc : cost t (t.setKids (t.kids.set i x)) = 0 := by unfold cost; rw [sameLabel_set]; rfl
    obtain ⟨e1, e2⟩ := split_at t.kids i h x
    have h2 : fd (rv t) (rv (t.setKids (t.kids.set i x))) ≤ td t.kids[i] x := by
      unfold rv
      rw [setKids_kids, e2]
      conv => lhs; arg 1; rw [e1]
      rw [List.reverse_append, List.reverse_append, List.reverse_cons, List.reverse_cons, List.append_assoc, List.append_assoc]
      have a1 := fd_app (t.kids.drop (i + 1)).reverse ([t.kids[i]] ++ (t.kids.take i).reverse) (t.kids.drop (i + 1)).reverse ([x] ++ (t.kids.take i).reverse)
      have a2 := fd_app [t.kids[i]] (t.kids.take i).reverse [x] (t.kids.take i).reverse
      rw [fd_self] at a1 a2
      have : fd [t.kids[i]] [x] = td t.kids[i] x := rfl
      omega
    omega
theorem Rep.size_le {u t x old : Nd} (r : Rep u t x old) : x.size ≤ t.size + u.size ∧ old.size ≤ t.size := by
  induction r with
  | here t => exact ⟨by omega, Nat.le_refl _⟩
  | kid t x old i h r ih =>
    obtain ⟨e1, e2⟩ := split_at t.kids i h x
    have s1 : Nd.sizes t.kids = Nd.sizes (t.kids.take i) + (t.kids[i].size + Nd.sizes (t.kids.drop (i + 1))) := by
      conv => lhs; rw [e1]
      rw [Nd.sizes_append, Nd.sizes_cons]
    have s2 : (t.setKids (t.kids.set i x)).size = 1 + (Nd.sizes (t.kids.take i) + (x.size + Nd.sizes (t.kids.drop (i + 1)))) := by
      rw [Nd.size_eq, setKids_kids, e2, Nd.sizes_append, Nd.sizes_cons]
    have := t.size_eq
    omega
end Go.Proofs.Ytjijfgkmjachnaa
