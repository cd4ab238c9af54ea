/- Trees and preorder lists as the printed texts tell them. -/
import Derived.Test.YtjijfgkmjachnaaT65
import Derived.Test.YtjijfgkmjachnaaC10
import Derived.Test.YtjijfgkmjachnaaPDistanceMappingx9
namespace Go.Proofs.Ytjijfgkmjachnaa
set_option linter.unusedVariables false
set_option linter.unusedSimpArgs false
open Go.RowKit Go.Proofs.YtjijfgkmjachnaaW.PrintWords
open PDistanceMapping (S24 S73 z24 z73 rd_T24 rd_T73 k24 k73 k24_mk k73_mk)

def toSN : Nat → Nd → S24
  | 0, t => ⟨t.kind, t.text, t.pos, t.fin, []⟩
  | n + 1, t => ⟨t.kind, t.text, t.pos, t.fin, t.kids.map (toSN n)⟩
theorem toSN_stable (n : Nat) : ∀ (m : Nat) (t : Nd), t.size ≤ n → t.size ≤ m → toSN n t = toSN m t := by
  induction n with
  | zero => intro m t h; have := t.size_pos; omega
  | succ n ih =>
    intro m t h h2
    cases m with
    | zero => have := t.size_pos; omega
    | succ m =>
      simp only [toSN]
      congr 1
      refine List.map_congr_left fun k hk => ?_
      have := Nd.size_kid hk
      exact ih m k (by omega) (by omega)
def toS (t : Nd) : S24 := toSN t.size t
theorem toS_eq (t : Nd) : toS t = ⟨t.kind, t.text, t.pos, t.fin, t.kids.map toS⟩ := by
  unfold toS
  have hp := t.size_pos
  obtain ⟨n, hn⟩ : ∃ n, t.size = n + 1 := ⟨t.size - 1, by omega⟩
  rw [hn]
  simp only [toSN]
  congr 1
  refine List.map_congr_left fun k hk => ?_
  have := Nd.size_kid hk
  exact toSN_stable _ _ k (by omega) (Nat.le_refl _)
def cv (x : Nd × Nat) : S73 := ⟨toS x.1, (x.2 : Nat)⟩

theorem kidsN_le {w : World} {t : Nd} {A : Option Addr} {c : Nat} (h : RN w t A c) : t.kids.length ≤ c := by
  rcases h with ⟨_, b, o, _, As, cs, hc, hm, hcell, hsub⟩ | ⟨_, _, _, h⟩
  · exact hc
  · rw [h]; exact Nat.zero_le _
theorem kK {w : World} {t : Nd} {A : Option Addr} {c : Nat} (h2 : t.kids.length ≤ c) (h1 : Kd.C k24 w A t.kids.length (t.kids.map toS)) : k24.K w (toS t) (cells5 t A c) := by
  rw [toS_eq]
  have h3 := k24_mk w ⟨t.kind, t.text, t.pos, t.fin, t.kids.map toS⟩ (A4 := A) (c4 := c) (by simpa using h2) (by simpa using h1)
  simp only [List.length_map] at h3
  exact h3
theorem kc {w : World} {t : Nd} {A : Option Addr} {c : Nat} (h : RN w t A c) : Kd.C k24 w A t.kids.length (t.kids.map toS) := by
  induction h with
  | mk t b o c As cs hc hm hcell hsub ih =>
    refine ⟨by rw [List.length_map], hm, fun _ => ⟨⟨b, o, none⟩, rfl, fun j p hp => ?_⟩⟩
    rw [List.getElem?_map] at hp
    obtain ⟨k, hk, rfl⟩ := Option.map_eq_some_iff.1 hp
    obtain ⟨hj, rfl⟩ := List.getElem?_eq_some_iff.1 hk
    refine ⟨cells5 t.kids[j] (As j) (cs j), rfl, ?_, fun i u hu => ?_⟩
    · exact kK (kidsN_le (hsub j hj)) (ih j hj)
    · have hi : i < 5 := (List.getElem?_eq_some_iff.1 hu).1
      have h1 := (hcell j hj).cell i hi
      rw [Go.WideShapes.add_plain, ← Nat.add_assoc]
      exact h1.trans hu
  | nil t c A h =>
    rw [h]
    exact ⟨rfl, by simp, fun h => by simp at h⟩

/-- the six cells of an entry of a preorder list -/
def cells6 (x : Nd × Nat) (A : Option Addr) (c : Nat) : List Value := cells5 x.1 A c ++ [.int .i64 (x.2 : Nat)]
def rowL (As : Nat → Option Addr) (cs : Nat → Nat) : Nat → List (Nd × Nat) → List Value
  | _, [] => []
  | i, x :: l => cells6 x (As i) (cs i) ++ rowL As cs (i + 1) l
theorem rowL_len (As : Nat → Option Addr) (cs : Nat → Nat) : ∀ (l : List (Nd × Nat)) (i : Nat), (rowL As cs i l).length = l.length * 6
  | [], _ => rfl
  | x :: l, i => by rw [rowL, List.length_append, rowL_len As cs l (i + 1), List.length_cons]; simp [cells6, cells5]; omega
theorem rowL_get (As : Nat → Option Addr) (cs : Nat → Nat) : ∀ (l : List (Nd × Nat)) (i j k : Nat) (h : j < l.length), k < 6 → (rowL As cs i l)[j * 6 + k]? = (cells6 l[j] (As (i + j)) (cs (i + j)))[k]?
  | [], _, _, _, h, _ => by simp at h
  | x :: l, i, 0, k, h, hk => by rw [rowL, List.getElem?_append_left (by simp [cells6, cells5]; omega)]; simp
  | x :: l, i, j + 1, k, h, hk => by
    rw [rowL, List.getElem?_append_right (by simp [cells6, cells5]; omega)]
    have := rowL_get As cs l (i + 1) j k (by simpa using h) hk
    rw [show (j + 1) * 6 + k - (cells6 x (As i) (cs i)).length = j * 6 + k by simp [cells6, cells5]; omega, this, show i + 1 + j = i + (j + 1) by omega]
    rfl
theorem rowL_one (As : Nat → Option Addr) (cs : Nat → Nat) : ∀ (l : List (Nd × Nat)) (i : Nat), ∀ u ∈ rowL As cs i l, u.oneCell' = true
  | [], _, u, h => by simp [rowL] at h
  | x :: l, i, u, h => by
    rw [rowL] at h
    rcases List.mem_append.1 h with h | h
    · simp only [cells6, cells5, List.cons_append, List.nil_append, List.mem_cons, List.not_mem_nil, or_false] at h
      rcases h with rfl | rfl | rfl | rfl | rfl | rfl <;> rfl
    · exact rowL_one As cs l (i + 1) u h
theorem rowL_congr (As As' : Nat → Option Addr) (cs cs' : Nat → Nat) : ∀ (l : List (Nd × Nat)) (i i' : Nat), (∀ j, j < l.length → As (i + j) = As' (i' + j) ∧ cs (i + j) = cs' (i' + j)) → rowL As cs i l = rowL As' cs' i' l
  | [], _, _, _ => rfl
  | x :: l, i, i', h => by
    have h0 := h 0 (by simp)
    rw [Nat.add_zero, Nat.add_zero] at h0
    rw [rowL, rowL, h0.1, h0.2, rowL_congr As As' cs cs' l (i + 1) (i' + 1) (fun j hj => by
      have := h (j + 1) (by simp; omega)
      rw [show i + 1 + j = i + (j + 1) by omega, show i' + 1 + j = i' + (j + 1) by omega]
      exact this)]
theorem rowL_app (As : Nat → Option Addr) (cs : Nat → Nat) : ∀ (l l' : List (Nd × Nat)) (i : Nat), rowL As cs i (l ++ l') = rowL As cs i l ++ rowL As cs (i + l.length) l'
  | [], l', i => by simp [rowL]
  | x :: l, l', i => by rw [List.cons_append, rowL, rowL, rowL_app As cs l l' (i + 1), List.append_assoc, List.length_cons, show i + (l.length + 1) = i + 1 + l.length by omega]
/-- two address lists, one behind the other -/
def glue {α : Type} (n : Nat) (f g : Nat → α) : Nat → α := fun i => if i < n then f i else g (i - n)
theorem rowL_glue (As As' : Nat → Option Addr) (cs cs' : Nat → Nat) (l l' : List (Nd × Nat)) : rowL (glue l.length As As') (glue l.length cs cs') 0 (l ++ l') = rowL As cs 0 l ++ rowL As' cs' 0 l' := by
  rw [rowL_app]
  congr 1
  · exact rowL_congr _ _ _ _ _ _ _ (fun j hj => by simp [glue, hj])
  · refine rowL_congr _ _ _ _ _ _ _ (fun j hj => ?_)
    unfold glue
    rw [if_neg (by omega), if_neg (by omega), Nat.zero_add, Nat.zero_add, Nat.add_sub_cancel_left]
    exact ⟨rfl, rfl⟩

/-- A preorder list of the call's own, as the printed texts read it. -/
theorem own_kc {w : World} {base : Nat} {v : Value} {l : List (Nd × Nat)} {As : Nat → Option Addr} {cs : Nat → Nat} (h : w.ownsRow base 73 6 v l.length (rowL As cs 0 l)) (hl : l.length ≤ 1000000) (hr : ∀ i (h : i < l.length), RN w l[i].1 (As i) (cs i)) :
    ∃ A c, v = .slice A l.length c ∧ l.length ≤ c ∧ Kd.C k73 w A (l.map cv).length (l.map cv) := by
  rcases h.2 with ⟨rfl, h0⟩ | ⟨g, cap, cur, rfl, hb, hg, hkc, hcm, hcs, htake⟩
  · have : l = [] := List.eq_nil_of_length_eq_zero h0
    subst this
    exact ⟨none, 0, rfl, Nat.le_refl _, rfl, by simp, fun h => by simp at h⟩
  · refine ⟨_, cap, rfl, hkc, rfl, by rw [List.length_map]; omega, fun _ => ⟨⟨g, 0, none⟩, rfl, fun j p hp => ?_⟩⟩
    rw [List.getElem?_map] at hp
    obtain ⟨k, hk, rfl⟩ := Option.map_eq_some_iff.1 hp
    obtain ⟨hj, rfl⟩ := List.getElem?_eq_some_iff.1 hk
    refine ⟨cells6 l[j] (As j) (cs j), rfl, ?_, fun i u hu => ?_⟩
    · have h2 := kidsN_le (hr j hj)
      have h1 := kc (hr j hj)
      have h3 := k73_mk w ⟨⟨l[j].1.kind, l[j].1.text, l[j].1.pos, l[j].1.fin, l[j].1.kids.map toS⟩, (l[j].2 : Nat)⟩ (A4 := As j) (c4 := cs j) (by simpa using h2) (by simpa using h1)
      simp only [List.length_map] at h3
      unfold cv
      rw [toS_eq]
      exact h3
    · have hi : i < 6 := (List.getElem?_eq_some_iff.1 hu).1
      have h1 := h.cellAt (j * 6 + i) (by omega)
      rw [rowL_get As cs l 0 j i hj hi, Nat.zero_add] at h1
      rw [Go.WideShapes.add_plain, Nat.zero_add]
      exact h1.trans hu
end Go.Proofs.Ytjijfgkmjachnaa
