/- Plain: the places that Winnow chooses. -/
import Derived.Test.YtpkjiimcoepjpaaDoorT15
namespace Go.Proofs.YtpkjiimcoepjpaaDoor
set_option linter.unusedVariables false
set_option linter.unusedSimpArgs false

/-- the place of the window that ends at j -/
def atW (h : List Int) (w j : Nat) : Nat := lst h (j + 1 - w) (j - (j + 1 - w))
theorem atW_ok (h : List Int) {w j : Nat} (hw : 1 ≤ w) : Lst h (j + 1 - w) j (atW h w j) := by
  have := lst_ok h (j + 1 - w) (j - (j + 1 - w))
  rw [show j + 1 - w + (j - (j + 1 - w)) = j by omega] at this
  exact this
theorem atW_mono (h : List Int) {w j j' : Nat} (hw : 1 ≤ w) (hj : j ≤ j') : atW h w j ≤ atW h w j' := by
  induction j' with
  | zero => have : j = 0 := by omega
            subst this; exact Nat.le_refl _
  | succ j' ih =>
    by_cases he : j = j' + 1
    · subst he; exact Nat.le_refl _
    · refine Nat.le_trans (ih (by omega)) ?_
      by_cases hw1 : w = 1
      · subst hw1
        have h1 := (atW_ok h (w := 1) (j := j') (Nat.le_refl _)).hi
        have h2 := (atW_ok h (w := 1) (j := j' + 1) (Nat.le_refl _)).lo
        omega
      · exact Lst.mono (atW_ok h (j := j') hw) (atW_ok h (j := j' + 1) hw) (by omega) (by omega) (by omega)
/-- what is chosen by the windows that end before i -/
def outP (h : List Int) (w : Nat) : Nat → List Nat
  | 0 => []
  | i + 1 => if w ≤ i + 1 ∧ (outP h w i).getLast? ≠ some (atW h w i) then outP h w i ++ [atW h w i] else outP h w i
theorem outP_spec (h : List Int) {w : Nat} (hw : 1 ≤ w) : ∀ i, (outP h w i).Pairwise (· < ·) ∧ (∀ p, p ∈ outP h w i ↔ ∃ j, w ≤ j + 1 ∧ j < i ∧ atW h w j = p) ∧ (∀ i', i = i' + 1 → w ≤ i → (outP h w i).getLast? = some (atW h w i'))
  | 0 => ⟨List.Pairwise.nil, fun p => by simp [outP], fun i' h => by omega⟩
  | i + 1 => by
    obtain ⟨h1, h2, h3⟩ := outP_spec h hw i
    unfold outP
    split
    · rename_i hc
      refine ⟨?_, fun p => ?_, fun i' hi' _ => ?_⟩
      · rw [List.pairwise_append]
        refine ⟨h1, List.pairwise_singleton _ _, fun p hp q hq => ?_⟩
        have hq : q = atW h w i := by simpa using hq
        subst hq
        obtain ⟨j, hj1, hj2, rfl⟩ := (h2 p).1 hp
        have hm := atW_mono h hw (show j ≤ i - 1 by omega)
        have hm2 := atW_mono h hw (show i - 1 ≤ i by omega)
        have hl := h3 (i - 1) (by omega) (by omega)
        rcases Nat.eq_or_lt_of_le hm2 with he | he
        · rw [hl, he] at hc; exact absurd rfl hc.2
        · omega
      · rw [List.mem_append, h2 p]
        constructor
        · rintro (⟨j, a, b, c⟩ | hp)
          · exact ⟨j, a, by omega, c⟩
          · have hp : p = atW h w i := by simpa using hp
            exact ⟨i, hc.1, by omega, hp.symm⟩
        · rintro ⟨j, a, b, c⟩
          by_cases hj : j = i
          · right; subst hj; simp [c]
          · left; exact ⟨j, a, by omega, c⟩
      · obtain rfl : i' = i := by omega
        simp
    · rename_i hc
      by_cases hwi : w ≤ i + 1
      · have hl : (outP h w i).getLast? = some (atW h w i) := by
          by_cases he : (outP h w i).getLast? = some (atW h w i)
          · exact he
          · exact absurd ⟨hwi, he⟩ hc
        refine ⟨h1, fun p => ?_, fun i' hi' _ => by obtain rfl : i' = i := by omega
                                                    exact hl⟩
        rw [h2 p]
        constructor
        · rintro ⟨j, a, b, c⟩; exact ⟨j, a, by omega, c⟩
        · rintro ⟨j, a, b, c⟩
          by_cases hj : j = i
          · subst hj
            exact (h2 p).1 (by rw [← c]; exact List.mem_of_getLast? hl)
          · exact ⟨j, a, by omega, c⟩
      · refine ⟨h1, fun p => ?_, fun i' hi' h => absurd h hwi⟩
        rw [h2 p]
        constructor
        · rintro ⟨j, a, b, c⟩; exact ⟨j, a, by omega, c⟩
        · rintro ⟨j, a, b, c⟩; exact ⟨j, a, by omega, c⟩
/-- sorted lists of the same members are the same -/
theorem sorted_ext : ∀ (l m : List Nat), l.Pairwise (· < ·) → m.Pairwise (· < ·) → (∀ p, p ∈ l ↔ p ∈ m) → l = m
  | [], [], _, _, _ => rfl
  | [], b :: m, _, _, h => absurd ((h b).2 (by simp)) (by simp)
  | a :: l, [], _, _, h => absurd ((h a).1 (by simp)) (by simp)
  | a :: l, b :: m, hl, hm, h => by
    have ha : ∀ q ∈ l, a < q := fun q hq => List.rel_of_pairwise_cons hl hq
    have hb : ∀ q ∈ m, b < q := fun q hq => List.rel_of_pairwise_cons hm hq
    have hab : a = b := by
      rcases List.mem_cons.1 ((h a).1 (by simp)) with e | e
      · exact e
      · rcases List.mem_cons.1 ((h b).2 (by simp)) with e2 | e2
        · exact e2.symm
        · have h1 := hb a e
          have h2 := ha b e2
          omega
    subst hab
    congr 1
    refine sorted_ext l m hl.of_cons hm.of_cons fun p => ⟨fun hp => ?_, fun hp => ?_⟩
    · rcases List.mem_cons.1 ((h p).1 (by simp [hp])) with e | e
      · have := ha p hp
        omega
      · exact e
    · rcases List.mem_cons.1 ((h p).2 (by simp [hp])) with e | e
      · have := hb p hp
        omega
      · exact e
end Go.Proofs.YtpkjiimcoepjpaaDoor
