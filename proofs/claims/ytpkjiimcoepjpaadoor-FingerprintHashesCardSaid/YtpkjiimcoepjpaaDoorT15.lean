/- Plain: the queue of Winnow. -/
import Derived.Test.YtpkjiimcoepjpaaDoorT14
namespace Go.Proofs.YtpkjiimcoepjpaaDoor
set_option linter.unusedVariables false
set_option linter.unusedSimpArgs false

/-- p is less than all behind it, up to i -/
def sufB (h : List Int) (i p : Nat) : Bool := (List.range i).all fun q => !decide (p < q) || decide (hv h p < hv h q)
theorem sufB_iff (h : List Int) (i p : Nat) : sufB h i p = true ↔ ∀ q, p < q → q < i → hv h p < hv h q := by
  unfold sufB
  rw [List.all_eq_true]
  constructor
  · intro H q h1 h2
    have := H q (List.mem_range.2 h2)
    simp [h1] at this
    exact this
  · intro H q hq
    have hq := List.mem_range.1 hq
    by_cases h1 : p < q
    · simp [h1, H q h1 hq]
    · simp [h1]
/-- the places from a on, before i, that can still be the least ones -/
def winQ (h : List Int) (a i : Nat) : List Nat := (List.range i).filter fun p => decide (a ≤ p) && sufB h i p
theorem winQ_mem {h : List Int} {a i p : Nat} : p ∈ winQ h a i ↔ p < i ∧ a ≤ p ∧ ∀ q, p < q → q < i → hv h p < hv h q := by
  unfold winQ
  rw [List.mem_filter, List.mem_range, Bool.and_eq_true, sufB_iff, decide_eq_true_iff]
theorem winQ_sorted (h : List Int) (a i : Nat) : (winQ h a i).Pairwise (· < ·) := List.Pairwise.filter _ List.pairwise_lt_range
theorem winQ_inc (h : List Int) (a i : Nat) : (winQ h a i).Pairwise (fun p q => p < q ∧ hv h p < hv h q) := by
  refine (List.Pairwise.and_mem.1 (winQ_sorted h a i)).imp fun {p q} ⟨hp, hq, hpq⟩ => ⟨hpq, ?_⟩
  exact (winQ_mem.1 hp).2.2 q hpq (winQ_mem.1 hq).1
/-- what the pops leave -/
def popQ (h : List Int) (x : Int) (Q : List Nat) : List Nat := (Q.reverse.dropWhile fun p => decide (x ≤ hv h p)).reverse
theorem popQ_nil (h : List Int) (x : Int) : popQ h x [] = [] := rfl
theorem popQ_hit (h : List Int) (x : Int) (Q : List Nat) (p : Nat) (hp : x ≤ hv h p) : popQ h x (Q ++ [p]) = popQ h x Q := by
  unfold popQ; rw [List.reverse_append]; simp [hp]
theorem popQ_stop (h : List Int) (x : Int) (Q : List Nat) (p : Nat) (hp : ¬ x ≤ hv h p) : popQ h x (Q ++ [p]) = Q ++ [p] := by
  unfold popQ; rw [List.reverse_append]; simp [hp]
theorem popQ_filter (h : List Int) (x : Int) (n : Nat) : ∀ Q : List Nat, Q.length = n → Q.Pairwise (fun p q => p < q ∧ hv h p < hv h q) → popQ h x Q = Q.filter (fun p => decide (hv h p < x)) := by
  induction n with
  | zero => intro Q hQ _; rw [List.eq_nil_of_length_eq_zero hQ]; rfl
  | succ n ih =>
    intro Q hQ hp
    obtain ⟨Q', p, rfl⟩ : ∃ Q' p, Q = Q' ++ [p] := ⟨Q.dropLast, Q.getLast (by intro e; rw [e] at hQ; simp at hQ), (List.dropLast_concat_getLast _).symm⟩
    have hp' := List.pairwise_append.1 hp
    rw [List.filter_append]
    by_cases hx : x ≤ hv h p
    · rw [popQ_hit _ _ _ _ hx, ih Q' (by simpa using hQ) hp'.1]
      have : decide (hv h p < x) = false := by rw [decide_eq_false_iff_not]; omega
      simp [this]
    · rw [popQ_stop _ _ _ _ hx]
      have h1 : Q'.filter (fun p => decide (hv h p < x)) = Q' := by
        rw [List.filter_eq_self]
        intro q hq
        have := (hp'.2.2 q hq p (by simp)).2
        rw [decide_eq_true_iff]; omega
      have h2 : decide (hv h p < x) = true := by rw [decide_eq_true_iff]; omega
      rw [h1]
      simp [h2]
/-- one place more -/
theorem winQ_push (h : List Int) (a i : Nat) (ha : a ≤ i) : popQ h (hv h i) (winQ h a i) ++ [i] = winQ h a (i + 1) := by
  rw [popQ_filter h _ _ _ rfl (winQ_inc h a i)]
  unfold winQ
  rw [List.range_succ, List.filter_append, List.filter_filter]
  congr 1
  · refine List.filter_congr fun p hp => ?_
    have hp := List.mem_range.1 hp
    rw [Bool.eq_iff_iff]
    simp only [Bool.and_eq_true, decide_eq_true_iff, sufB_iff]
    constructor
    · rintro ⟨h1, h2, h3⟩
      refine ⟨h2, fun q hq1 hq2 => ?_⟩
      by_cases he : q = i
      · subst he; exact h1
      · exact h3 q hq1 (by omega)
    · rintro ⟨h2, h3⟩
      exact ⟨h3 i hp (by omega), h2, fun q hq1 hq2 => h3 q hq1 (by omega)⟩
  · have : (decide (a ≤ i) && sufB h (i + 1) i) = true := by
      rw [Bool.and_eq_true, decide_eq_true_iff, sufB_iff]
      exact ⟨ha, fun q h1 h2 => by omega⟩
    simp [this]
theorem winQ_last {h : List Int} {a i : Nat} (ha : a ≤ i) : i ∈ winQ h a (i + 1) := winQ_mem.2 ⟨by omega, ha, fun q h1 h2 => by omega⟩
/-- the queue's head is the window's last least place -/
theorem winQ_head {h : List Int} {a i p : Nat} {Q : List Nat} (hQ : winQ h a (i + 1) = p :: Q) : Lst h a i p := by
  have hp : p ∈ winQ h a (i + 1) := by rw [hQ]; simp
  obtain ⟨h1, h2, h3⟩ := winQ_mem.1 hp
  have hs := winQ_sorted h a (i + 1)
  rw [hQ] at hs
  have hfirst : ∀ q ∈ winQ h a (i + 1), p ≤ q := fun q hq => by
    rw [hQ] at hq
    rcases List.mem_cons.1 hq with rfl | hq
    · exact Nat.le_refl _
    · exact Nat.le_of_lt (List.rel_of_pairwise_cons hs hq)
  -- the last least place is in the queue, so it is not before p, nor behind it
  obtain ⟨d, hd⟩ : ∃ d, i = a + d := ⟨i - a, by omega⟩
  have hl := lst_ok h a d
  rw [← hd] at hl
  have hin : lst h a d ∈ winQ h a (i + 1) := winQ_mem.2 ⟨by have := hl.hi; omega, hl.lo, fun q hq1 hq2 => hl.lt q hq1 (by omega)⟩
  have h4 := hfirst _ hin
  have : p = lst h a d := by
    rcases Nat.eq_or_lt_of_le h4 with h5 | h5
    · exact h5
    · have h6 := h3 _ h5 (by have := hl.hi; omega)
      have h7 := hl.le p h2 (by omega)
      omega
  rw [this]; exact hl
/-- the window's start moves on by one -/
theorem winQ_drop {h : List Int} {a i p : Nat} {Q : List Nat} (hQ : winQ h a i = p :: Q) : winQ h (a + 1) i = if p = a then Q else p :: Q := by
  have e : winQ h (a + 1) i = (winQ h a i).filter fun q => decide (a + 1 ≤ q) := by
    unfold winQ
    rw [List.filter_filter]
    refine List.filter_congr fun q _ => ?_
    rw [Bool.eq_iff_iff]
    simp only [Bool.and_eq_true, decide_eq_true_iff]
    constructor
    · rintro ⟨h1, h2⟩; exact ⟨h1, by omega, h2⟩
    · rintro ⟨h1, _, h2⟩; exact ⟨h1, h2⟩
  have hs := winQ_sorted h a i
  have hm : ∀ q ∈ winQ h a i, a ≤ q := fun q hq => (winQ_mem.1 hq).2.1
  rw [hQ] at hs hm e
  have hQa : Q.filter (fun q => decide (a + 1 ≤ q)) = Q := by
    rw [List.filter_eq_self]
    intro q hq
    have := List.rel_of_pairwise_cons hs hq
    have := hm p (by simp)
    rw [decide_eq_true_iff]; omega
  rw [e, List.filter_cons, hQa]
  have := hm p (by simp)
  by_cases hp : p = a
  · rw [if_pos hp, if_neg (by rw [decide_eq_true_iff]; omega)]
  · rw [if_neg hp, if_pos (by rw [decide_eq_true_iff]; omega)]
end Go.Proofs.YtpkjiimcoepjpaaDoor
