/- Seat 43, texts merged: plain lists and hashes. Lemmas for the laws of chapter 43; no conditions of their own beyond what each states. -/
import Derived.RowKit
import Derived.IntWalk
namespace Go.Proofs.YtpkjiimcoepjpaaDoor
set_option linter.unusedVariables false
set_option linter.unusedSimpArgs false
open Go.RowKit

/-- a number modulo the prime -/
def md (n : Int) : Int := n % 2147483647
theorem md_lo (n : Int) : 0 ≤ md n := Int.emod_nonneg n (by decide)
theorem md_hi (n : Int) : md n < 2147483647 := Int.emod_lt_of_pos n (by decide)
theorem tmod_nn {n : Int} (h : 0 ≤ n) : Int.tmod n 2147483647 = md n := Int.tmod_eq_emod_of_nonneg h
theorem w64in (n : Int) (h : -9223372036854775808 ≤ n ∧ n ≤ 9223372036854775807) : wrap64 n = n := IntWalk.wrap64_in n h
theorem tmod_bd (n : Int) : -2147483647 < Int.tmod n 2147483647 ∧ Int.tmod n 2147483647 < 2147483647 ∧ md (Int.tmod n 2147483647) = md n := by
  by_cases h : 0 ≤ n
  · rw [tmod_nn h]
    have := md_lo n
    have := md_hi n
    refine ⟨by omega, by omega, ?_⟩
    unfold md; omega
  · have h1 : Int.tmod n 2147483647 = -(md (-n)) := by
      have h2 := tmod_nn (n := -n) (by omega)
      rw [Int.neg_tmod] at h2
      omega
    rw [h1]
    have := md_lo (-n)
    have := md_hi (-n)
    refine ⟨by omega, by omega, ?_⟩
    unfold md at *; omega
theorem modulo_eq (n : Int) : Int.tmod (wrap64 ((Int.tmod n 2147483647) + 2147483647)) 2147483647 = md n := by
  obtain ⟨h1, h2, h3⟩ := tmod_bd n
  rw [w64in _ (by omega), tmod_nn (by omega), ← h3]
  unfold md
  omega
/-- one symbol more -/
def stepH (h s : Int) : Int := md (h * 1000003 + md s)
def hashS (l : List Int) : Int := l.foldl stepH 0
theorem step_lo (h s : Int) : 0 ≤ stepH h s := md_lo _
theorem step_hi (h s : Int) : stepH h s < 2147483647 := md_hi _
theorem fold_bd (l : List Int) : ∀ h, 0 ≤ h → h < 2147483647 → 0 ≤ l.foldl stepH h ∧ l.foldl stepH h < 2147483647 := by
  induction l with
  | nil => intro h h0 h1; exact ⟨h0, h1⟩
  | cons s l ih => intro h _ _; exact ih _ (step_lo _ _) (step_hi _ _)
theorem hashS_bd (l : List Int) : 0 ≤ hashS l ∧ hashS l < 2147483647 := fold_bd l 0 (by decide) (by decide)
theorem go_step (h s : Int) (h0 : 0 ≤ h) (h1 : h < 2147483647) : Int.tmod (wrap64 ((wrap64 (h * 1000003)) + md s)) 2147483647 = stepH h s := by
  have := md_lo s
  have := md_hi s
  rw [w64in (h * 1000003) (by omega), w64in _ (by omega), tmod_nn (by omega)]
  rfl
/-- the base's power -/
def pwS : Nat → Int
  | 0 => 1
  | n + 1 => md (pwS n * 1000003)
theorem pwS_bd : ∀ n, 0 ≤ pwS n ∧ pwS n < 2147483647
  | 0 => by decide
  | n + 1 => ⟨md_lo _, md_hi _⟩
theorem go_pw (n : Nat) : Int.tmod (wrap64 (pwS n * 1000003)) 2147483647 = pwS (n + 1) := by
  have := pwS_bd n
  rw [w64in _ (by omega), tmod_nn (by omega)]
  rfl
/-- the hash of the next run -/
def rollS (most hash first next : Int) : Int := md (md (hash - md (md first * most)) * 1000003 + md next)
theorem md_mul (a b : Int) : md (md a * b) = md (a * b) := by unfold md; rw [Int.mul_emod, Int.emod_emod_of_dvd _ (Int.dvd_refl _), ← Int.mul_emod]
theorem md_add (a b : Int) : md (md a + b) = md (a + b) := by unfold md; omega
theorem md_add' (a b : Int) : md (a + md b) = md (a + b) := by unfold md; omega
theorem md_sub' (a b : Int) : md (a - md b) = md (a - b) := by unfold md; omega
theorem md_sub (a b : Int) : md (md a - b) = md (a - b) := by unfold md; omega
theorem md_md (a : Int) : md (md a) = md a := by unfold md; omega
/-- the hash as one sum -/
def sumH (l : List Int) (h : Int) : Int := l.foldl (fun h s => h * 1000003 + s) h
theorem fold_sum (l : List Int) : ∀ h, md (l.foldl stepH h) = md (sumH l h) := by
  induction l with
  | nil => intro h; rfl
  | cons s l ih =>
    intro h
    show md (l.foldl stepH (stepH h s)) = md (sumH l (h * 1000003 + s))
    rw [ih]
    clear ih
    unfold stepH
    rw [md_add']
    generalize h * 1000003 + s = x
    induction l generalizing x with
    | nil => exact md_md x
    | cons t l ih =>
      show md (sumH l (md x * 1000003 + t)) = md (sumH l (x * 1000003 + t))
      rw [← ih (md x * 1000003 + t), ← ih (x * 1000003 + t)]
      congr 2
      rw [← md_add, md_mul, md_add]
theorem sumH_snoc (l : List Int) (s h : Int) : sumH (l ++ [s]) h = sumH l h * 1000003 + s := by unfold sumH; rw [List.foldl_append]; rfl
theorem sumH_lin (l : List Int) : ∀ h, sumH l h = h * 1000003 ^ l.length + sumH l 0 := by
  induction l with
  | nil => intro h; simp [sumH]
  | cons s l ih =>
    intro h
    show sumH l (h * 1000003 + s) = h * 1000003 ^ (l.length + 1) + sumH l (0 * 1000003 + s)
    rw [ih (h * 1000003 + s), ih (0 * 1000003 + s), Int.pow_succ, Int.add_mul, Int.zero_mul, Int.zero_add, Int.mul_assoc, Int.mul_comm 1000003]
    omega
theorem pwS_eq : ∀ n, pwS n = md (1000003 ^ n)
  | 0 => by decide
  | n + 1 => by rw [pwS, pwS_eq n, md_mul, Int.pow_succ]
theorem hashS_sum (l : List Int) : hashS l = md (sumH l 0) := by
  have h := fold_sum l 0
  have hb := hashS_bd l
  rw [← h]
  show hashS l = md (hashS l)
  unfold md; omega
/-- Rolling: the first symbol goes, the next one comes. -/
theorem roll_hash (f n : Int) (l : List Int) : rollS (pwS l.length) (hashS (f :: l)) f n = hashS (l ++ [n]) := by
  have e1 : sumH (f :: l) 0 = f * 1000003 ^ l.length + sumH l 0 := by
    show sumH l (0 * 1000003 + f) = _
    rw [sumH_lin, Int.zero_mul, Int.zero_add]
  unfold rollS
  rw [hashS_sum, hashS_sum, sumH_snoc, e1, pwS_eq, md_mul f, Int.mul_comm f (md _), md_mul, Int.mul_comm (1000003 ^ _) f, md_sub', md_sub, md_add', ← md_add, md_mul, md_add]
  congr 2
  congr 1
  omega
end Go.Proofs.YtpkjiimcoepjpaaDoor

namespace Go.Proofs.YtpkjiimcoepjpaaDoor
set_option linter.unusedVariables false
set_option linter.unusedSimpArgs false

def hv (h : List Int) (i : Nat) : Int := h.getD i 0
/-- the last least place of a .. b -/
structure Lst (h : List Int) (a b p : Nat) : Prop where
  lo : a ≤ p
  hi : p ≤ b
  le : ∀ q, a ≤ q → q ≤ b → hv h p ≤ hv h q
  lt : ∀ q, p < q → q ≤ b → hv h p < hv h q
theorem Lst.uniq {h : List Int} {a b p q : Nat} (hp : Lst h a b p) (hq : Lst h a b q) : p = q := by
  rcases Nat.lt_trichotomy p q with h1 | h1 | h1
  · have := hp.lt q h1 hq.hi; have := hq.le p hp.lo hp.hi; omega
  · exact h1
  · have := hq.lt p h1 hp.hi; have := hp.le q hq.lo hq.hi; omega
def lst (h : List Int) (a : Nat) : Nat → Nat
  | 0 => a
  | d + 1 => if hv h (a + d + 1) ≤ hv h (lst h a d) then a + d + 1 else lst h a d
theorem lst_ok (h : List Int) (a : Nat) : ∀ d, Lst h a (a + d) (lst h a d)
  | 0 => by
    refine ⟨Nat.le_refl _, by simp [lst], fun q h1 h2 => ?_, fun q h1 h2 => ?_⟩
    · have : q = a := by omega
      subst this; exact Int.le_refl _
    · simp [lst] at h1; omega
  | d + 1 => by
    have ih := lst_ok h a d
    unfold lst
    split
    · rename_i hle
      refine ⟨by omega, by omega, fun q h1 h2 => ?_, fun q h1 h2 => by omega⟩
      by_cases hq : q = a + d + 1
      · subst hq; exact Int.le_refl _
      · have := ih.le q h1 (by omega); omega
    · rename_i hle
      refine ⟨ih.lo, by have := ih.hi; omega, fun q h1 h2 => ?_, fun q h1 h2 => ?_⟩
      · by_cases hq : q = a + d + 1
        · subst hq; omega
        · exact ih.le q h1 (by omega)
      · by_cases hq : q = a + d + 1
        · subst hq; omega
        · exact ih.lt q h1 (by omega)
/-- windows move on, and so do their last least places -/
theorem Lst.mono {h : List Int} {a b a' b' p p' : Nat} (hp : Lst h a b p) (hp' : Lst h a' b' p') (ha : a ≤ a') (hb : b ≤ b') (hab : a' ≤ b) : p ≤ p' := by
  rcases Nat.lt_or_ge p' p with h1 | h1
  · have h2 := hp'.lt p h1 (by have := hp.hi; omega)
    have h3 := hp.le p' (by have := hp'.lo; omega) (by have := hp.hi; omega)
    omega
  · exact h1
end Go.Proofs.YtpkjiimcoepjpaaDoor

namespace Go.Proofs.YtpkjiimcoepjpaaDoor
set_option linter.unusedVariables false
set_option linter.unusedSimpArgs false

/-- p is less than all behind it, up to i -/
def sufB (h : List Int) (i p : Nat) : Bool := (List.range i).all fun q => !decide (p < q) || decide (hv h p < hv h q)
theorem sufB_iff (h : List Int) (i p : Nat) : sufB h i p = true ↔ ∀ q, p < q → q < i → hv h p < hv h q := by
  unfold sufB
  rw [List.all_eq_true]
  constructor
  · intro H q h1 h2
    have := H q (List.mem_range.2 h2)
    simp [h1] at this
    exact this
  · intro H q hq
    have hq := List.mem_range.1 hq
    by_cases h1 : p < q
    · simp [h1, H q h1 hq]
    · simp [h1]
/-- the places from a on, before i, that can still be the least ones -/
def winQ (h : List Int) (a i : Nat) : List Nat := (List.range i).filter fun p => decide (a ≤ p) && sufB h i p
theorem winQ_mem {h : List Int} {a i p : Nat} : p ∈ winQ h a i ↔ p < i ∧ a ≤ p ∧ ∀ q, p < q → q < i → hv h p < hv h q := by
  unfold winQ
  rw [List.mem_filter, List.mem_range, Bool.and_eq_true, sufB_iff, decide_eq_true_iff]
theorem winQ_sorted (h : List Int) (a i : Nat) : (winQ h a i).Pairwise (· < ·) := List.Pairwise.filter _ List.pairwise_lt_range
theorem winQ_inc (h : List Int) (a i : Nat) : (winQ h a i).Pairwise (fun p q => p < q ∧ hv h p < hv h q) := by
  refine (List.Pairwise.and_mem.1 (winQ_sorted h a i)).imp fun {p q} ⟨hp, hq, hpq⟩ => ⟨hpq, ?_⟩
  exact (winQ_mem.1 hp).2.2 q hpq (winQ_mem.1 hq).1
/-- what the pops leave -/
def popQ (h : List Int) (x : Int) (Q : List Nat) : List Nat := (Q.reverse.dropWhile fun p => decide (x ≤ hv h p)).reverse
theorem popQ_nil (h : List Int) (x : Int) : popQ h x [] = [] := rfl
theorem popQ_hit (h : List Int) (x : Int) (Q : List Nat) (p : Nat) (hp : x ≤ hv h p) : popQ h x (Q ++ [p]) = popQ h x Q := by
  unfold popQ; rw [List.reverse_append]; simp [hp]
theorem popQ_stop (h : List Int) (x : Int) (Q : List Nat) (p : Nat) (hp : ¬ x ≤ hv h p) : popQ h x (Q ++ [p]) = Q ++ [p] := by
  unfold popQ; rw [List.reverse_append]; simp [hp]
theorem popQ_filter (h : List Int) (x : Int) (n : Nat) : ∀ Q : List Nat, Q.length = n → Q.Pairwise (fun p q => p < q ∧ hv h p < hv h q) → popQ h x Q = Q.filter (fun p => decide (hv h p < x)) := by
  induction n with
  | zero => intro Q hQ _; rw [List.eq_nil_of_length_eq_zero hQ]; rfl
  | succ n ih =>
    intro Q hQ hp
    obtain ⟨Q', p, rfl⟩ : ∃ Q' p, Q = Q' ++ [p] := ⟨Q.dropLast, Q.getLast (by intro e; rw [e] at hQ; simp at hQ), (List.dropLast_concat_getLast _).symm⟩
    have hp' := List.pairwise_append.1 hp
    rw [List.filter_append]
    by_cases hx : x ≤ hv h p
    · rw [popQ_hit _ _ _ _ hx, ih Q' (by simpa using hQ) hp'.1]
      have : decide (hv h p < x) = false := by rw [decide_eq_false_iff_not]; omega
      simp [this]
    · rw [popQ_stop _ _ _ _ hx]
      have h1 : Q'.filter (fun p => decide (hv h p < x)) = Q' := by
        rw [List.filter_eq_self]
        intro q hq
        have := (hp'.2.2 q hq p (by simp)).2
        rw [decide_eq_true_iff]; omega
      have h2 : decide (hv h p < x) = true := by rw [decide_eq_true_iff]; omega
      rw [h1]
      simp [h2]
/-- one place more -/
theorem winQ_push (h : List Int) (a i : Nat) (ha : a ≤ i) : popQ h (hv h i) (winQ h a i) ++ [i] = winQ h a (i + 1) := by
  rw [popQ_filter h _ _ _ rfl (winQ_inc h a i)]
  unfold winQ
  rw [List.range_succ, List.filter_append, List.filter_filter]
  congr 1
  · refine List.filter_congr fun p hp => ?_
    have hp := List.mem_range.1 hp
    rw [Bool.eq_iff_iff]
    simp only [Bool.and_eq_true, decide_eq_true_iff, sufB_iff]
    constructor
    · rintro ⟨h1, h2, h3⟩
      refine ⟨h2, fun q hq1 hq2 => ?_⟩
      by_cases he : q = i
      · subst he; exact h1
      · exact h3 q hq1 (by omega)
    · rintro ⟨h2, h3⟩
      exact ⟨h3 i hp (by omega), h2, fun q hq1 hq2 => h3 q hq1 (by omega)⟩
  · have : (decide (a ≤ i) && sufB h (i + 1) i) = true := by
      rw [Bool.and_eq_true, decide_eq_true_iff, sufB_iff]
      exact ⟨ha, fun q h1 h2 => by omega⟩
    simp [this]
theorem winQ_last {h : List Int} {a i : Nat} (ha : a ≤ i) : i ∈ winQ h a (i + 1) := winQ_mem.2 ⟨by omega, ha, fun q h1 h2 => by omega⟩
/-- the queue's head is the window's last least place -/
theorem winQ_head {h : List Int} {a i p : Nat} {Q : List Nat} (hQ : winQ h a (i + 1) = p :: Q) : Lst h a i p := by
  have hp : p ∈ winQ h a (i + 1) := by rw [hQ]; simp
  obtain ⟨h1, h2, h3⟩ := winQ_mem.1 hp
  have hs := winQ_sorted h a (i + 1)
  rw [hQ] at hs
  have hfirst : ∀ q ∈ winQ h a (i + 1), p ≤ q := fun q hq => by
    rw [hQ] at hq
    rcases List.mem_cons.1 hq with rfl | hq
    · exact Nat.le_refl _
    · exact Nat.le_of_lt (List.rel_of_pairwise_cons hs hq)
  -- the last least place is in the queue, so it is not before p, nor behind it
  obtain ⟨d, hd⟩ : ∃ d, i = a + d := ⟨i - a, by omega⟩
  have hl := lst_ok h a d
  rw [← hd] at hl
  have hin : lst h a d ∈ winQ h a (i + 1) := winQ_mem.2 ⟨by have := hl.hi; omega, hl.lo, fun q hq1 hq2 => hl.lt q hq1 (by omega)⟩
  have h4 := hfirst _ hin
  have : p = lst h a d := by
    rcases Nat.eq_or_lt_of_le h4 with h5 | h5
    · exact h5
    · have h6 := h3 _ h5 (by have := hl.hi; omega)
      have h7 := hl.le p h2 (by omega)
      omega
  rw [this]; exact hl
/-- the window's start moves on by one -/
theorem winQ_drop {h : List Int} {a i p : Nat} {Q : List Nat} (hQ : winQ h a i = p :: Q) : winQ h (a + 1) i = if p = a then Q else p :: Q := by
  have e : winQ h (a + 1) i = (winQ h a i).filter fun q => decide (a + 1 ≤ q) := by
    unfold winQ
    rw [List.filter_filter]
    refine List.filter_congr fun q _ => ?_
    rw [Bool.eq_iff_iff]
    simp only [Bool.and_eq_true, decide_eq_true_iff]
    constructor
    · rintro ⟨h1, h2⟩; exact ⟨h1, by omega, h2⟩
    · rintro ⟨h1, _, h2⟩; exact ⟨h1, h2⟩
  have hs := winQ_sorted h a i
  have hm : ∀ q ∈ winQ h a i, a ≤ q := fun q hq => (winQ_mem.1 hq).2.1
  rw [hQ] at hs hm e
  have hQa : Q.filter (fun q => decide (a + 1 ≤ q)) = Q := by
    rw [List.filter_eq_self]
    intro q hq
    have := List.rel_of_pairwise_cons hs hq
    have := hm p (by simp)
    rw [decide_eq_true_iff]; omega
  rw [e, List.filter_cons, hQa]
  have := hm p (by simp)
  by_cases hp : p = a
  · rw [if_pos hp, if_neg (by rw [decide_eq_true_iff]; omega)]
  · rw [if_neg hp, if_pos (by rw [decide_eq_true_iff]; omega)]
end Go.Proofs.YtpkjiimcoepjpaaDoor

namespace Go.Proofs.YtpkjiimcoepjpaaDoor
set_option linter.unusedVariables false
set_option linter.unusedSimpArgs false

/-- the place of the window that ends at j -/
def atW (h : List Int) (w j : Nat) : Nat := lst h (j + 1 - w) (j - (j + 1 - w))
theorem atW_ok (h : List Int) {w j : Nat} (hw : 1 ≤ w) : Lst h (j + 1 - w) j (atW h w j) := by
  have := lst_ok h (j + 1 - w) (j - (j + 1 - w))
  rw [show j + 1 - w + (j - (j + 1 - w)) = j by omega] at this
  exact this
theorem atW_mono (h : List Int) {w j j' : Nat} (hw : 1 ≤ w) (hj : j ≤ j') : atW h w j ≤ atW h w j' := by
  induction j' with
  | zero => have : j = 0 := by omega
            subst this; exact Nat.le_refl _
  | succ j' ih =>
    by_cases he : j = j' + 1
    · subst he; exact Nat.le_refl _
    · refine Nat.le_trans (ih (by omega)) ?_
      by_cases hw1 : w = 1
      · subst hw1
        have h1 := (atW_ok h (w := 1) (j := j') (Nat.le_refl _)).hi
        have h2 := (atW_ok h (w := 1) (j := j' + 1) (Nat.le_refl _)).lo
        omega
      · exact Lst.mono (atW_ok h (j := j') hw) (atW_ok h (j := j' + 1) hw) (by omega) (by omega) (by omega)
/-- what is chosen by the windows that end before i -/
def outP (h : List Int) (w : Nat) : Nat → List Nat
  | 0 => []
  | i + 1 => if w ≤ i + 1 ∧ (outP h w i).getLast? ≠ some (atW h w i) then outP h w i ++ [atW h w i] else outP h w i
theorem outP_spec (h : List Int) {w : Nat} (hw : 1 ≤ w) : ∀ i, (outP h w i).Pairwise (· < ·) ∧ (∀ p, p ∈ outP h w i ↔ ∃ j, w ≤ j + 1 ∧ j < i ∧ atW h w j = p) ∧ (∀ i', i = i' + 1 → w ≤ i → (outP h w i).getLast? = some (atW h w i'))
  | 0 => ⟨List.Pairwise.nil, fun p => by simp [outP], fun i' h => by omega⟩
  | i + 1 => by
    obtain ⟨h1, h2, h3⟩ := outP_spec h hw i
    unfold outP
    split
    · rename_i hc
      refine ⟨?_, fun p => ?_, fun i' hi' _ => ?_⟩
      · rw [List.pairwise_append]
        refine ⟨h1, List.pairwise_singleton _ _, fun p hp q hq => ?_⟩
        have hq : q = atW h w i := by simpa using hq
        subst hq
        obtain ⟨j, hj1, hj2, rfl⟩ := (h2 p).1 hp
        have hm := atW_mono h hw (show j ≤ i - 1 by omega)
        have hm2 := atW_mono h hw (show i - 1 ≤ i by omega)
        have hl := h3 (i - 1) (by omega) (by omega)
        rcases Nat.eq_or_lt_of_le hm2 with he | he
        · rw [hl, he] at hc; exact absurd rfl hc.2
        · omega
      · rw [List.mem_append, h2 p]
        constructor
        · rintro (⟨j, a, b, c⟩ | hp)
          · exact ⟨j, a, by omega, c⟩
          · have hp : p = atW h w i := by simpa using hp
            exact ⟨i, hc.1, by omega, hp.symm⟩
        · rintro ⟨j, a, b, c⟩
          by_cases hj : j = i
          · right; subst hj; simp [c]
          · left; exact ⟨j, a, by omega, c⟩
      · obtain rfl : i' = i := by omega
        simp
    · rename_i hc
      by_cases hwi : w ≤ i + 1
      · have hl : (outP h w i).getLast? = some (atW h w i) := by
          by_cases he : (outP h w i).getLast? = some (atW h w i)
          · exact he
          · exact absurd ⟨hwi, he⟩ hc
        refine ⟨h1, fun p => ?_, fun i' hi' _ => by obtain rfl : i' = i := by omega
                                                    exact hl⟩
        rw [h2 p]
        constructor
        · rintro ⟨j, a, b, c⟩; exact ⟨j, a, by omega, c⟩
        · rintro ⟨j, a, b, c⟩
          by_cases hj : j = i
          · subst hj
            exact (h2 p).1 (by rw [← c]; exact List.mem_of_getLast? hl)
          · exact ⟨j, a, by omega, c⟩
      · refine ⟨h1, fun p => ?_, fun i' hi' h => absurd h hwi⟩
        rw [h2 p]
        constructor
        · rintro ⟨j, a, b, c⟩; exact ⟨j, a, by omega, c⟩
        · rintro ⟨j, a, b, c⟩; exact ⟨j, a, by omega, c⟩
/-- sorted lists of the same members are the same -/
theorem sorted_ext : ∀ (l m : List Nat), l.Pairwise (· < ·) → m.Pairwise (· < ·) → (∀ p, p ∈ l ↔ p ∈ m) → l = m
  | [], [], _, _, _ => rfl
  | [], b :: m, _, _, h => absurd ((h b).2 (by simp)) (by simp)
  | a :: l, [], _, _, h => absurd ((h a).1 (by simp)) (by simp)
  | a :: l, b :: m, hl, hm, h => by
    have ha : ∀ q ∈ l, a < q := fun q hq => List.rel_of_pairwise_cons hl hq
    have hb : ∀ q ∈ m, b < q := fun q hq => List.rel_of_pairwise_cons hm hq
    have hab : a = b := by
      rcases List.mem_cons.1 ((h a).1 (by simp)) with e | e
      · exact e
      · rcases List.mem_cons.1 ((h b).2 (by simp)) with e2 | e2
        · exact e2.symm
        · have h1 := hb a e
          have h2 := ha b e2
          omega
    subst hab
    congr 1
    refine sorted_ext l m hl.of_cons hm.of_cons fun p => ⟨fun hp => ?_, fun hp => ?_⟩
    · rcases List.mem_cons.1 ((h p).1 (by simp [hp])) with e | e
      · have := ha p hp
        omega
      · exact e
    · rcases List.mem_cons.1 ((h p).2 (by simp [hp])) with e | e
      · have := hb p hp
        omega
      · exact e
end Go.Proofs.YtpkjiimcoepjpaaDoor
