/- Plain: hashes of symbols. -/
import Derived.RowKit
import Derived.IntWalk
namespace Go.Proofs.YtpkjiimcoepjpaaDoor
set_option linter.unusedVariables false
set_option linter.unusedSimpArgs false
open Go.RowKit

/-- a number modulo the prime -/
def md (n : Int) : Int := n % 2147483647
theorem md_lo (n : Int) : 0 ≤ md n := Int.emod_nonneg n (by decide)
theorem md_hi (n : Int) : md n < 2147483647 := Int.emod_lt_of_pos n (by decide)
theorem tmod_nn {n : Int} (h : 0 ≤ n) : Int.tmod n 2147483647 = md n := Int.tmod_eq_emod_of_nonneg h
theorem w64in (n : Int) (h : -9223372036854775808 ≤ n ∧ n ≤ 9223372036854775807) : wrap64 n = n := IntWalk.wrap64_in n h
theorem tmod_bd (n : Int) : -2147483647 < Int.tmod n 2147483647 ∧ Int.tmod n 2147483647 < 2147483647 ∧ md (Int.tmod n 2147483647) = md n := by
  by_cases h : 0 ≤ n
  · rw [tmod_nn h]
    have := md_lo n
    have := md_hi n
    refine ⟨by omega, by omega, ?_⟩
    unfold md; omega
  · have h1 : Int.tmod n 2147483647 = -(md (-n)) := by
      have h2 := tmod_nn (n := -n) (by omega)
      rw [Int.neg_tmod] at h2
      omega
    rw [h1]
    have := md_lo (-n)
    have := md_hi (-n)
    refine ⟨by omega, by omega, ?_⟩
    unfold md at *; omega
theorem modulo_eq (n : Int) : Int.tmod (wrap64 ((Int.tmod n 2147483647) + 2147483647)) 2147483647 = md n := by
  obtain ⟨h1, h2, h3⟩ := tmod_bd n
  rw [w64in _ (by omega), tmod_nn (by omega), ← h3]
  unfold md
  omega
/-- one symbol more -/
def stepH (h s : Int) : Int := md (h * 1000003 + md s)
def hashS (l : List Int) : Int := l.foldl stepH 0
theorem step_lo (h s : Int) : 0 ≤ stepH h s := md_lo _
theorem step_hi (h s : Int) : stepH h s < 2147483647 := md_hi _
theorem fold_bd (l : List Int) : ∀ h, 0 ≤ h → h < 2147483647 → 0 ≤ l.foldl stepH h ∧ l.foldl stepH h < 2147483647 := by
  induction l with
  | nil => intro h h0 h1; exact ⟨h0, h1⟩
  | cons s l ih => intro h _ _; exact ih _ (step_lo _ _) (step_hi _ _)
theorem hashS_bd (l : List Int) : 0 ≤ hashS l ∧ hashS l < 2147483647 := fold_bd l 0 (by decide) (by decide)
theorem go_step (h s : Int) (h0 : 0 ≤ h) (h1 : h < 2147483647) : Int.tmod (wrap64 ((wrap64 (h * 1000003)) + md s)) 2147483647 = stepH h s := by
  have := md_lo s
  have := md_hi s
  rw [w64in (h * 1000003) (by omega), w64in _ (by omega), tmod_nn (by omega)]
  rfl
/-- the base's power -/
def pwS : Nat → Int
  | 0 => 1
  | n + 1 => md (pwS n * 1000003)
theorem pwS_bd : ∀ n, 0 ≤ pwS n ∧ pwS n < 2147483647
  | 0 => by decide
  | n + 1 => ⟨md_lo _, md_hi _⟩
theorem go_pw (n : Nat) : Int.tmod (wrap64 (pwS n * 1000003)) 2147483647 = pwS (n + 1) := by
  have := pwS_bd n
  rw [w64in _ (by omega), tmod_nn (by omega)]
  rfl
/-- the hash of the next run -/
def rollS (most hash first next : Int) : Int := md (md (hash - md (md first * most)) * 1000003 + md next)
theorem md_mul (a b : Int) : md (md a * b) = md (a * b) := by unfold md; rw [Int.mul_emod, Int.emod_emod_of_dvd _ (Int.dvd_refl _), ← Int.mul_emod]
theorem md_add (a b : Int) : md (md a + b) = md (a + b) := by unfold md; omega
theorem md_add' (a b : Int) : md (a + md b) = md (a + b) := by unfold md; omega
theorem md_sub' (a b : Int) : md (a - md b) = md (a - b) := by unfold md; omega
theorem md_sub (a b : Int) : md (md a - b) = md (a - b) := by unfold md; omega
theorem md_md (a : Int) : md (md a) = md a := by unfold md; omega
/-- the hash as one sum -/
def sumH (l : List Int) (h : Int) : Int := l.foldl (fun h s => h * 1000003 + s) h
theorem fold_sum (l : List Int) : ∀ h, md (l.foldl stepH h) = md (sumH l h) := by
  induction l with
  | nil => intro h; rfl
  | cons s l ih =>
    intro h
    show md (l.foldl stepH (stepH h s)) = md (sumH l (h * 1000003 + s))
    rw [ih]
    clear ih
    unfold stepH
    rw [md_add']
    generalize h * 1000003 + s = x
    induction l generalizing x with
    | nil => exact md_md x
    | cons t l ih =>
      show md (sumH l (md x * 1000003 + t)) = md (sumH l (x * 1000003 + t))
      rw [← ih (md x * 1000003 + t), ← ih (x * 1000003 + t)]
      congr 2
      rw [← md_add, md_mul, md_add]
theorem sumH_snoc (l : List Int) (s h : Int) : sumH (l ++ [s]) h = sumH l h * 1000003 + s := by unfold sumH; rw [List.foldl_append]; rfl
theorem sumH_lin (l : List Int) : ∀ h, sumH l h = h * 1000003 ^ l.length + sumH l 0 := by
  induction l with
  | nil => intro h; simp [sumH]
  | cons s l ih =>
    intro h
    show sumH l (h * 1000003 + s) = h * 1000003 ^ (l.length + 1) + sumH l (0 * 1000003 + s)
    rw [ih (h * 1000003 + s), ih (0 * 1000003 + s), Int.pow_succ, Int.add_mul, Int.zero_mul, Int.zero_add, Int.mul_assoc, Int.mul_comm 1000003]
    omega
theorem pwS_eq : ∀ n, pwS n = md (1000003 ^ n)
  | 0 => by decide
  | n + 1 => by rw [pwS, pwS_eq n, md_mul, Int.pow_succ]
theorem hashS_sum (l : List Int) : hashS l = md (sumH l 0) := by
  have h := fold_sum l 0
  have hb := hashS_bd l
  rw [← h]
  show hashS l = md (hashS l)
  unfold md; omega
/-- Rolling: the first symbol goes, the next one comes. -/
theorem roll_hash (f n : Int) (l : List Int) : rollS (pwS l.length) (hashS (f :: l)) f n = hashS (l ++ [n]) := by
  have e1 : sumH (f :: l) 0 = f * 1000003 ^ l.length + sumH l 0 := by
    show sumH l (0 * 1000003 + f) = _
    rw [sumH_lin, Int.zero_mul, Int.zero_add]
  unfold rollS
  rw [hashS_sum, hashS_sum, sumH_snoc, e1, pwS_eq, md_mul f, Int.mul_comm f (md _), md_mul, Int.mul_comm (1000003 ^ _) f, md_sub', md_sub, md_add', ← md_add, md_mul, md_add]
  congr 2
  congr 1
  omega
end Go.Proofs.YtpkjiimcoepjpaaDoor
