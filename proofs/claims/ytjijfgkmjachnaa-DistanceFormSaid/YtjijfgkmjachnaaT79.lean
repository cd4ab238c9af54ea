/- Plain: the reference's way to count common labels. -/
import Derived.Test.YtjijfgkmjachnaaT78
import Derived.Test.YtjijfgkmjachnaaC8
namespace Go.Proofs.Ytjijfgkmjachnaa
set_option linter.unusedVariables false
set_option linter.unusedSimpArgs false
open Go.RowKit

/-- how many of the first n are free and have the label p -/
def cU (U : Nat → Bool) (l : Nat → Lab) (p : Lab) : Nat → Nat
  | 0 => 0
  | n + 1 => cU U l p n + if U n = false ∧ l n = p then 1 else 0
def mark (U : Nat → Bool) (k : Nat) : Nat → Bool := fun j => if j = k then true else U j
theorem cU_mark_out (U : Nat → Bool) (l : Nat → Lab) (p : Lab) (k : Nat) : ∀ n, n ≤ k → cU (mark U k) l p n = cU U l p n
  | 0, _ => rfl
  | n + 1, h => by
    unfold cU
    rw [cU_mark_out U l p k n (by omega)]
    have : mark U k n = U n := if_neg (by omega)
    rw [this]
theorem cU_mark (U : Nat → Bool) (l : Nat → Lab) (p : Lab) (k : Nat) (hf : U k = false) : ∀ n, k < n → cU U l p n = cU (mark U k) l p n + if l k = p then 1 else 0
  | 0, h => by omega
  | n + 1, h => by
    unfold cU
    by_cases hk : k = n
    · subst hk
      have : mark U k k = true := if_pos rfl
      rw [cU_mark_out U l p k k (Nat.le_refl _), this]
      simp [hf]
    · have : mark U k n = U n := if_neg (by omega)
      rw [this, cU_mark U l p k hf n (by omega)]
      omega
theorem cU_none (U : Nat → Bool) (l : Nat → Lab) (p : Lab) : ∀ n, (∀ k, k < n → U k = true ∨ l k ≠ p) → cU U l p n = 0
  | 0, _ => rfl
  | n + 1, h => by
    unfold cU
    rw [cU_none U l p n (fun k hk => h k (by omega)), if_neg]
    rintro ⟨h1, h2⟩
    rcases h n (by omega) with h3 | h3
    · rw [h1] at h3; cases h3
    · exact h3 h2
theorem cU_start (ls : List Lab) (l : Nat → Lab) (hl : ∀ k (h : k < ls.length), ls[k] = l k) (p : Lab) : ∀ n, n ≤ ls.length → cU (fun _ => false) l p n = (ls.take n).count p
  | 0, _ => by simp [cU]
  | n + 1, h => by
    unfold cU
    rw [cU_start ls l hl p n (by omega), List.take_succ_eq_append_getElem (by omega), List.count_append, hl n (by omega)]
    congr 1
    simp [List.count_singleton]
/-- how far the count is -/
structure Bnd (xs : List Lab) (l : Nat → Lab) (m : Nat) (ys : List Lab) (U : Nat → Bool) (c : Nat) : Prop where
  cnt : ∀ p, cU U l p m = (rest xs ys).count p
  com : c = com xs ys
theorem Bnd.hit {xs : List Lab} {l : Nat → Lab} {m : Nat} {ys : List Lab} {U : Nat → Bool} {c : Nat} (h : Bnd xs l m ys U c) {k : Nat} (hk : k < m) (hf : U k = false) {y : Lab} (hy : l k = y) : Bnd xs l m (ys ++ [y]) (mark U k) (c + 1) := by
  have hm : y ∈ rest xs ys := by
    rw [← List.count_pos_iff, ← h.cnt y, cU_mark U l y k hf m hk, if_pos hy]
    omega
  refine ⟨fun p => ?_, ?_⟩
  · have h1 := h.cnt p
    rw [cU_mark U l p k hf m hk, hy] at h1
    rw [rest_append]
    simp only [rest]
    rw [if_pos hm, List.count_erase]
    by_cases hp : y = p
    · rw [if_pos hp] at h1
      subst hp
      simp
      omega
    · rw [if_neg hp] at h1
      have : (y == p) = false := by simpa using hp
      rw [this]; simp
      omega
  · rw [com_append]
    simp only [_root_.Go.Proofs.Ytjijfgkmjachnaa.com]
    rw [if_pos hm, h.com]
theorem Bnd.miss {xs : List Lab} {l : Nat → Lab} {m : Nat} {ys : List Lab} {U : Nat → Bool} {c : Nat} (h : Bnd xs l m ys U c) {y : Lab} (hn : ∀ k, k < m → U k = true ∨ l k ≠ y) : Bnd xs l m (ys ++ [y]) U c := by
  have hm : ¬ y ∈ rest xs ys := by
    rw [← List.count_pos_iff, ← h.cnt y, cU_none U l y m hn]
    omega
  refine ⟨fun p => ?_, ?_⟩
  · rw [rest_append]
    simp only [rest]
    rw [if_neg hm]
    exact h.cnt p
  · rw [com_append]
    simp only [_root_.Go.Proofs.Ytjijfgkmjachnaa.com]
    rw [if_neg hm, h.com]
    omega
theorem Bnd.start (b : Nd) : Bnd (labs b) (fun k => labOf (nd (post b 0 0) k)) b.size [] (fun _ => false) 0 := by
  refine ⟨fun p => ?_, rfl⟩
  rw [cU_start (labs b) _ (fun k hk => labs_get b k (by rw [labs_len] at hk; exact hk)) p b.size (by rw [labs_len]; exact Nat.le_refl _)]
  rw [List.take_of_length_le (by rw [labs_len]; exact Nat.le_refl _)]
  rfl
end Go.Proofs.Ytjijfgkmjachnaa
