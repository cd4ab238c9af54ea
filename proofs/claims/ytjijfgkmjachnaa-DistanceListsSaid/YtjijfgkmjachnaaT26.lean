/- Plain: what two lists of labels have in common. -/
import Derived.Test.YtjijfgkmjachnaaT46
import Derived.Test.YtjijfgkmjachnaaT24
namespace Go.Proofs.Ytjijfgkmjachnaa
set_option linter.unusedVariables false
set_option linter.unusedSimpArgs false

theorem com_max : ∀ (ys xs zs : List Lab), (∀ p, zs.count p ≤ xs.count p ∧ zs.count p ≤ ys.count p) → zs.length ≤ com xs ys
  | [], xs, zs, h => by
    cases zs with
    | nil => exact Nat.zero_le _
    | cons z zs => have := (h z).2; simp at this
  | y :: ys, xs, zs, h => by
    simp only [com]
    split
    · rename_i hy
      have := com_max ys (xs.erase y) (zs.erase y) (fun p => by
        have hp := h p
        by_cases e : p = y
        · subst e
          rw [List.count_erase_self, List.count_erase_self]
          rw [List.count_cons_self] at hp
          omega
        · rw [List.count_erase_of_ne e, List.count_erase_of_ne e]
          rw [List.count_cons_of_ne (Ne.symm e)] at hp
          exact hp)
      have h2 : zs.length ≤ (zs.erase y).length + 1 := by rw [List.length_erase]; split <;> omega
      omega
    · rename_i hy
      refine com_max ys xs zs (fun p => ?_)
      have hp := h p
      by_cases e : p = y
      · subst e
        have : xs.count p = 0 := List.count_eq_zero.2 hy
        omega
      · rw [List.count_cons_of_ne (Ne.symm e)] at hp
        exact hp
theorem com_ex : ∀ (ys xs : List Lab), ∃ zs : List Lab, zs.length = com xs ys ∧ ∀ p, zs.count p ≤ xs.count p ∧ zs.count p ≤ ys.count p
  | [], xs => ⟨[], rfl, fun p => by simp⟩
  | y :: ys, xs => by
    simp only [com]
    split
    · rename_i hy
      obtain ⟨zs, h1, h2⟩ := com_ex ys (xs.erase y)
      refine ⟨y :: zs, by simp [h1], fun p => ?_⟩
      have hp := h2 p
      by_cases e : p = y
      · subst e
        have := List.count_pos_iff.2 hy
        rw [List.count_erase_self] at hp
        rw [List.count_cons_self, List.count_cons_self]
        omega
      · rw [List.count_erase_of_ne e] at hp
        rw [List.count_cons_of_ne (Ne.symm e), List.count_cons_of_ne (Ne.symm e)]
        exact hp
    · obtain ⟨zs, h1, h2⟩ := com_ex ys xs
      refine ⟨zs, h1, fun p => ⟨(h2 p).1, Nat.le_trans (h2 p).2 ?_⟩⟩
      rw [List.count_cons]; omega
theorem com_comm (xs ys : List Lab) : com xs ys = com ys xs := by
  refine Nat.le_antisymm ?_ ?_
  · obtain ⟨zs, h1, h2⟩ := com_ex ys xs
    rw [← h1]; exact com_max xs ys zs (fun p => ⟨(h2 p).2, (h2 p).1⟩)
  · obtain ⟨zs, h1, h2⟩ := com_ex xs ys
    rw [← h1]; exact com_max ys xs zs (fun p => ⟨(h2 p).2, (h2 p).1⟩)
theorem com_self (xs : List Lab) : com xs xs = xs.length :=
  Nat.le_antisymm (com_le xs xs) (com_max xs xs xs (fun p => ⟨Nat.le_refl _, Nat.le_refl _⟩))
theorem com_le' (xs ys : List Lab) : com xs ys ≤ xs.length := by rw [com_comm]; exact com_le xs ys

theorem bound_comm (a b : Nd) : boundV a b = boundV b a := by unfold boundV; rw [com_comm, Nat.max_comm]
theorem bound_self (a : Nd) : boundV a a = 0 := by unfold boundV; rw [com_self, labs_len]; omega
theorem bound_ge (a b : Nd) : (a.size : Int) - b.size ≤ boundV a b ∧ (b.size : Int) - a.size ≤ boundV a b := by
  unfold boundV
  have h1 := com_le (labs b) (labs a)
  have h2 := com_le' (labs a) (labs b)
  rw [labs_len] at h1 h2
  omega
end Go.Proofs.Ytjijfgkmjachnaa
