import Derived.Test.YtjijfgkmjachnaaT38
namespace Go.Proofs.Ytjijfgkmjachnaa
set_option linter.unusedVariables false
set_option linter.unusedSimpArgs false
open Go.RowKit

theorem dC_eq (a b : Nd) : dC a b = 0 ∨ dC a b = 8 := by unfold dC; split <;> simp
theorem dV_bd (a b : Nd) : 0 ≤ dV a b := by unfold dV; split <;> omega

set_option maxRecDepth 100000 in
set_option maxHeartbeats 1000000 in
theorem Within (a b : Nd) (A B : Option Addr) (cA cB : Nat) (m : Int) (w : World) (hA : RN w a A cA) (hB : RN w b B cB) (ha : a.size ≤ 1000000) (hb : b.size ≤ 1000000) :
    Calls Try.prog 19 #[a.val A cA, b.val B cB, .int .i64 m] w fun e w' => e = .returned (.tuple #[.bool (decide (dC a b = 0) && decide (dV a b ≤ m)), .int .i64 (dC a b)]) ∧ Below w.heap.size w w' := by
  have HS : ∀ (w1 : World), Below w.heap.size w w1 → Calls Try.prog 12 #[a.val A cA, b.val B cB] w1 fun e w' => e = .returned (.tuple #[.int .i64 (dV a b), .int .i64 (dC a b)]) ∧ Below w1.heap.size w1 w' :=
    fun w1 h1 => Distance a b A B cA cB w1 (RN.keep h1 hA) (RN.keep h1 hB) ha hb
  have hc := dC_eq a b
  unfold Nd.val at HS ⊢
  have HS := Lib.hid HS
  clear hA hB
  generalize dV a b = v at *
  go_enter Try.func19, Try.ntmps19
  go_wp2_with fail
  refine (HS.out _ ((((Below.refl _ _).alloc (Nat.le_refl _) _).alloc (by simp) _))).mono ?_
  rintro e w' ⟨rfl, hb1⟩
  have HB := Lib.hid (((((Below.refl _ _).alloc (Nat.le_refl _) _).alloc (by simp) _) : Below w.heap.size w _).trans (hb1.mono (by simp; omega)))
  clear hb1 HS
  rcases hc with h | h
  · have HH := Lib.hid h
    rw [h]
    clear h
    by_cases hm : v ≤ m
    · go_wp2_with fail
      go_ret2
      exact ⟨by simp [hm, HH.out], HB.out⟩
    · go_wp2_with fail
      go_ret2
      exact ⟨by simp [hm, HH.out], HB.out⟩
  · have HH := Lib.hid h
    rw [h]
    clear h
    go_wp2_with fail
    go_ret2
    exact ⟨by simp [HH.out], HB.out⟩
end Go.Proofs.Ytjijfgkmjachnaa
