import Derived.Test.YtjijfgkmjachnaaT48
namespace Go.Proofs.Ytjijfgkmjachnaa
set_option linter.unusedVariables false
set_option linter.unusedSimpArgs false
open Go.RowKit

abbrev sA : ByteArray := ⟨#[97]⟩
abbrev sB : ByteArray := ⟨#[98]⟩
abbrev sC : ByteArray := ⟨#[99]⟩
abbrev sP : ByteArray := ⟨#[43]⟩
abbrev sM : ByteArray := ⟨#[42]⟩
def tX : Nd := binN sP (nmN sA) (binN sM (nmN sB) (nmN sC))
def tY : Nd := binN sM (nmN sA) (nmN sC)
def tP : Nd := binN sP (nmN sA) (nmN sB)
def tQ : Nd := binN sP (nmN sB) (nmN sA)
theorem sX : tX.size = 5 := by kernel_rfl
theorem sY : tY.size = 3 := by kernel_rfl
theorem dXY : td tX tY = 3 := by kernel_rfl
theorem dYX : td tY tX = 3 := by kernel_rfl
theorem dXX : td tX tX = 0 := by kernel_rfl
theorem dPQ : td tP tQ = 2 := by kernel_rfl
theorem comXY : com (labs tX) (labs tY) = 3 := by kernel_rfl
theorem labP_small (k : Int) (l : List UInt8) (h1 : 0 ≤ k) (h2 : k ≤ 100) (h3 : l.length ≤ 100) : LabP (k, l) := ⟨WalkArith.wf_i64 (by omega), by simp only [maxLen]; omega⟩
theorem labWX : LabW tX := by
  intro p hp
  rw [show labs tX = [(20, [97]), (20, [98]), (20, [99]), (29, [42]), (29, [43])] by kernel_rfl] at hp
  simp only [List.mem_cons, List.not_mem_nil, or_false] at hp
  rcases hp with rfl | rfl | rfl | rfl | rfl <;> exact labP_small _ _ (by omega) (by omega) (by simp)
theorem labWY : LabW tY := by
  intro p hp
  rw [show labs tY = [(20, [97]), (20, [99]), (29, [42])] by kernel_rfl] at hp
  simp only [List.mem_cons, List.not_mem_nil, or_false] at hp
  rcases hp with rfl | rfl | rfl <;> exact labP_small _ _ (by omega) (by omega) (by simp)
theorem dVXY : dV tX tY = 3 := by kernel_rfl
theorem dCXY : dC tX tY = 0 := by kernel_rfl
theorem dVPQ : dV tP tQ = 2 := by kernel_rfl
theorem dCPQ : dC tP tQ = 0 := by kernel_rfl
theorem sP' : tP.size = 3 := by kernel_rfl
theorem sQ' : tQ.size = 3 := by kernel_rfl
theorem nearX : nearR tX [tY, tX] = .tuple #[.int .i64 1, .int .i64 0, .int .i64 0] := by
  unfold nearR
  rw [show bigAny [tX] = false by kernel_rfl, show bigAny [tY, tX] = false by kernel_rfl, if_neg (by simp), if_neg (by simp), show near tX [tY, tX] = (1, 0) by kernel_rfl]
theorem bigXY : bigAny [tX, tY] = false := by kernel_rfl
theorem mxXY : mx [tX, tY] 1 0 = 3 := by kernel_rfl
theorem boundXY : boundV tX tY = 2 := by kernel_rfl
theorem subXY {T : Nat → Nat → Int} (h : SubT tX tY T) : T 4 2 = 0 := by
  have := h 2 1 (by rw [sX]; omega) (by rw [sY]; omega)
  rw [show nm (post tX 0 0) 2 = 4 by kernel_rfl, show nm (post tY 0 0) 1 = 2 by kernel_rfl, show td (nd (post tX 0 0) 2) (nd (post tY 0 0) 1) = 0 by kernel_rfl] at this
  exact this
end Go.Proofs.Ytjijfgkmjachnaa
