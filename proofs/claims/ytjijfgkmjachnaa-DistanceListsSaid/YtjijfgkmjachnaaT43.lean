import Derived.Test.YtjijfgkmjachnaaT42
import Derived.DeepKeys4
import Derived.WideKeyEntry
import Derived.Maps.OwnOps
namespace Go.Proofs.Ytjijfgkmjachnaa
set_option linter.unusedVariables false
set_option linter.unusedSimpArgs false
open Go.RowKit Go.Maps

theorem pos_of {m n : Nat} (h : m < n) : ∃ k, n = k + 1 := ⟨n - 1, by omega⟩
theorem laidOut : laidOutB Try.prog = true := by kernel_rfl
theorem row70 : (70 : TypeId) < Try.prog.types.size := of_decide_eq_true (by kernel_rfl)
theorem wide70 : (match Try.prog.underlying 70 with | some (.array _ _) | some (.struct _) => true | _ => false) = true := by kernel_rfl
set_option maxRecDepth 100000 in
theorem law70 : WideMaps.KeyLaw Try.prog 70 := deep_law_laid laidOut (m := 3) (by omega) row70 (by kernel_rfl) wide70
theorem keyed70 : Keyed Try.prog 70 := Keyed.of_law law70

def labL (k : Int) (s : ByteArray) : Lit := .string (keyBytes [.int .i64 k, .string s.data.toList])
theorem keyType70 : Try.prog.keyType 70 = true := by kernel_rfl
theorem cellsOf70 : Try.prog.cellsOf 70 = 2 := by kernel_rfl
theorem key70 (k : Int) (s : ByteArray) (hk : (Lit.int .i64 k).wf = true) (hs : s.size ≤ maxLen) : keyOf Try.prog 70 (.agg #[.int .i64 k, .string s]) = some (labL k s) := by
  unfold keyOf
  rw [Try.underlying70]
  simp only [keyType70, Value.formed, Try.underlying70, cellsOf70]
  obtain ⟨n, hn⟩ : ∃ n, Try.prog.types.size = n + 1 := pos_of row70
  rw [hn]
  have u3 := Try.underlying3
  have u9 := Try.underlying9
  have c3 : Try.prog.cellsOf 3 = 1 := by kernel_rfl
  have c9 : Try.prog.cellsOf 9 = 1 := by kernel_rfl
  simp [Program.keyLits, Try.underlying70, cellsOf70, Value.cells, u3, u9, c3, c9, hk, hs, labL]
end Go.Proofs.Ytjijfgkmjachnaa
