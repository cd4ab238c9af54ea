import Derived.Test.YtjijfgkmjachnaaT8
import Derived.Laws.StructEq
namespace Go.Proofs.Ytjijfgkmjachnaa
set_option linter.unusedVariables false
set_option linter.unusedSimpArgs false
open Go.RowKit
theorem neqLab (a b : Nd) (w : World) : (binOp .neq 70 (.agg #[.int .i64 a.kind, .string a.text]) (.agg #[.int .i64 b.kind, .string b.text])).run Try.prog w = .ok (.bool (!sameLabel a b)) w := by
  have hS : Try.prog.underlying 70 = some (.struct (Try.prog.fieldsOf 70)) := by kernel_rfl
  have hp : Try.prog.stoodInHeld 70 = false := by kernel_rfl
  have u3 := Try.underlying3
  have u9 := Try.underlying9
  rw [run_neq_struct]
  rw [show (10000 : Nat) = 9999 + 1 from rfl, run_equalIn_struct w 9999 70 _ _ hS hp]
  simp only [Program.fieldsOf, Try.underlying70]
  go_simp
  by_cases h1 : a.kind = b.kind <;> by_cases h2 : a.text.toList = b.text.toList <;> simp [sameLabel, h1, h2]
end Go.Proofs.Ytjijfgkmjachnaa
