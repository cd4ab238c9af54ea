/- The law DistanceLists, for every list. -/
import Derived.Test.YtjijfgkmjachnaaT58
namespace Go.Proofs.Ytjijfgkmjachnaa
set_option linter.unusedVariables false
set_option linter.unusedSimpArgs false
open Go.RowKit

set_option maxRecDepth 100000 in
set_option maxHeartbeats 4000000 in
theorem lawLists2 (a : Nd) (n : Nat) (A B : Option Addr) (cA cB : Nat) (w : World) (hn : 5 < n) :
    Calls Try.prog 8 #[a.val A cA, .slice B n cB] w fun e w' => e = .returned (.bool true) ∧ Below w.heap.size w w' := by
  have hn' : (5 : Int) < n := by omega
  have HB := Lib.hid ((Below.refl w.heap.size w).alloc (Nat.le_refl _) (.cells #[.int .i64 a.kind, .string a.text, .int .i64 a.pos, .int .i64 a.fin, .slice A a.kids.length cA] 24))
  unfold Nd.val
  go_enter Try.func8, Try.ntmps8
  go_wp2_with fail
  refine (awake _).mono ?_
  rintro e w1 ⟨rfl, hb⟩
  have H1 := Lib.hid (trans_b HB.out hb)
  clear hb
  go_wp2_with fail
  go_ret
  exact ⟨rfl, H1.out⟩
theorem lawLists (a : Nd) (l : List Nd) (A B : Option Addr) (cA cB : Nat) (w : World) (hA : RN w a A cA) (hB : RN w (asN l) B cB) :
    Calls Try.prog 8 #[a.val A cA, .slice B l.length cB] w fun e w' => e = .returned (.bool true) ∧ Below w.heap.size w w' := by
  by_cases h5 : 5 < l.length
  · exact lawLists2 a _ A B cA cB w h5
  by_cases h0 : l = []
  · subst h0
    exact lawLists0 a A B cA cB w hA
  · have h2 := hB
    rcases hB with ⟨_, b, o, _, As, cs, hc, hm, hcell, hsub⟩ | ⟨_, _, _, h⟩
    · exact lawLists1 a l A b o cA cB w hA h2 h0 (by omega)
    · exact absurd h h0
end Go.Proofs.Ytjijfgkmjachnaa
