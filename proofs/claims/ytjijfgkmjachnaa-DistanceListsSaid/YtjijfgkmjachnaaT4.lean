import Derived.Test.YtjijfgkmjachnaaT3
namespace Go.Proofs.Ytjijfgkmjachnaa
set_option linter.unusedVariables false
set_option linter.unusedSimpArgs false
open Go.RowKit

def FewB (t : Nd) (m : Int) : Bool := decide (0 ≤ fewN t.size t m)
theorem refFew (t : Nd) (m : Int) (A : Option Addr) (c : Nat) (w : World) (hR : RN w t A c) (h1 : m ≤ 1000) (h0 : 0 ≤ m) :
    Calls Try.prog 28 #[t.val A c, .int .i64 m] w fun e w' => e = .returned (.bool (FewB t m)) ∧ Below w.heap.size w w' := by
  have hR2 : ∀ o, RN (w.alloc o) t A c := fun o => hR.keep ((Below.refl _ _).alloc (Nat.le_refl _) o)
  have hc := fun o => reffew t.size t m A c (w.alloc o) (Nat.le_refl _) (hR2 o) h1 (by omega)
  unfold Nd.val at hc ⊢
  have hC := Lib.hid hc
  clear hc hR2
  go_enter Try.func28, Try.ntmps28
  go_wp2_with fail
  refine (hC.out _).mono ?_
  rintro e w' ⟨rfl, hb⟩
  go_wp2_with fail
  go_ret
  exact ⟨rfl, ((Below.refl _ _).alloc (Nat.le_refl _) _).trans (hb.mono (by simp))⟩

set_option maxHeartbeats 400000 in
theorem lawfew (a b : Nd) (m : Int) (A B : Option Addr) (c d : Nat) (w : World) (hA : RN w a A c) (hB : RN w b B d) (h1 : m ≤ 1000) (h0 : 0 ≤ m) :
    Calls Try.prog 11 #[a.val A c, b.val B d, .int .i64 m] w fun e w' => e = .returned (.bool (FewB a m && FewB b m)) ∧ Below w.heap.size w w' := by
  have hc := fun w1 (hb : Below w.heap.size w w1) => refFew a m A c w1 (hA.keep hb) h1 h0
  have hd := fun w1 (hb : Below w.heap.size w w1) => refFew b m B d w1 (hB.keep hb) h1 h0
  unfold Nd.val at hc hd ⊢
  have hC := Lib.hid hc
  have hD := Lib.hid hd
  clear hc hd hA hB
  cases hq : FewB a m with
  | false =>
    have HQ := Lib.hid hq
    clear hq
    go_enter Try.func11, Try.ntmps11
    go_wp2_with fail
    refine (hC.out _ (((Below.refl _ _).alloc (Nat.le_refl _) _).alloc (by simp) _)).mono ?_
    rintro e w' ⟨rfl, hb⟩
    rw [HQ.out]
    go_wp2_with fail
    go_ret
    exact ⟨rfl, (((Below.refl _ _).alloc (Nat.le_refl _) _).alloc (by simp) _).trans (hb.mono (by simp; omega))⟩
  | true =>
    have HQ := Lib.hid hq
    clear hq
    go_enter Try.func11, Try.ntmps11
    go_wp2_with fail
    refine (hC.out _ (((Below.refl _ _).alloc (Nat.le_refl _) _).alloc (by simp) _)).mono ?_
    rintro e w' ⟨rfl, hb⟩
    rw [HQ.out]
    have hbw : Below w.heap.size w w' := (((Below.refl _ _).alloc (Nat.le_refl _) _).alloc (by simp) _).trans (hb.mono (by simp; omega))
    have q0 : w'.cell? ⟨w.heap.size + 1, 0, none⟩ = some (.int .i64 b.kind) := (hb.cell (p := ⟨w.heap.size + 1, 0, none⟩) (by simp)).trans (by simp)
    have q1 : w'.cell? ⟨w.heap.size + 1, 1, none⟩ = some (.string b.text) := (hb.cell (p := ⟨w.heap.size + 1, 1, none⟩) (by simp)).trans (by simp)
    have q2 : w'.cell? ⟨w.heap.size + 1, 2, none⟩ = some (.int .i64 b.pos) := (hb.cell (p := ⟨w.heap.size + 1, 2, none⟩) (by simp)).trans (by simp)
    have q3 : w'.cell? ⟨w.heap.size + 1, 3, none⟩ = some (.int .i64 b.fin) := (hb.cell (p := ⟨w.heap.size + 1, 3, none⟩) (by simp)).trans (by simp)
    have q4 : w'.cell? ⟨w.heap.size + 1, 4, none⟩ = some (.slice B b.kids.length d) := (hb.cell (p := ⟨w.heap.size + 1, 4, none⟩) (by simp)).trans (by simp)
    clear hb
    go_wp2_with fail
    refine (hD.out _ hbw).mono ?_
    rintro e w2 ⟨rfl, hb2⟩
    go_wp2_with fail
    go_ret
    exact ⟨rfl, hbw.trans (hb2.mono hbw.size)⟩
end Go.Proofs.Ytjijfgkmjachnaa
