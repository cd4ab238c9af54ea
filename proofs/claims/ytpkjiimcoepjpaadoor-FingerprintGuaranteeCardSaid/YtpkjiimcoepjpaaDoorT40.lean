/- Opening of rows of numbers, with the form's reach. -/
import Derived.Test.YtpkjiimcoepjpaaDoorC7
namespace Go.Proofs.YtpkjiimcoepjpaaDoor
set_option linter.unusedVariables false
set_option linter.unusedSimpArgs false
open Go.ChangeShapes Go.WideShapes Go.ChangeAt Go.RowKit
section
variable {H : Type} {enc : TypeId × Value → H} {w : World} {base : Nat} {sp : Nat → Bool} {hd : Bool}
theorem bytes3 : Tryd.prog.bytesOf 3 = 8 := by kernel_rfl
set_option maxRecDepth 100000 in
/-- A row of numbers among the arguments; its datum. -/
theorem arg_intsD {r : Reach} {b0 : Nat} {v : Value} {d : DataW H} {ps : List MemPlace} (hval : Value.okWide Tryd.prog w r b0 25 v) (h : DataW.Trod enc Tryd.prog w base sp hd 25 v d ps) :
    ∃ (l : List Int) (A : Option Addr) (c : Nat), v = .slice A l.length c ∧ InR w A c l ∧ (∀ x ∈ l, (Lit.int .i64 x).wf = true) ∧ (l = [] ∨ ∃ es sp', d = .slice es sp' ∧ es.length = l.length) := by
  obtain ⟨a, len, cap, rfl⟩ := okWide_slice Tryd.underlying25 hval
  obtain ⟨fuel, hf⟩ := h
  rcases open_ints Tryd.underlying25 Tryd.underlying3 cellsOf3 hf with ⟨h1, _⟩ | ⟨a', len', cap', zs, h1, _, hle, hm, hz, hx, hcell, hwf⟩
  · simp [Value.cells] at h1
    obtain ⟨rfl, rfl, rfl⟩ := h1
    exact ⟨[], none, 0, rfl, ⟨Nat.le_refl _, by simp, fun h => by simp at h⟩, fun x hx => by simp at hx, .inl rfl⟩
  · simp [Value.cells] at h1
    obtain ⟨rfl, rfl, rfl⟩ := h1
    have hlz : len ≤ zs.length := by rw [hz]; split <;> omega
    have hlen : (zs.take len).length = len := by rw [List.length_take]; omega
    refine ⟨zs.take len, some a', cap, by rw [hlen], ⟨by omega, by unfold maxLen at hm; omega, fun hp => ?_⟩, fun x hx => hwf x (List.mem_of_mem_take hx), .inr ⟨_, _, (Prod.mk.inj hx).1, by simp [lits]⟩⟩
    have hsp : a'.spot = none := by
      have := World.cell?_spot (hcell 0 (by omega))
      simpa [Addr.add] using this
    obtain ⟨b, o, spot⟩ := a'
    obtain rfl : spot = none := hsp
    refine ⟨b, o, rfl, fun i hi => ?_⟩
    have := hcell i (by omega)
    rw [add_plain] at this
    rw [this, List.getElem_take, List.getD, List.getElem?_eq_getElem (by omega)]
    rfl
theorem ints_reach {P : Program} {ts : List TypeId} {ds : List (DataW H)} (hsz : (DataW.weightsEach Tryd.prog ts ds).all (· ≤ reachBytes) = true) {j : Nat} {d : DataW H} {l : List Int} (ht : ts[j]? = some 25) (hd : ds[j]? = some d) (h : l = [] ∨ ∃ es sp', d = .slice es sp' ∧ es.length = l.length) : l.length ≤ 17592186044416 := by
  rcases h with rfl | ⟨es, sp', rfl, hl⟩
  · simp
  · have h1 := sized_slice hsz ht hd Tryd.underlying25
    rw [bytes3] at h1
    have h2 := reachBytes_lt
    omega
end
end Go.Proofs.YtpkjiimcoepjpaaDoor
