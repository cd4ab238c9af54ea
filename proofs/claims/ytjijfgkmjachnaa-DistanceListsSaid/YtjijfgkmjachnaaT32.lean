import Derived.Test.YtjijfgkmjachnaaT31
namespace Go.Proofs.Ytjijfgkmjachnaa
set_option linter.unusedVariables false
set_option linter.unusedSimpArgs false
open Go.RowKit Go.Shelf Go.Maps

set_option maxRecDepth 100000 in
set_option maxHeartbeats 2000000 in
theorem roots (xs : List Ent) (n : Nat) (hn : n ≤ 1000000) (w : World) (gL gF gN cL cF cN : Nat) (F : Flat w xs n gL gF gN) (hlf : ∀ i, i < n → lf xs i ≤ 1000000) :
    Calls Try.prog 42 #[.agg #[.slice (some ⟨gL, 0, none⟩) n cL, .slice (some ⟨gF, 0, none⟩) n cF, .slice (some ⟨gN, 0, none⟩) n cN]] w fun e w' =>
      ∃ v R, e = .returned v ∧ Ints w' w.heap.size v R ∧ IsRoots xs n R ∧ Below w.heap.size w w' := by
  have HF := Lib.hid F.lef
  have HL := Lib.hid hlf
  clear F hlf
  have hmm := @run_makeMap Try.prog
  go_enter Try.func42, Try.ntmps42
  go_wp2_with fail
  obtain ⟨W0, hW0⟩ : ∃ W0, (w.alloc (.cells #[.slice (some ⟨gL, 0, none⟩) n cL, .slice (some ⟨gF, 0, none⟩) n cF, .slice (some ⟨gN, 0, none⟩) n cN] 66)) = W0 := ⟨_, rfl⟩
  have hb0 : Below w.heap.size w W0 := by rw [← hW0]; exact (Below.refl _ _).alloc (Nat.le_refl _) _
  have hs0 : W0.heap.size = w.heap.size + 1 := by rw [← hW0]; simp
  rw [hW0]
  have HS := Lib.hid hs0
  clear hW0 hs0
  go_loopw [4, 5, 10] (fun _ _ s wr => ∃ (k : Nat) (D : DataW Nat), s = .int .i64 k ∧ k ≤ n ∧ wr.ownsMap Try.prog 3 (plainElem Try.prog 3) (w.heap.size + 1) k D ∧ RootMap xs k D ∧ Below w.heap.size w wr)
    (fun _ _ s _ => n - (intOf s).toNat)
  case atStart =>
    exact ⟨0, .map [], rfl, Nat.zero_le _, HS.out ▸ World.ownsMap_made W0 _ _ _, rootMap_nil xs, hb0.alloc (by have := HS.out; omega) _⟩
  case round =>
    obtain ⟨k, D, rfl, hk, hown, hrm, hb⟩ := hrel
    by_cases hlt : k < n
    · have hfk := (hb.cell (p := ⟨gF, k, none⟩) (World.block_lt_of_cell? w _ (HF.out k hlt))).trans (HF.out k hlt)
      have hkn : (k : Int) < n := by omega
      have hl := HL.out k hlt
      have HM := Lib.hid hrm
      have HO := Lib.hid hown
      clear hrm hown
      have hwf : (Lit.int .i64 (lf xs k : Nat)).wf = true := WalkArith.wf_i64 (by omega)
      have hwk : (Lit.int .i64 k).wf = true := WalkArith.wf_i64 (by omega)
      have hkey : keyOf Try.prog 3 (.int .i64 (lf xs k : Nat)) = some (.int .i64 (lf xs k : Nat)) := keyOf_int_mk Try.underlying3 hwf
      have HK := Lib.hid hkey
      have HW := Lib.hid hwk
      clear hwf hwk hkey
      go_wp2_with (first
        | (at_mapUpdate; refine wpList_mapUpdate_own _ rfl _ _ _ 84 rfl 3 3 (int_keyed Try.underlying3) Try.underlying84 _ (w.heap.size + 1) k _ rfl HO.out (by simp only [maxLen]; omega) _ _ _ rfl rfl HK.out _ [] (plainElem_int Try.underlying3 HW.out) ?_; intro w1 hown1 hgrow1)
        | fail)
      have hb1 : Below w.heap.size w w1 := hb.grown hgrow1 hb.size (fun j hj => by cases hj; have := HS.out; omega)
      go_roundw
      case rel => exact ⟨k + 1, _, by go_num, by omega, hown1, rootMap_put HM.out HO.out.isMap, hb1⟩
      case measure => simp [intOf]; omega
    · obtain rfl : k = n := by omega
      have HM := Lib.hid hrm
      have HO := Lib.hid hown
      clear hrm hown
      go_wp2_with fail
      refine (values_any _ _).mono ?_
      rintro e w' ⟨rfl, rfl⟩
      go_wp2_with fail
      have hown' : (wr.alloc (.cells #[.map (some (w.heap.size + 1))] 84)).ownsMap Try.prog 3 (plainElem Try.prog 3) (w.heap.size + 1) k D := HO.out.alloc _
      refine (sorted_any wr.heap.size (w.heap.size + 1) k D _ (by simp) (by simp) hown' (by have := HO.out.size_le; omega)).mono ?_
      rintro e w' ⟨v, ss, rfl, ⟨ps, hA, rfl⟩, hrow, hbl⟩
      go_wp2_with fail
      go_ret
      refine ⟨v, _, rfl, (ints_of_row (base := (wr.alloc (.cells #[.map (some (w.heap.size + 1))] 84)).heap.size) (by simpa using hrow)).mono (by have := hb.size; simp; omega), roots_of HM.out hA, (hb.alloc hb.size _).trans (hbl.mono (by have := hb.size; simp; omega))⟩
end Go.Proofs.Ytjijfgkmjachnaa
