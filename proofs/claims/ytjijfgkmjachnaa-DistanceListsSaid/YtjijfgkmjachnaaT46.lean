import Derived.Test.YtjijfgkmjachnaaT47
import Derived.Test.YtjijfgkmjachnaaT38
namespace Go.Proofs.Ytjijfgkmjachnaa
set_option linter.unusedVariables false
set_option linter.unusedSimpArgs false
open Go.RowKit Go.Maps

def boundV (a b : Nd) : Int := (max a.size b.size : Nat) - (com (labs a) (labs b) : Nat)

set_option maxRecDepth 100000 in
set_option maxHeartbeats 1000000 in
theorem Bound (a b : Nd) (A B : Option Addr) (cA cB : Nat) (w : World) (hA : RN w a A cA) (hB : RN w b B cB) (ha : a.size ≤ 1000000) (hb : b.size ≤ 1000000) (la : LabW a) (lb : LabW b) :
    Calls Try.prog 15 #[a.val A cA, b.val B cB] w fun e w' => e = .returned (.int .i64 (boundV a b)) ∧ Below w.heap.size w w' := by
  obtain ⟨w0, hw0⟩ : ∃ w0, ((w.alloc (.cells #[.int .i64 a.kind, .string a.text, .int .i64 a.pos, .int .i64 a.fin, .slice A a.kids.length cA] 24)).alloc (.cells #[.int .i64 b.kind, .string b.text, .int .i64 b.pos, .int .i64 b.fin, .slice B b.kids.length cB] 24)) = w0 := ⟨_, rfl⟩
  have hbw : Below w.heap.size w w0 := by rw [← hw0]; exact ((Below.refl _ _).alloc (Nat.le_refl _) _).alloc (by simp) _
  have hsz : w0.heap.size = w.heap.size + 2 := by rw [← hw0]; simp
  have ok : X30.Ok ⟨a, b, A, B, cA, cB, w.heap.size, w.heap.size + 1, w0⟩ := by
    have h1 : w0.heap[w.heap.size + 1]? = some (.cells (cells5 b B cB).toArray 24 (0, 0)) := by
      rw [← hw0]
      have := heap_alloc_new (w.alloc (.cells (cells5 a A cA).toArray 24)) (.cells (cells5 b B cB).toArray 24)
      simpa [cells5] using this
    have h0 : w0.heap[w.heap.size]? = some (.cells (cells5 a A cA).toArray 24 (0, 0)) := by
      rw [← hw0, Below.heap_alloc _ _ _ (by simp)]
      exact heap_alloc_new _ _
    exact ⟨At5.of h0, At5.of h1, RN.keep hbw hA, RN.keep hbw hB, ha, hb⟩
  have OK := Lib.hid ok
  have HBW := Lib.hid hbw
  have HSZ := Lib.hid hsz
  have HLA := Lib.hid la
  have HLB := Lib.hid lb
  clear ok hbw hsz hA hB la lb
  unfold Nd.val
  have hmm := @run_makeMap Try.prog
  go_enter Try.func15, Try.ntmps15
  go_wp2_with fail
  refine region15 ⟨a, b, A, B, cA, cB, w.heap.size, w.heap.size + 1, w0⟩ OK.out (.agg #[.int .i64 a.kind, .string a.text, .int .i64 a.pos, .int .i64 a.fin, .slice A a.kids.length cA]) (.agg #[.int .i64 b.kind, .string b.text, .int .i64 b.pos, .int .i64 b.fin, .slice B b.kids.length cB]) _ _ _ ?h0 ?hend
  case h0 =>
    refine ⟨_, _, _, _, _, _, _, _, rfl, ⟨(Below.refl _ w0).drew, ?_, ?_, ?_, ?_, ?_, ?_, ?_, ?_, ?_, ?_, ?_, ?_⟩⟩ <;> intro e <;> exact absurd e (by simp [Array.getD])
  intro L a' W hI hall
  obtain ⟨v5, v6, v13, v14, v15, v16, v17, v18, rfl, h⟩ := hI
  obtain ⟨gL, gF, gN, cL, cF, cN, rfl, FA⟩ := h.f1 (hall 1 (by omega))
  obtain ⟨gL', gF', gN', cL', cF', cN', rfl, FB⟩ := h.f4 (hall 4 (by omega))
  have e5 := h.f6 (hall 6 (by omega))
  rw [h.f2 (hall 2 (by omega))] at e5
  have e6 := h.f7 (hall 7 (by omega))
  rw [h.f5 (hall 5 (by omega))] at e6
  dsimp only at FA FB e5 e6
  have e5' : v5 = .slice (some ⟨gL, 0, none⟩) a.size cL := e5
  have e6' : v6 = .slice (some ⟨gL', 0, none⟩) b.size cL' := e6
  clear e5 e6
  subst e5' e6'
  have hq := h.bel
  dsimp only at hq
  have HBL := Lib.hid (HBW.out.trans (hq.mono (by have := HSZ.out; omega)))
  have HFA := Lib.hid FA
  have HFB := Lib.hid FB
  clear h hq hall OK HBW HSZ hw0 FA FB
  unfold frm15
  dsimp only
  have hWb := HBL.out.size
  go_wp2_with fail
  go_loopw [22] (fun s wr => ∃ (k : Nat) (D : DataW Nat), s = .int .i64 k ∧ k ≤ a.size ∧ CM wr W.heap.size k D ∧ CntD D ((labs a).take k) ∧ Below W.heap.size W wr)
    (fun s _ => a.size - (intOf s).toNat)
  case atStart =>
    exact ⟨0, .map [], rfl, Nat.zero_le _, World.ownsMap_made W _ _ _, fun p hp => by simp [DataW.atKey], (Below.refl _ _).alloc (Nat.le_refl _) _⟩
  case round =>
    obtain ⟨k, D, rfl, hk, hcm, hcd, hbl⟩ := hrel
    by_cases hlt : k < a.size
    · have hkn : (k : Int) < a.size := by omega
      have x0 := (hbl.cell (World.block_lt_of_cell? W _ (HFA.out.lab0 k hlt))).trans (HFA.out.lab0 k hlt)
      have x1 := (hbl.cell (World.block_lt_of_cell? W _ (HFA.out.lab1 k hlt))).trans (HFA.out.lab1 k hlt)
      obtain ⟨t, ht⟩ : ∃ t, nd (post a 0 0) k = t := ⟨_, rfl⟩
      rw [ht] at x0 x1
      have HT := Lib.hid ht
      have HCM := Lib.hid hcm
      have HCD := Lib.hid hcd
      have HB := Lib.hid hbl
      clear ht hcm hcd hbl
      go_wp2_with fail
      obtain ⟨w1, hw1⟩ : ∃ w1, wr.alloc (.cells #[.int .i64 t.kind, .string t.text] 70) = w1 := ⟨_, rfl⟩
      have y0 : w1.drew.cell? ⟨wr.heap.size, 0, none⟩ = some (.int .i64 t.kind) := by rw [← hw1]; exact cell_new _ _ _ _
      have y1 : w1.drew.cell? ⟨wr.heap.size, 1, none⟩ = some (.string t.text) := by rw [← hw1]; exact cell_new _ _ _ _
      have hlab : (labs a)[k]'(by rw [labs_len]; exact hlt) = labOf t := by rw [labs_get a k hlt, HT.out]
      have hlp : LabP (labOf t) := by rw [← hlab]; exact HLA.out _ (List.getElem_mem _)
      have hcw : CM w1.drew W.heap.size k D := by rw [← hw1]; exact (HCM.out.alloc _).drew
      have hbw : Below W.heap.size W w1.drew := by rw [← hw1]; exact (HB.out.alloc HB.out.size _).drew
      obtain ⟨c, v0, st, es1, clock1, hlk, hat, hwc, hme, hlk2, hst⟩ := bump hcw (key_lab t hlp) (by simp only [maxLen]; omega)
      have hc : c = ((labs a).take k).count (labOf t) := by have := HCD.out _ hlp; rw [hat] at this; simpa using this
      have hcs : (((labs a).take k).count (labOf t) : Nat) ≤ 1000000 := by have := List.count_le_length (a := labOf t) (l := (labs a).take k); rw [List.length_take] at this; omega
      have hcb : 0 ≤ c ∧ c ≤ 1000000 := by omega
      have hwrap : IntKind.i64.wrap (c + 1) = c + 1 := IntWalk.i64_in _ (by omega)
      have hk2 : ∀ W' : World, W'.heap[W.heap.size]? = some (.map es1 clock1) → ∃ es' clock', (Instr.entryStore 68 (.map (some W.heap.size)) (.int .i64 st) (.int .i64 (c + 1))).run Try.prog W' = .ok () (ChangeMaps.setBlock W' W.heap.size (.map es' clock')) ∧ CM (ChangeMaps.setBlock W' W.heap.size (.map es' clock')) W.heap.size (k + 1) (D.put (labK (labOf t)) (.lit (.int .i64 (c + 1)))) :=
        fun W' h => hst W' (c + 1) (WalkArith.wf_i64 (by omega)) h
      obtain ⟨w2, hw2⟩ : ∃ w2, ChangeMaps.setBlock w1.drew W.heap.size (.map es1 clock1) = w2 := ⟨_, rfl⟩
      have hBs : W.heap.size < w1.drew.heap.size := by obtain ⟨es, clock, hb, _⟩ := hcw; exact (Array.getElem?_eq_some_iff.1 hb).1
      have hh2 : w2.heap[W.heap.size]? = some (.map es1 clock1) := by rw [← hw2]; exact setBlock_at hBs _
      rw [hw2] at hme
      have hlk3 := hlk2 w2 hh2
      obtain ⟨es', clock', hes, hcm3⟩ := hk2 w2 hh2
      have hwrs : W.heap.size < wr.heap.size := HCM.out.lt
      have hbw2 : Below W.heap.size W w2 := by rw [← hw2]; exact hbw.trans (setBlock_below (Nat.le_refl _) _)
      have y2 : w2.cell? ⟨wr.heap.size, 0, none⟩ = some (.int .i64 t.kind) := by
        rw [← hw2, ← y0]; exact World.cell?_of_block (by simp only [ChangeMaps.setBlock]; rw [Array.getElem?_setIfInBounds, if_neg (by omega)])
      have y3 : w2.cell? ⟨wr.heap.size, 1, none⟩ = some (.string t.text) := by
        rw [← hw2, ← y1]; exact World.cell?_of_block (by simp only [ChangeMaps.setBlock]; rw [Array.getElem?_setIfInBounds, if_neg (by omega)])
      have y4 : (ChangeMaps.setBlock w2 W.heap.size (.map es' clock')).cell? ⟨wr.heap.size, 0, none⟩ = some (.int .i64 t.kind) := by
        rw [← y2]; exact World.cell?_of_block (by simp only [ChangeMaps.setBlock]; rw [Array.getElem?_setIfInBounds, if_neg (by omega)])
      have y5 : (ChangeMaps.setBlock w2 W.heap.size (.map es' clock')).cell? ⟨wr.heap.size, 1, none⟩ = some (.string t.text) := by
        rw [← y3]; exact World.cell?_of_block (by simp only [ChangeMaps.setBlock]; rw [Array.getElem?_setIfInBounds, if_neg (by omega)])
      obtain ⟨w3, hw3⟩ : ∃ w3, ChangeMaps.setBlock w2 W.heap.size (.map es' clock') = w3 := ⟨_, rfl⟩
      rw [hw3] at hes hcm3 y4 y5
      have hbw3 : Below W.heap.size W w3 := by rw [← hw3]; exact hbw2.trans (setBlock_below (Nat.le_refl _) _)
      have HC := Lib.hid hc
      have HAB := Lib.hid hlab
      have HLP := Lib.hid hlp
      have HM3 := Lib.hid hcm3
      have HB3 := Lib.hid hbw3
      rw [hw1]
      clear hw1 hw2 hw3 hh2 hk2 hst hlk2 hcw hbw hbw2 hbw3 hBs hc hlab hlp hcm3 hwc hat x0 x1
      go_region_held3 (fun W' => W'.cell? ⟨wr.heap.size, 0, none⟩ = some (.int .i64 t.kind) ∧ W'.cell? ⟨wr.heap.size, 1, none⟩ = some (.string t.text)) (first | exact ⟨y0, y1⟩ | exact ⟨y2, y3⟩ | exact ⟨y4, y5⟩) (fail)
      all_goals
        go_wp2_with fail
        go_roundw
        case rel =>
          have ht : (labs a).take (k + 1) = (labs a).take k ++ [labOf t] := by
            rw [List.take_succ_eq_append_getElem (by rw [labs_len]; exact hlt), HAB.out]
          refine ⟨k + 1, _, by go_num, by omega, HM3.out, ?_, HB3.out⟩
          refine HCD.out.put HCM.out.isMap HLP.out ?_ (fun q hq => ?_)
          · rw [ht, List.count_append, HC.out]; simp
          · rw [ht, List.count_append]; simp [List.count_cons, Ne.symm hq]
        case measure => simp [intOf]; omega
    · obtain rfl : k = a.size := by omega
      have HCM := Lib.hid hcm
      have HCD := Lib.hid (show CntD D (labs a) by have h := hcd; rw [List.take_of_length_le (by rw [labs_len]; exact Nat.le_refl _)] at h; exact h)
      have HB := Lib.hid hbl
      clear hcm hcd hbl
      go_wp2_with fail
      go_loopw [10, 35] (fun x s wr => ∃ (k : Nat) (D : DataW Nat), s = .int .i64 k ∧ k ≤ b.size ∧ x = .int .i64 (com (labs a) ((labs b).take k) : Nat) ∧ CM wr W.heap.size (a.size + k) D ∧ CntD D (rest (labs a) ((labs b).take k)) ∧ Below W.heap.size W wr)
        (fun _ s _ => b.size - (intOf s).toNat)
      case atStart =>
        exact ⟨0, D, rfl, Nat.zero_le _, by simp [com], HCM.out, by simpa [rest] using HCD.out, HB.out⟩
      case round =>
        clear HCM HCD HB
        obtain ⟨k, D2, rfl, hk, rfl, hcm, hcd, hbl⟩ := hrel
        by_cases hlt : k < b.size
        · have hkn : (k : Int) < b.size := by omega
          have x0 := (hbl.cell (World.block_lt_of_cell? W _ (HFB.out.lab0 k hlt))).trans (HFB.out.lab0 k hlt)
          have x1 := (hbl.cell (World.block_lt_of_cell? W _ (HFB.out.lab1 k hlt))).trans (HFB.out.lab1 k hlt)
          obtain ⟨t, ht⟩ : ∃ t, nd (post b 0 0) k = t := ⟨_, rfl⟩
          rw [ht] at x0 x1
          have HT := Lib.hid ht
          have HCM := Lib.hid hcm
          have HCD := Lib.hid hcd
          have HB := Lib.hid hbl
          obtain ⟨R, hR⟩ : ∃ R, rest (labs a) ((labs b).take k) = R := ⟨_, rfl⟩
          obtain ⟨m, hm⟩ : ∃ m, com (labs a) ((labs b).take k) = m := ⟨_, rfl⟩
          have hmb : m ≤ b.size := by have := com_le ((labs b).take k) (labs a); rw [hm, List.length_take] at this; omega
          rw [hR] at HCD
          rw [hm]
          have HR := Lib.hid hR
          have HMM := Lib.hid hm
          clear ht hcm hcd hbl hR hm
          obtain ⟨w1, hw1⟩ : ∃ w1, wr.alloc (.cells #[.int .i64 t.kind, .string t.text] 70) = w1 := ⟨_, rfl⟩
          have y0 : w1.drew.cell? ⟨wr.heap.size, 0, none⟩ = some (.int .i64 t.kind) := by rw [← hw1]; exact cell_new _ _ _ _
          have y1 : w1.drew.cell? ⟨wr.heap.size, 1, none⟩ = some (.string t.text) := by rw [← hw1]; exact cell_new _ _ _ _
          have hlab : (labs b)[k]'(by rw [labs_len]; exact hlt) = labOf t := by rw [labs_get b k hlt, HT.out]
          have hlp : LabP (labOf t) := by rw [← hlab]; exact HLB.out _ (List.getElem_mem _)
          have hcw : CM w1.drew W.heap.size (a.size + k) D2 := by rw [← hw1]; exact (HCM.out.alloc _).drew
          have hbw : Below W.heap.size W w1.drew := by rw [← hw1]; exact (HB.out.alloc HB.out.size _).drew
          obtain ⟨c, v0, st, es1, clock1, hlk, hat, hwc, hme, hlk2, hst⟩ := bump hcw (key_lab t hlp) (by simp only [maxLen]; omega)
          have hc : c = R.count (labOf t) := by have := HCD.out _ hlp; rw [hat] at this; simpa using this
          have hcs : (R.count (labOf t) : Nat) ≤ 1000000 := by have := List.count_le_length (a := labOf t) (l := R); have h2 := rest_le ((labs b).take k) (labs a); rw [HR.out, labs_len] at h2; omega
          have hcb : 0 ≤ c ∧ c ≤ 1000000 := by omega
          have hwrap : IntKind.i64.wrap (c - 1) = c - 1 := IntWalk.i64_in _ (by omega)
          have hk2 : ∀ W' : World, W'.heap[W.heap.size]? = some (.map es1 clock1) → ∃ es' clock', (Instr.entryStore 68 (.map (some W.heap.size)) (.int .i64 st) (.int .i64 (c - 1))).run Try.prog W' = .ok () (ChangeMaps.setBlock W' W.heap.size (.map es' clock')) ∧ CM (ChangeMaps.setBlock W' W.heap.size (.map es' clock')) W.heap.size (a.size + k + 1) (D2.put (labK (labOf t)) (.lit (.int .i64 (c - 1)))) :=
            fun W' h => hst W' (c - 1) (WalkArith.wf_i64 (by omega)) h
          obtain ⟨w2, hw2⟩ : ∃ w2, ChangeMaps.setBlock w1.drew W.heap.size (.map es1 clock1) = w2 := ⟨_, rfl⟩
          have hBs : W.heap.size < w1.drew.heap.size := by obtain ⟨es, clock, hb, _⟩ := hcw; exact (Array.getElem?_eq_some_iff.1 hb).1
          have hh2 : w2.heap[W.heap.size]? = some (.map es1 clock1) := by rw [← hw2]; exact setBlock_at hBs _
          rw [hw2] at hme
          have hlk3 := hlk2 w2 hh2
          obtain ⟨es', clock', hes, hcm3⟩ := hk2 w2 hh2
          have hwrs : W.heap.size < wr.heap.size := HCM.out.lt
          have hbw2 : Below W.heap.size W w2 := by rw [← hw2]; exact hbw.trans (setBlock_below (Nat.le_refl _) _)
          have y2 : w2.cell? ⟨wr.heap.size, 0, none⟩ = some (.int .i64 t.kind) := by
            rw [← hw2, ← y0]; exact World.cell?_of_block (by simp only [ChangeMaps.setBlock]; rw [Array.getElem?_setIfInBounds, if_neg (by omega)])
          have y3 : w2.cell? ⟨wr.heap.size, 1, none⟩ = some (.string t.text) := by
            rw [← hw2, ← y1]; exact World.cell?_of_block (by simp only [ChangeMaps.setBlock]; rw [Array.getElem?_setIfInBounds, if_neg (by omega)])
          have y4 : (ChangeMaps.setBlock w2 W.heap.size (.map es' clock')).cell? ⟨wr.heap.size, 0, none⟩ = some (.int .i64 t.kind) := by
            rw [← y2]; exact World.cell?_of_block (by simp only [ChangeMaps.setBlock]; rw [Array.getElem?_setIfInBounds, if_neg (by omega)])
          have y5 : (ChangeMaps.setBlock w2 W.heap.size (.map es' clock')).cell? ⟨wr.heap.size, 1, none⟩ = some (.string t.text) := by
            rw [← y3]; exact World.cell?_of_block (by simp only [ChangeMaps.setBlock]; rw [Array.getElem?_setIfInBounds, if_neg (by omega)])
          obtain ⟨w3, hw3⟩ : ∃ w3, ChangeMaps.setBlock w2 W.heap.size (.map es' clock') = w3 := ⟨_, rfl⟩
          rw [hw3] at hes hcm3 y4 y5
          have hbw3 : Below W.heap.size W w3 := by rw [← hw3]; exact hbw2.trans (setBlock_below (Nat.le_refl _) _)
          have HC := Lib.hid hc
          have HC1 := Lib.hid (show CM w1 W.heap.size (a.size + k) D2 from hcw)
          have HAT := Lib.hid hat
          have HBW1 := Lib.hid (show Below W.heap.size W w1 from ⟨hbw.os, hbw.tape, hbw.output, hbw.size, hbw.block⟩)
          have HAB := Lib.hid hlab
          have HLP := Lib.hid hlp
          have HM3 := Lib.hid hcm3
          have HB3 := Lib.hid hbw3
          have HW1 := Lib.hid hw1
          have hlk0 : (Instr.lookup 68 (.map (some W.heap.size)) (.agg #[.int .i64 t.kind, .string t.text]) false).run Try.prog w1 = .ok (.int .i64 c) w1 := by
            obtain ⟨c', h1, h2, _⟩ := World.ownsMap.lookup_int (HC1.out) keyed70 Try.underlying68 Try.underlying3 (Try.zeroValue3 w1) (key_lab t HLP.out)
            rw [HAT.out] at h2
            have : c = c' := by simpa using h2
            rw [this]; exact h1
          have u0 : w1.cell? ⟨wr.heap.size, 0, none⟩ = some (.int .i64 t.kind) := y0
          have u1 : w1.cell? ⟨wr.heap.size, 1, none⟩ = some (.string t.text) := y1
          have HB1 := Lib.hid HBW1.out
          clear hw2 hw3 hh2 hk2 hst hlk2 hcw hbw hbw2 hbw3 hBs hc hlab hlp hcm3 hwc hat
          by_cases hpos : 0 < c
          · go_wp2_with fail
            go_region_held3 (fun W' => W'.cell? ⟨wr.heap.size, 0, none⟩ = some (.int .i64 t.kind) ∧ W'.cell? ⟨wr.heap.size, 1, none⟩ = some (.string t.text)) (first | exact ⟨y0, y1⟩ | exact ⟨y2, y3⟩ | exact ⟨y4, y5⟩) (fail)
            all_goals
              go_wp2_with fail
              go_roundw
              case rel =>
                have ht : (labs b).take (k + 1) = (labs b).take k ++ [labOf t] := by
                  rw [List.take_succ_eq_append_getElem (by rw [labs_len]; exact hlt), HAB.out]
                have hmem : labOf t ∈ R := List.count_pos_iff.1 (by have := HC.out; omega)
                have er : rest (labs a) ((labs b).take (k + 1)) = R.erase (labOf t) := by rw [ht, rest_append, HR.out]; simp [rest, hmem]
                have em : com (labs a) ((labs b).take (k + 1)) = m + 1 := by rw [ht, com_append, HR.out, HMM.out]; simp [com, hmem]
                refine ⟨k + 1, _, by go_num, by omega, by rw [em]; go_num, HM3.out, ?_, HB3.out⟩
                rw [er]
                refine HCD.out.put HCM.out.isMap HLP.out ?_ (fun q hq => ?_)
                · rw [List.count_erase_self, HC.out]; have := List.count_pos_iff.2 hmem; omega
                · exact List.count_erase_of_ne hq
              case measure => simp [intOf]; omega
          · go_wp2_with fail
            go_roundw
            case rel =>
              have ht : (labs b).take (k + 1) = (labs b).take k ++ [labOf t] := by
                rw [List.take_succ_eq_append_getElem (by rw [labs_len]; exact hlt), HAB.out]
              have hmem : ¬ labOf t ∈ R := fun h => by have := List.count_pos_iff.2 h; have := HC.out; omega
              have er : rest (labs a) ((labs b).take (k + 1)) = R := by rw [ht, rest_append, HR.out]; simp [rest, hmem]
              have em : com (labs a) ((labs b).take (k + 1)) = m := by rw [ht, com_append, HR.out, HMM.out]; simp [com, hmem]
              refine ⟨k + 1, D2, by go_num, by omega, by rw [em], HC1.out.mono (by omega), ?_, HB1.out⟩
              rw [er]
              exact HCD.out
            case measure => simp [intOf]; omega
        · obtain rfl : k = b.size := by omega
          have hcl := com_le (labs b) (labs a)
          rw [labs_len] at hcl
          rw [List.take_of_length_le (by rw [labs_len]; exact Nat.le_refl _)]
          have HB := Lib.hid hbl
          clear hcm hcd hbl
          obtain ⟨m, hm⟩ : ∃ m, com (labs a) (labs b) = m := ⟨_, rfl⟩
          rw [hm] at hcl ⊢
          have HM := Lib.hid hm
          clear hm
          have he : boundV a b = max (a.size : Int) (b.size : Int) - (m : Int) := by unfold boundV; rw [HM.out]; omega
          have HE := Lib.hid he
          clear he
          go_wp2_with fail
          go_ret
          exact ⟨by rw [HE.out]; rfl, HBL.out.trans (HB.out.mono HBL.out.size)⟩
end Go.Proofs.Ytjijfgkmjachnaa
