import Derived.Test.YtjijfgkmjachnaaT41
import Derived.Deep.RegionHeld3
import Derived.Deep.DrawnRows
namespace Go.Proofs.Ytjijfgkmjachnaa
set_option linter.unusedVariables false
set_option linter.unusedSimpArgs false
open Go.RowKit

def tdAt (l : List Nd) (i k : Nat) : Int := (td (l.getD i (.mk 0 ByteArray.empty 0 0 [])) (l.getD k (.mk 0 ByteArray.empty 0 0 [])) : Nat)
/-- what the matrix holds: below and above the diagonal the distance of the later one and the earlier one -/
def mx (l : List Nd) (i k : Nat) : Int := if k < i then tdAt l i k else if i < k then tdAt l k i else 0

/-- what the loops have written -/
structure MxI (l : List Nd) (i k : Nat) (T : Nat → Nat → Int) : Prop where
  a : ∀ s t, s < i → t < i → T s t = mx l s t
  b : ∀ t, t < k → T i t = mx l i t ∧ T t i = mx l t i
  c : ∀ s, T s s = 0

attribute [local go_sem ↓] Go.wp_at_zero Go.wp_at_succ

set_option maxRecDepth 100000 in
set_option maxHeartbeats 2000000 in
theorem Matrix (l : List Nd) (B : Option Addr) (cB : Nat) (w : World) (hB : RN w (asN l) B cB) (hb : ∀ t ∈ l, t.size ≤ 1000000) (hl : l.length ≤ 1024) :
    Calls Try.prog 23 #[.slice B l.length cB] w fun e w' => ((bigAny l = true ∧ e = .returned (.tuple #[.slice none 0 0, .int .i64 8])) ∨ (bigAny l = false ∧ ∃ g bs, e = .returned (.tuple #[.slice (some ⟨g, 0, none⟩) l.length l.length, .int .i64 0]) ∧ Tab w' w.heap.size g bs l.length l.length (mx l))) ∧ Below w.heap.size w w' := by
  have HL2 := Lib.hid (large l B cB w hB (fun t ht => by have := hb t ht; omega))
  have HRB := Lib.hid hB
  have HSB := Lib.hid hb
  clear hB hb
  have hlz : ¬ (1024 : Int) < l.length := by omega
  go_enter Try.func23, Try.ntmps23
  go_wp2_with fail
  refine HL2.out.mono ?_
  rintro e w1 ⟨rfl, hb1⟩
  have HB1 := Lib.hid hb1
  clear hb1 HL2
  cases hq2 : bigAny l with
  | true =>
    have HQ2 := Lib.hid hq2
    clear hq2
    go_wp2_with fail
    go_ret2
    exact ⟨.inl ⟨HQ2.out, rfl⟩, HB1.out⟩
  | false =>
    have HQ2 := Lib.hid hq2
    clear hq2
    go_wp2_with fail
    refine (tableMake l.length l.length w1 (by omega) (by omega)).mono ?_
    rintro e w2 ⟨rfl, hT, hb2, _⟩
    have HT := Lib.hid hT
    have HB2 := Lib.hid (HB1.out.trans (hb2.mono HB1.out.size))
    have HG := Lib.hid HB1.out.size
    clear hT hb2
    obtain ⟨G, hG⟩ : ∃ G, w1.heap.size = G := ⟨_, rfl⟩
    rw [hG] at HT HG ⊢
    clear hG HB1
    go_wp2_with fail
    go_loopw [21] (fun s wr => ∃ (i : Nat) (T : Nat → Nat → Int), s = .int .i64 i ∧ i ≤ l.length ∧ Tab wr G G (fun i => G + 1 + i) l.length l.length T ∧ MxI l i 0 T ∧ Below w.heap.size w wr)
      (fun s _ => l.length - (intOf s).toNat)
    case atStart => exact ⟨0, _, rfl, Nat.zero_le _, HT.out, ⟨fun s t h => by omega, fun t h => by omega, fun s => rfl⟩, HB2.out⟩
    case round =>
      obtain ⟨i, T, rfl, hi, hT, hM, hbl⟩ := hrel
      by_cases hil : i < l.length
      · have hin : (i : Int) < l.length := by omega
        have HTT := Lib.hid hT
        have HMM := Lib.hid hM
        have HBL := Lib.hid hbl
        clear hT hM hbl
        obtain ⟨bb, oo, As, cs, rfl, hcell, hsub⟩ : ∃ bb oo, ∃ (As : Nat → Option Addr) (cs : Nat → Nat), B = some ⟨bb, oo, none⟩ ∧ (∀ (i : Nat) (h : i < l.length), At5 w bb (oo + i * 5) l[i] (As i) (cs i)) ∧ (∀ (i : Nat) (h : i < l.length), RN w l[i] (As i) (cs i)) := by
          rcases HRB.out with ⟨_, b, o, _, As, cs, hc, hm, hcell, hsub⟩ | ⟨_, _, _, h⟩
          · exact ⟨b, o, As, cs, rfl, hcell, hsub⟩
          · rw [asN_kids] at h; rw [h] at hil; simp at hil
        have HCE := Lib.hid hcell
        have HSU := Lib.hid hsub
        clear hcell hsub
        go_wp2_with fail
        go_loopw [25] (fun s wr => ∃ (k : Nat) (T : Nat → Nat → Int), s = .int .i64 k ∧ k ≤ i ∧ Tab wr G G (fun i => G + 1 + i) l.length l.length T ∧ MxI l i k T ∧ Below w.heap.size w wr)
          (fun s _ => i - (intOf s).toNat)
        case atStart => exact ⟨0, T, rfl, Nat.zero_le _, HTT.out, HMM.out, HBL.out⟩
        case round =>
          obtain ⟨k, T2, rfl, hk, hT, hM, hbl⟩ := hrel
          by_cases hkl : k < i
          · have hkn : (k : Int) < i := by omega
            have hkm : (k : Int) < l.length := by omega
            have q := At5.keep (HCE.out i hil) hbl (HCE.out i hil).lt
            have p := At5.keep (HCE.out k (by omega)) hbl (HCE.out k (by omega)).lt
            have hx := RN.keep hbl (HSU.out i hil)
            have hy := RN.keep hbl (HSU.out k (by omega))
            obtain ⟨x, hx0⟩ : ∃ x, l[i] = x := ⟨_, rfl⟩
            obtain ⟨y, hy0⟩ : ∃ y, l[k] = y := ⟨_, rfl⟩
            rw [hx0] at q hx
            rw [hy0] at p hy
            have HS := Lib.hid (fun (w1 : World) (h1 : Below wr.heap.size wr w1) => subtrees x y (As i) (As k) (cs i) (cs k) w1 (RN.keep h1 hx) (RN.keep h1 hy) (by rw [← hx0]; exact HSB.out _ (List.getElem_mem _)) (by rw [← hy0]; exact HSB.out _ (List.getElem_mem _)))
            unfold Nd.val at HS
            have hxp := x.size_pos
            have hyp := y.size_pos
            obtain ⟨q0, q1, q2, q3, q4⟩ := q
            obtain ⟨p0, p1, p2, p3, p4⟩ := p
            have z0 := hT.outer i hil
            have z1 := hT.inner i k hil (by omega)
            have z2 := hT.free i k hil (by omega)
            have HTT2 := Lib.hid hT
            have HM2 := Lib.hid hM
            have HBL2 := Lib.hid hbl
            have HX0 := Lib.hid hx0
            have HY0 := Lib.hid hy0
            clear hT hM hbl hx hy hx0 hy0
            have HSK := Lib.hid (show ∀ W', Below wr.heap.size wr W' → (W'.cell? ⟨G, i, none⟩ = some (.slice (some ⟨G + 1 + i, 0, none⟩) l.length l.length) ∧ W'.cell? ⟨bb, oo + i * 5, none⟩ = some (.int .i64 x.kind) ∧ W'.cell? ⟨bb, oo + i * 5 + 1, none⟩ = some (.string x.text) ∧ W'.cell? ⟨bb, oo + i * 5 + 2, none⟩ = some (.int .i64 x.pos) ∧ W'.cell? ⟨bb, oo + i * 5 + 3, none⟩ = some (.int .i64 x.fin) ∧ W'.cell? ⟨bb, oo + i * 5 + 4, none⟩ = some (.slice (As i) x.kids.length (cs i)) ∧ W'.cell? ⟨bb, oo + k * 5, none⟩ = some (.int .i64 y.kind) ∧ W'.cell? ⟨bb, oo + k * 5 + 1, none⟩ = some (.string y.text) ∧ W'.cell? ⟨bb, oo + k * 5 + 2, none⟩ = some (.int .i64 y.pos) ∧ W'.cell? ⟨bb, oo + k * 5 + 3, none⟩ = some (.int .i64 y.fin) ∧ W'.cell? ⟨bb, oo + k * 5 + 4, none⟩ = some (.slice (As k) y.kids.length (cs k))) from fun W' h => by
              have b : ∀ p v, wr.cell? p = some v → W'.cell? p = some v := fun p v e => (h.cell (World.block_lt_of_cell? wr _ e)).trans e
              exact ⟨b _ _ z0, b _ _ q0, b _ _ q1, b _ _ q2, b _ _ q3, b _ _ q4, b _ _ p0, b _ _ p1, b _ _ p2, b _ _ p3, b _ _ p4⟩)
            have HST := Lib.hid (show ∀ W', Below wr.heap.size wr W' → W'.cell? ⟨G + 1 + i, k, none⟩ = some (.int .i64 (T2 i k)) ∧ W'.frozen? ⟨G + 1 + i, k, none⟩ = false from fun W' h =>
              ⟨(h.cell (p := ⟨G + 1 + i, k, none⟩) (World.block_lt_of_cell? wr _ z1)).trans z1, (World.frozen?_of_block (h.block _ (World.block_lt_of_cell? wr _ z1))).trans z2⟩)
            have hbbG : bb < G := by have := (HCE.out i hil).lt; have := HG.out; omega
            have HSK2 := Lib.hid (show ∀ W' v, Below wr.heap.size wr W' → ((W'.setCell ⟨G + 1 + i, k, none⟩ v).cell? ⟨G, i, none⟩ = some (.slice (some ⟨G + 1 + i, 0, none⟩) l.length l.length) ∧ (W'.setCell ⟨G + 1 + i, k, none⟩ v).cell? ⟨bb, oo + i * 5, none⟩ = some (.int .i64 x.kind) ∧ (W'.setCell ⟨G + 1 + i, k, none⟩ v).cell? ⟨bb, oo + i * 5 + 1, none⟩ = some (.string x.text) ∧ (W'.setCell ⟨G + 1 + i, k, none⟩ v).cell? ⟨bb, oo + i * 5 + 2, none⟩ = some (.int .i64 x.pos) ∧ (W'.setCell ⟨G + 1 + i, k, none⟩ v).cell? ⟨bb, oo + i * 5 + 3, none⟩ = some (.int .i64 x.fin) ∧ (W'.setCell ⟨G + 1 + i, k, none⟩ v).cell? ⟨bb, oo + i * 5 + 4, none⟩ = some (.slice (As i) x.kids.length (cs i)) ∧ (W'.setCell ⟨G + 1 + i, k, none⟩ v).cell? ⟨bb, oo + k * 5, none⟩ = some (.int .i64 y.kind) ∧ (W'.setCell ⟨G + 1 + i, k, none⟩ v).cell? ⟨bb, oo + k * 5 + 1, none⟩ = some (.string y.text) ∧ (W'.setCell ⟨G + 1 + i, k, none⟩ v).cell? ⟨bb, oo + k * 5 + 2, none⟩ = some (.int .i64 y.pos) ∧ (W'.setCell ⟨G + 1 + i, k, none⟩ v).cell? ⟨bb, oo + k * 5 + 3, none⟩ = some (.int .i64 y.fin) ∧ (W'.setCell ⟨G + 1 + i, k, none⟩ v).cell? ⟨bb, oo + k * 5 + 4, none⟩ = some (.slice (As k) y.kids.length (cs k))) from fun W' v h => by
              have b : ∀ p u, p.block ≠ G + 1 + i → wr.cell? p = some u → (W'.setCell ⟨G + 1 + i, k, none⟩ v).cell? p = some u := fun p u hn e => (cell_set_other _ _ _ _ (fun h => hn h)).trans ((h.cell (World.block_lt_of_cell? wr _ e)).trans e)
              exact ⟨b _ _ (by show G ≠ _; omega) z0, b _ _ (by show bb ≠ _; omega) q0, b _ _ (by show bb ≠ _; omega) q1, b _ _ (by show bb ≠ _; omega) q2, b _ _ (by show bb ≠ _; omega) q3, b _ _ (by show bb ≠ _; omega) q4, b _ _ (by show bb ≠ _; omega) p0, b _ _ (by show bb ≠ _; omega) p1, b _ _ (by show bb ≠ _; omega) p2, b _ _ (by show bb ≠ _; omega) p3, b _ _ (by show bb ≠ _; omega) p4⟩)
            have hy1 : (0 : Int) < y.size := by omega
            have hx1 : (0 : Int) < x.size := by omega
            go_wp2_with fail
            go_region_with ((go_at_call 30; refine (HS.out _ ((Below.refl _ wr).drew)).mono ?_; rintro e w3 ⟨g, bs, T, rfl, hTT, hSS, hb3⟩; have y0 := hTT.outer 0 hxp; have y1 := hTT.inner 0 0 hxp hyp; rw [hSS.zero] at y1; have HTT := Lib.hid hTT; have hb4 : Below wr.heap.size wr w3 := ((Below.refl _ wr).drew).trans hb3; obtain ⟨s1, s2⟩ := HST.out w3 hb4; have z0 := (HSK.out w3 hb4).1; clear hTT hSS hb3))
            all_goals
              obtain ⟨d, hd⟩ : ∃ d : Nat, td x y = d := ⟨_, rfl⟩
              rw [hd]
              obtain ⟨W5, hW5⟩ : ∃ W5, w3.setCell ⟨G + 1 + i, k, none⟩ (.int .i64 (d : Nat)) = W5 := ⟨_, rfl⟩
              have t5 : Tab W5 G G (fun i => G + 1 + i) l.length l.length (upd T2 i k (d : Nat)) := by
                rw [← hW5]
                exact (HTT2.out.keep (S := fun _ => False) (Keeps.of_below hb4) id (fun _ _ => id)).set hil (by omega) _
              have hb5 : Below w.heap.size w W5 := by
                rw [← hW5]
                exact (HBL2.out.trans (hb4.mono HBL2.out.size)).setCell (p := ⟨G + 1 + i, k, none⟩) (by have := HG.out; show _ ≤ G + 1 + i; omega) _
              rw [hW5]
              have HD := Lib.hid hd
              have a0 := t5.outer i hil
              have a1 := t5.outer k (by omega)
              have a2 := t5.inner i k hil (by omega)
              rw [upd_same] at a2
              have a3 := t5.inner k i (by omega) hil
              have a4 := t5.free k i (by omega) hil
              have HT5 := Lib.hid t5
              have HB5 := Lib.hid hb5
              clear hW5 t5 hb5 hb4 s1 s2 y0 y1 HTT z0 z1 z2 q0 q1 q2 q3 q4 p0 p1 p2 p3 p4 hd HSK HSK2 HST
              go_wp2_with fail
              go_still_tail 13, (by kernel_rfl)
              go_wp2_with fail
              go_roundw
              case rel =>
                have hM := HM2.out
                have hd := HD.out
                have e : tdAt l i k = (d : Nat) := by
                  rw [← hd, ← HX0.out, ← HY0.out]
                  unfold tdAt
                  simp [List.getD, hil, show k < l.length by omega]
                refine ⟨k + 1, upd (upd T2 i k (d : Nat)) k i (d : Nat), by go_num, by omega, ?_, ⟨fun s t hs ht => ?_, fun t ht => ?_, fun s => ?_⟩, ?_⟩
                · exact (HT5.out.set (by omega) hil _).drewN 1
                · rw [upd_other _ _ _ _ _ _ (by omega), upd_other _ _ _ _ _ _ (by omega)]
                  exact hM.a s t hs ht
                · by_cases htk : t = k
                  · subst htk
                    refine ⟨?_, ?_⟩
                    · rw [upd_other _ _ _ _ _ _ (by omega), upd_same]
                      unfold mx; rw [if_pos hkl, e]
                    · rw [upd_same]
                      unfold mx; rw [if_neg (by omega), if_pos hkl, e]
                  · rw [upd_other _ _ _ _ _ _ (by omega), upd_other _ _ _ _ _ _ (by omega), upd_other _ _ _ _ _ _ (by omega), upd_other _ _ _ _ _ _ (by omega)]
                    exact hM.b t (by omega)
                · rw [upd_other _ _ _ _ _ _ (by omega), upd_other _ _ _ _ _ _ (by omega)]
                  exact hM.c s
                · exact (HB5.out.setCell (p := ⟨G + 1 + k, i, none⟩) (by have := HG.out; show _ ≤ G + 1 + k; omega) _).drew
              case measure => simp [intOf]; omega
          · obtain rfl : k = i := by omega
            have HTT := Lib.hid hT
            have HMM := Lib.hid hM
            have HBL := Lib.hid hbl
            clear hT hM hbl
            go_wp2_with fail
            go_roundw
            case rel =>
              have hM := HMM.out
              refine ⟨k + 1, T2, by go_num, by omega, HTT.out, ⟨fun s t hs ht => ?_, fun t h => by omega, hM.c⟩, HBL.out⟩
              by_cases hs' : s = k
              · subst hs'
                by_cases ht' : t = s
                · subst ht'
                  rw [hM.c]; unfold mx; simp
                · exact (hM.b t (by omega)).1
              · by_cases ht' : t = k
                · subst ht'
                  exact (hM.b s (by omega)).2
                · exact hM.a s t (by omega) (by omega)
            case measure => simp [intOf]; omega
      · obtain rfl : i = l.length := by omega
        have HTT := Lib.hid hT
        have HMM := Lib.hid hM
        have HBL := Lib.hid hbl
        clear hT hM hbl
        go_wp2_with fail
        go_ret2
        refine ⟨.inr ⟨HQ2.out, G, (fun i => G + 1 + i), rfl, ?_⟩, HBL.out⟩
        have h := HTT.out.congr (T' := mx l) (fun i j hi hj => (HMM.out.a i j hi hj).symm)
        have hg := HG.out
        exact ⟨h.outer, h.inner, h.free, h.inj, h.ne, fun i hi => ⟨by have := (h.lo i hi).1; omega, (h.lo i hi).2⟩, ⟨by have := h.glo.1; omega, h.glo.2⟩⟩
end Go.Proofs.Ytjijfgkmjachnaa
