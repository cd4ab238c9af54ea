/- The closure of FingerprintGuarantee, walked. -/
import Derived.Test.YtpkjiimcoepjpaaDoorT37
namespace Go.Proofs.YtpkjiimcoepjpaaDoor
set_option linter.unusedVariables false
set_option linter.unusedSimpArgs false
open Go.RowKit Go.Proofs.YtpkjiimcoepjpaaDoorW.PrintWords Go.Proofs.YtpkjiimcoepjpaaDoorW.PrintMore Go.Maps
open PFingerprintSymbols (S48)

theorem chosen_outP' (h : List Int) (m : Nat) (hm : 1 ≤ m) : ∀ p ∈ outP h m h.length, p < h.length := by
  intro p hp
  obtain ⟨_, h2, _⟩ := outP_spec h hm h.length
  obtain ⟨j, hj1, hj2, rfl⟩ := (h2 p).1 hp
  have := (atW_ok h (j := j) hm).hi
  omega
theorem hvb (s : List Int) (K : Int) (p : Nat) (hp : p < (hashesV s K).length) : 0 ≤ hv (hashesV s K) p ∧ hv (hashesV s K) p < 2147483647 := by
  unfold hashesV at hp ⊢
  split
  · rename_i h
    rw [if_pos h, runs_len] at hp
    by_cases hpl : p + K.toNat ≤ s.length
    · rw [runs_hv s K.toNat p hpl]; exact hashS_bd _
    · omega
  · rename_i h
    rw [if_neg h] at hp; simp at hp
theorem winV_bd (s : List Int) (K W : Int) : ∀ m ∈ winV (hashesV s K) W, 0 ≤ m.f0 ∧ m.f0 < 2147483647 ∧ 0 ≤ m.f1 ∧ m.f1 ≤ 3000 := by
  intro m hm
  unfold winV at hm
  split at hm
  · rename_i hc
    obtain ⟨p, hp, rfl⟩ := List.mem_map.1 hm
    have hn := hashesV_len s K
    have hpl : p < (hashesV s K).length := by
      rcases Nat.eq_zero_or_pos (hashesV s K).length with h0 | h0
      · rw [h0] at hp; simp [outP] at hp
      · exact (chosen_outP' (hashesV s K) _ (by omega) p hp)
    refine ⟨?_, ?_, ?_, ?_⟩
    · show 0 ≤ hv _ _
      exact (hvb s K p hpl).1
    · show hv _ _ < _
      exact (hvb s K p hpl).2
    · show 0 ≤ ((p : Nat) : Int); omega
    · show ((p : Nat) : Int) ≤ 3000; omega
  · simp at hm
/-- what the map holds -/
def Cont (D : DataW Nat) (l : List S48) (i : Nat) (nb lo : Int) : Prop := ∀ j (h : j < l.length), j < i → 0 ≤ l[j].f1 - nb → l[j].f1 - nb ≤ lo → ∀ zd, D.atKey (markKey l[j].f0 (l[j].f1 - nb)) zd = .lit (.bool true)

def MapRes (base : Nat) (l : List S48) (nb lo : Int) (e : Ending) (w' : World) : Prop := ∃ (B n : Nat) (D : DataW Nat), e = .returned (.map (some B)) ∧ w'.ownsMap Tryd.prog 48 (plainElem (H := Nat) Tryd.prog 4) B n D ∧ n ≤ 3000 ∧ base ≤ B ∧ Cont D l l.length nb lo

set_option maxRecDepth 100000 in
set_option maxHeartbeats 4000000 in
theorem MarksMapW (p : PC) (ok : p.Ok) (pw : Nat) (W : Nat) (K : Nat) (hk : p.k = ((K : Nat) : Int)) (hK : 1 ≤ K) (hK2 : K ≤ 64) (hW : 1 ≤ W) (hW2 : W ≤ 64) (hl : p.b.length + p.cm.length + p.a.length ≤ 2000) (hw : p.w0.cell? ⟨pw, 0, none⟩ = some (.int .i64 (W : Nat))) :
    Calls Tryd.prog 28 #[.slice p.A0 p.b.length p.c0, .slice p.A2 p.a.length p.c2, .pointer (some ⟨p.pc, 0, none⟩), .pointer (some ⟨p.pk, 0, none⟩), .pointer (some ⟨pw, 0, none⟩)] p.w0 fun e w' =>
      MapRes p.w0.heap.size (winV (hashesV p.all K) (W : Nat)) p.b.length ((p.cm.length : Int) - K) e w' ∧ Below p.w0.heap.size p.w0 w' := by
  have hal : p.all.length ≤ 2000 := by unfold PC.all; simp; omega
  have hc0 : hashesC p.all p.k = 0 := by unfold hashesC; rw [hk, if_pos ⟨by omega, by omega⟩, if_neg (by omega)]
  have hcw : winC (hashesV p.all p.k) (W : Nat) = 0 := by
    have := hashesV_len p.all p.k
    have h2 : (hashesV p.all p.k).length ≤ 2048 := by
      unfold hashesV; split
      · rw [runs_len]; omega
      · simp
    unfold winC; rw [if_pos ⟨by omega, by omega⟩, if_neg (by omega)]
  have HOK := Lib.hid ok
  have HL := Lib.hid (And.intro hal hk)
  have hwl := World.block_lt_of_cell? _ _ hw
  have HWC := Lib.hid hw
  have hmm := @run_makeMap Tryd.prog
  clear ok hw
  go_enter Tryd.func28, Tryd.ntmps28
  go_wp2_with fail
  refine regionC p HOK.out _ (by rfl) (by rfl) (by rfl) (by rfl) (by rfl) _ ?_
  intro f w1 A c e8 e9 e10 e11 e12 e13 hin hb1
  simp only [dsC, setAll, List.setIfInBounds_toArray, List.set_cons_zero, List.set_cons_succ, Nat.zero_add, Nat.reduceAdd]
  rw [e12, e13, hc0]
  unfold PC.res
  have HW1 := Lib.hid (WinnowW' (hashesV p.all p.k) A c (W : Nat) w1 hin)
  rw [hcw] at HW1
  have H1 := Lib.hid hb1
  have q4 := (hb1.cell (p := ⟨pw, 0, none⟩) hwl).trans HWC.out
  clear e8 e9 e10 e11 e12 e13 hin hb1 hc0 hcw hal hk
  go_wp2_with fail
  refine HW1.out.mono ?_
  rintro e w2 ⟨⟨A2, c2, rfl, i2⟩, h2⟩
  have H2 := Lib.hid (H1.out.trans (h2.mono H1.out.size))
  have I2 := Lib.hid i2
  clear h2 i2 q4
  have hln := winV_len (hashesV p.all p.k) (W : Nat)
  have hbd := winV_bd p.all p.k (W : Nat)
  obtain ⟨l, hll⟩ : ∃ l, winV (hashesV p.all p.k) (W : Nat) = l := ⟨_, rfl⟩
  rw [hll] at I2 hln hbd ⊢
  have HLL := Lib.hid hll
  have HBD := Lib.hid hbd
  clear hll hbd HW1
  go_wp2_with fail
  obtain ⟨w3, hw3⟩ : ∃ w3, w2.alloc (.map #[] 0) = w3 := ⟨_, rfl⟩
  have ho3 : w3.ownsMap Tryd.prog 48 (plainElem (H := Nat) Tryd.prog 4) w2.heap.size 0 (.map []) := by rw [← hw3]; exact World.ownsMap_made w2 _ _ _
  have hb3 : Below w2.heap.size w2 w3 := by rw [← hw3]; exact allocB _ _
  have hz2 := H2.out.size
  have H3 := Lib.hid (And.intro ho3 (H2.out.trans (hb3.mono hz2)))
  have I3 := Lib.hid (I2.out.below hb3)
  rw [hw3]
  clear hw3 ho3 hb3 I2
  have hpcl := World.block_lt_of_cell? _ _ HOK.out.cc
  have hpkl := World.block_lt_of_cell? _ _ HOK.out.ck
  go_loopw [36] (fun s wr => ∃ (i : Nat) (D : DataW Nat), s = .int .i64 (i : Nat) ∧ i ≤ l.length ∧ Hid (wr.ownsMap Tryd.prog 48 (plainElem Tryd.prog 4) w2.heap.size i D ∧ Cont D l i p.b.length ((p.cm.length : Int) - K) ∧ Below p.w0.heap.size p.w0 wr ∧ MkI wr A2 c2 l)) (fun s _ => l.length - (Go.RowKit.intOf s).toNat)
  case atStart => exact ⟨0, .map [], rfl, Nat.zero_le _, Lib.hid ⟨H3.out.1, fun j _ h => by omega, H3.out.2, I3.out⟩⟩
  case round =>
    clear H3 I3
    obtain ⟨i, D, rfl, hi, H⟩ := hrel
    obtain ⟨wq, rfl⟩ : ∃ wq : World, wq = wr := ⟨_, rfl⟩
    by_cases hlt : i < l.length
    · have hiI : (i : Int) < (l.length : Int) := by omega
      obtain ⟨b2, o2, rfl, hc⟩ := H.out.2.2.2.2.2 (by omega)
      obtain ⟨r0, r1⟩ := hc i hlt
      have hbd := HBD.out _ (List.getElem_mem hlt)
      obtain ⟨x, hx⟩ : ∃ x, l[i].f0 = x := ⟨_, rfl⟩
      obtain ⟨y, hy⟩ : ∃ y, l[i].f1 = y := ⟨_, rfl⟩
      rw [hx] at r0
      rw [hy] at r1
      rw [hx, hy] at hbd
      obtain ⟨bd1, bd2, bd3, bd4⟩ := hbd
      have qc := (H.out.2.2.1.cell (p := ⟨p.pc, 0, none⟩) hpcl).trans HOK.out.cc
      have qk := (H.out.2.2.1.cell (p := ⟨p.pk, 0, none⟩) hpkl).trans (HOK.out.ck.trans (by rw [HL.out.2]))
      have hne1 : p.pc ≠ wq.heap.size := by have := H.out.2.2.1.size; have : p.pc < p.w0.heap.size := hpcl; omega
      have hne2 : p.pk ≠ wq.heap.size := by have := H.out.2.2.1.size; have : p.pk < p.w0.heap.size := hpkl; omega
      have HXY := Lib.hid (And.intro hx hy)
      obtain ⟨u, hu⟩ : ∃ u, y - (p.b.length : Int) = u := ⟨_, rfl⟩
      have hub : -2000 ≤ u ∧ u ≤ 3000 := by omega
      have hkey := keyOf48 x u (WalkArith.wf_i64 (by omega)) (WalkArith.wf_i64 (by omega))
      have HKEY := Lib.hid hkey
      have hcmk : (p.cm.length : Int) - (K : Int) ≤ 3000 ∧ -100 ≤ (p.cm.length : Int) - (K : Int) := by omega
      have hwr : IntKind.i64.wrap (y - (p.b.length : Int)) = u := by rw [hu]; exact IntWalk.i64_in _ (by omega)
      have HU := Lib.hid hu
      have qc' := ((allocB wq (.cells #[.int .i64 x, .int .i64 u] 48)).cell (p := ⟨p.pc, 0, none⟩) (World.block_lt_of_cell? wq _ qc)).trans qc
      have qk' := ((allocB wq (.cells #[.int .i64 x, .int .i64 u] 48)).cell (p := ⟨p.pk, 0, none⟩) (World.block_lt_of_cell? wq _ qk)).trans qk
      have hz := H.out.2.2.1.size
      clear hc hx hy hkey qc qk hne1 hne2
      obtain ⟨hub1, hub2⟩ := hub
      by_cases g1 : 0 ≤ u
      · have d1 : decide (u ≥ 0) = true := decide_eq_true g1
        by_cases g2 : u ≤ (p.cm.length : Int) - (K : Int)
        · have d2 : decide (u ≤ (p.cm.length : Int) - (K : Int)) = true := decide_eq_true g2
          have HMAP := Lib.hid (H.out.1.alloc (.cells #[.int .i64 x, .int .i64 u] 48))
          go_wp2_with (first
            | (at_mapUpdate; refine wpList_mapUpdate_own _ rfl _ _ _ 49 rfl 48 4 keyed48 Tryd.underlying49 _ w2.heap.size i _ rfl HMAP.out (by simp only [maxLen]; omega) _ _ _ rfl rfl HKEY.out _ [] (plainElem_bool Tryd.underlying4 true) ?_; intro w5 hown5 hgrow5)
            | fail)
          go_roundw
          case rel =>
            refine ⟨i + 1, _, by go_num, by omega, Lib.hid ⟨hown5, ?_, (H.out.2.2.1.alloc hz _).grown hgrow5 (Nat.le_trans hz (allocB wq _).size) (fun q hq => by cases hq; exact hz2), ?_⟩⟩
            · intro j hj hji e1 e2 zd
              by_cases hk : markKey l[j].f0 (l[j].f1 - p.b.length) = markKey x u
              · rw [hk, atKey_put_same H.out.1.isMap (keyed48.key HKEY.out)]
              · rw [atKey_put_other hk]
                refine H.out.2.1 j hj ?_ e1 e2 zd
                rcases Nat.lt_or_ge j i with h | h
                · exact h
                · exfalso
                  obtain rfl : j = i := by omega
                  exact hk (by rw [HXY.out.1, HXY.out.2, HU.out])
            · refine ⟨H.out.2.2.2.1, H.out.2.2.2.2.1, fun hp => ?_⟩
              obtain ⟨b', o', e', hc'⟩ := H.out.2.2.2.2.2 hp
              refine ⟨b', o', e', fun j hj => ?_⟩
              obtain ⟨z0, z1⟩ := hc' j hj
              have hbl := World.block_lt_of_cell? wq _ z0
              have hne : b' ≠ w2.heap.size := fun e => by
                obtain ⟨es, cl, hm, _⟩ := H.out.1
                rw [World.cell?, e, hm] at z0
                cases z0
              have hbk : w5.heap[b']? = wq.heap[b']? := by
                rw [hgrow5.block _ (Nat.lt_of_lt_of_le hbl (allocB wq _).size) (fun e => hne (Option.some.inj e)), Below.heap_alloc _ _ _ hbl]
              exact ⟨(World.cell?_of_block hbk).trans z0, (World.cell?_of_block hbk).trans z1⟩
          case measure => simp [Go.RowKit.intOf]; omega
        · have d2 : decide (u ≤ (p.cm.length : Int) - (K : Int)) = false := decide_eq_false g2
          go_wp2_with fail
          go_roundw
          case rel =>
            refine ⟨i + 1, D, by go_num, by omega, Lib.hid ⟨(H.out.1.alloc _).mono (by omega), ?_, H.out.2.2.1.alloc hz _, H.out.2.2.2.below (allocB _ _)⟩⟩
            intro j hj hji e1 e2 zd
            refine H.out.2.1 j hj ?_ e1 e2 zd
            rcases Nat.lt_or_ge j i with h | h
            · exact h
            · exfalso
              obtain rfl : j = i := by omega
              rw [HXY.out.2, HU.out] at e2
              exact g2 e2
          case measure => simp [Go.RowKit.intOf]; omega
      · have d1 : decide (u ≥ 0) = false := decide_eq_false g1
        go_wp2_with fail
        go_roundw
        case rel =>
          refine ⟨i + 1, D, by go_num, by omega, Lib.hid ⟨(H.out.1.alloc _).mono (by omega), ?_, H.out.2.2.1.alloc hz _, H.out.2.2.2.below (allocB _ _)⟩⟩
          intro j hj hji e1 e2 zd
          refine H.out.2.1 j hj ?_ e1 e2 zd
          rcases Nat.lt_or_ge j i with h | h
          · exact h
          · exfalso
            obtain rfl : j = i := by omega
            rw [HXY.out.2, HU.out] at e1
            exact g1 e1
        case measure => simp [Go.RowKit.intOf]; omega
    · obtain rfl : i = l.length := by omega
      go_wp2_with fail
      go_ret
      refine ⟨⟨w2.heap.size, l.length, D, rfl, H.out.1, hln, hz2, ?_⟩, H.out.2.2.1⟩
      have := HLL.out
      rw [HL.out.2] at this
      rw [this]
      exact H.out.2.1
end Go.Proofs.YtpkjiimcoepjpaaDoor
