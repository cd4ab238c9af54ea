/- Seat 37, texts merged: the walk of DistanceLists. Lemmas for the laws of chapter 37; no conditions of their own beyond what each states. -/
import Derived.Test.YtjijfgkmjachnaaC11
import Derived.Test.YtjijfgkmjachnaaC4
namespace Go.Proofs.Ytjijfgkmjachnaa
set_option linter.unusedVariables false
set_option linter.unusedSimpArgs false
open Go.RowKit

theorem heap1' (w : World) (a : Nd) (A : Option Addr) (cA : Nat) (W : World) (hW : w.alloc (.cells (cells5 a A cA).toArray 24) = W) : At5 W w.heap.size 0 a A cA ∧ Below w.heap.size w W := by
  subst hW
  exact ⟨At5.of (heap_alloc_new w _), (Below.refl _ _).alloc (Nat.le_refl _) _⟩
theorem near_nil (a : Nd) : nearR a [] = .tuple #[.int .i64 0, .int .i64 0, .int .i64 (if bigAny [a] then 8 else 7)] := by
  unfold nearR
  cases bigAny [a] <;> simp [bigAny]

set_option maxRecDepth 100000 in
set_option maxHeartbeats 4000000 in
theorem lawLists0 (a : Nd) (A B : Option Addr) (cA cB : Nat) (w : World) (hA : RN w a A cA) :
    Calls Try.prog 8 #[a.val A cA, .slice B 0 cB] w fun e w' => e = .returned (.bool true) ∧ Below w.heap.size w w' := by
  obtain ⟨w0, hw0⟩ : ∃ w0, w.alloc (.cells (cells5 a A cA).toArray 24) = w0 := ⟨_, rfl⟩
  obtain ⟨pa, hb0⟩ := heap1' w a A cA w0 hw0
  have HCE := Lib.hid (show ∀ W, Below w0.heap.size w0 W → At5 W w.heap.size 0 a A cA from fun W h => pa.below h)
  have HT := Lib.hid (show ∀ W, Below w0.heap.size w0 W → Below w.heap.size w W from fun W h => hb0.trans (h.mono hb0.size))
  have HA := Lib.hid (show ∀ W, Below w0.heap.size w0 W → RN W a A cA from fun W h => RN.keep h (RN.keep hb0 hA))
  have hw1 : w.alloc (.cells #[.int .i64 a.kind, .string a.text, .int .i64 a.pos, .int .i64 a.fin, .slice A a.kids.length cA] 24) = w0 := hw0
  clear hw0 pa hb0 hA
  have HF1 := Lib.hid (fun W (h : Below w0.heap.size w0 W) => lawfew a a 12 A A cA cA W (HA.out W h) (HA.out W h) (by omega) (by omega))
  have HM := Lib.hid (fun W (h : Below w0.heap.size w0 W) => Matrix [] B cB W (.nil _ _ _ rfl) (by simp) (by simp))
  have HN := Lib.hid (fun W (h : Below w0.heap.size w0 W) (s : a.size ≤ 256) => Nearest a [] A B cA cB W (HA.out W h) (.nil _ _ _ rfl) (by omega) (by simp) (by simp))
  unfold Nd.val at HF1 HN ⊢
  go_enter Try.func8, Try.ntmps8
  go_wp2_with fail
  refine (awake w0).mono ?_
  rintro e w1 ⟨rfl, hb⟩
  have H1 := Lib.hid hb
  obtain ⟨a0, a1, a2, a3, a4⟩ := HCE.out _ H1.out
  clear hb hw1
  go_wp2_with fail
  refine (HF1.out w1 H1.out).mono ?_
  rintro e w2 ⟨rfl, hb⟩
  clear a0 a1 a2 a3 a4
  have H2 := Lib.hid (trans_b H1.out hb)
  obtain ⟨a0, a1, a2, a3, a4⟩ := HCE.out _ H2.out
  clear hb HF1
  cases hq : FewB a 12 && FewB a 12 with
  | false =>
    clear hq
    go_wp2_with fail
    go_ret
    exact ⟨rfl, HT.out _ H2.out⟩
  | true =>
    have HQ := Lib.hid hq
    clear hq
    have sa : a.size ≤ 12 := by have := HQ.out; simp only [Bool.and_eq_true] at this; have := FewB_size this.1; omega
    have hnn : nearR a [] = .tuple #[.int .i64 0, .int .i64 0, .int .i64 7] := by
      rw [near_nil]
      have : bigAny [a] = false := by simp [bigAny]; omega
      rw [this]
      rfl
    have HN2 := Lib.hid (fun W h => HN.out W h (by omega))
    rw [hnn] at HN2
    clear hnn HN
    go_wp2_with fail
    go_loopw [35] (fun c wr => wr = w2 ∧ c = .int .i64 0) (fun c _ => 0)
    case atStart => exact ⟨rfl, rfl⟩
    case round =>
      obtain ⟨rfl, rfl⟩ := hrel
      go_wp2_with fail
      refine (HM.out _ H2.out).mono ?_
      rintro e w3 ⟨hr, hb⟩
      obtain ⟨_, g, bs, rfl, hT⟩ := hr.resolve_left (fun h => by simp [bigAny] at h)
      clear a0 a1 a2 a3 a4 hr hT
      have H3 := Lib.hid (trans_b H2.out hb)
      obtain ⟨a0, a1, a2, a3, a4⟩ := HCE.out _ H3.out
      clear hb
      simp only [List.length_nil]
      go_wp2_with fail
      refine (HN2.out _ H3.out).mono ?_
      rintro e w4 ⟨rfl, hb⟩
      have H4 := Lib.hid (trans_b H3.out hb)
      clear hb
      go_wp2_with fail
      go_ret
      exact ⟨by simp, HT.out _ H4.out⟩

theorem mx_td (l : List Nd) (i j : Nat) (hi : i < l.length) (hj : j < l.length) : mx l i j = (td l[i] l[j] : Nat) := by
  have e : ∀ i j (hi : i < l.length) (hj : j < l.length), tdAt l i j = (td l[i] l[j] : Nat) := fun i j hi hj => by
    unfold tdAt
    simp [List.getD, hi, hj]
  unfold mx
  split
  · exact e i j hi hj
  · split
    · rw [e j i hj hi, td_comm]
    · obtain rfl : i = j := by omega
      rw [td_self]; rfl

set_option maxRecDepth 100000 in
set_option maxHeartbeats 8000000 in
theorem lawLists1 (a : Nd) (l : List Nd) (A : Option Addr) (bb oo : Nat) (cA cB : Nat) (w : World) (hA : RN w a A cA) (hB : RN w (asN l) (some ⟨bb, oo, none⟩) cB) (hne : l ≠ []) (hl5 : l.length ≤ 5) :
    Calls Try.prog 8 #[a.val A cA, .slice (some ⟨bb, oo, none⟩) l.length cB] w fun e w' => e = .returned (.bool true) ∧ Below w.heap.size w w' := by
  obtain ⟨w0, hw0⟩ : ∃ w0, w.alloc (.cells (cells5 a A cA).toArray 24) = w0 := ⟨_, rfl⟩
  obtain ⟨pa, hb0⟩ := heap1' w a A cA w0 hw0
  have HCE := Lib.hid (show ∀ W, Below w0.heap.size w0 W → At5 W w.heap.size 0 a A cA from fun W h => pa.below h)
  have HT := Lib.hid (show ∀ W, Below w0.heap.size w0 W → Below w.heap.size w W from fun W h => hb0.trans (h.mono hb0.size))
  have HA := Lib.hid (show ∀ W, Below w0.heap.size w0 W → RN W a A cA from fun W h => RN.keep h (RN.keep hb0 hA))
  have HB := Lib.hid (show ∀ W, Below w0.heap.size w0 W → RN W (asN l) (some ⟨bb, oo, none⟩) cB from fun W h => RN.keep h (RN.keep hb0 hB))
  obtain ⟨As, cs, hrow, hsub⟩ : ∃ (As : Nat → Option Addr) (cs : Nat → Nat), (∀ (i : Nat) (h : i < l.length), At5 w bb (oo + i * 5) l[i] (As i) (cs i)) ∧ (∀ (i : Nat) (h : i < l.length), RN w l[i] (As i) (cs i)) := by
    rcases hB with ⟨_, _, _, _, As, cs, hc, hm, hcell, hsub⟩ | ⟨_, _, _, h⟩
    · exact ⟨As, cs, hcell, hsub⟩
    · exact absurd h hne
  have HR := Lib.hid (show ∀ W, Below w0.heap.size w0 W → ∀ (i : Nat) (h : i < l.length), At5 W bb (oo + i * 5) l[i] (As i) (cs i) from fun W h i hi => ((hrow i hi).keep hb0 (hrow i hi).lt).below h)
  have HS := Lib.hid (show ∀ W, Below w0.heap.size w0 W → ∀ (i : Nat) (h : i < l.length), RN W l[i] (As i) (cs i) from fun W h i hi => RN.keep h (RN.keep hb0 (hsub i hi)))
  have hw1 : w.alloc (.cells #[.int .i64 a.kind, .string a.text, .int .i64 a.pos, .int .i64 a.fin, .slice A a.kids.length cA] 24) = w0 := hw0
  have hpos : 0 < l.length := List.length_pos_iff.2 hne
  clear hw0 pa hb0 hA hB hrow hsub hne
  have HF1 := Lib.hid (fun W (h : Below w0.heap.size w0 W) => lawfew a a 12 A A cA cA W (HA.out W h) (HA.out W h) (by omega) (by omega))
  have HF2 := Lib.hid (fun W (h : Below w0.heap.size w0 W) (x : Nd) (X : Option Addr) (cX : Nat) (hX : RN W x X cX) => lawfew x x 12 X X cX cX W hX hX (by omega) (by omega))
  have HD := Lib.hid (fun W (x y : Nd) (X Y : Option Addr) (cX cY : Nat) (hX : RN W x X cX) (hY : RN W y Y cY) (s1 : x.size ≤ 12) (s2 : y.size ≤ 12) => Distance x y X Y cX cY W hX hY (by omega) (by omega))
  have HM := Lib.hid (fun W (h : Below w0.heap.size w0 W) (s : ∀ t ∈ l, t.size ≤ 12) => Matrix l (some ⟨bb, oo, none⟩) cB W (HB.out W h) (fun t ht => by have := s t ht; omega) (by omega))
  have HN := Lib.hid (fun W (h : Below w0.heap.size w0 W) (s : a.size ≤ 12) (s2 : ∀ t ∈ l, t.size ≤ 12) => Nearest a l A (some ⟨bb, oo, none⟩) cA cB W (HA.out W h) (HB.out W h) (by omega) (fun t ht => by have := s2 t ht; omega) (by omega))
  have hl5' : ¬ (5 : Int) < l.length := by omega
  unfold Nd.val at HF1 HF2 HD HN ⊢
  go_enter Try.func8, Try.ntmps8
  go_wp2_with fail
  refine (awake w0).mono ?_
  rintro e w1 ⟨rfl, hb⟩
  have H1 := Lib.hid hb
  obtain ⟨a0, a1, a2, a3, a4⟩ := HCE.out _ H1.out
  clear hb hw1
  go_wp2_with fail
  refine (HF1.out w1 H1.out).mono ?_
  rintro e w2 ⟨rfl, hb⟩
  clear a0 a1 a2 a3 a4
  have H2 := Lib.hid (trans_b H1.out hb)
  clear hb HF1
  cases hq : FewB a 12 && FewB a 12 with
  | false =>
    clear hq
    go_wp2_with fail
    go_ret
    exact ⟨rfl, HT.out _ H2.out⟩
  | true =>
    have HQ := Lib.hid hq
    clear hq
    have sa : a.size ≤ 12 := by have := HQ.out; simp only [Bool.and_eq_true] at this; have := FewB_size this.1; omega
    have HSA := Lib.hid sa
    clear sa
    go_wp2_with fail
    go_loopw [35] (fun c wr => ∃ k : Nat, c = .int .i64 k ∧ k ≤ l.length ∧ Hid (Below w0.heap.size w0 wr) ∧ Hid (∀ i (hi : i < l.length), i < k → l[i].size ≤ 12)) (fun c _ => l.length - (intOf c).toNat)
    case atStart => exact ⟨0, rfl, by omega, H2, Lib.hid (fun i hi h => by omega)⟩
    case round =>
      obtain ⟨k, rfl, hk, HW, HZ⟩ := hrel
      by_cases hlt : k < l.length
      · have hr := HR.out wr HW.out k hlt
        have hs := HS.out wr HW.out k hlt
        obtain ⟨x, hx⟩ : ∃ x, l[k] = x := ⟨_, rfl⟩
        rw [hx] at hr hs
        have HX := Lib.hid hx
        have HSX := Lib.hid hs
        obtain ⟨r0, r1, r2, r3, r4⟩ := hr
        clear hx hs
        go_wp2_with fail
        refine (HF2.out _ (HW.out.alloc HW.out.size _) x (As k) (cs k) (HSX.out.keep ((Below.refl _ _).alloc (Nat.le_refl _) _))).mono ?_
        rintro e w3 ⟨rfl, hb⟩
        have H3 := Lib.hid (trans_b (HW.out.alloc HW.out.size _) hb)
        clear hb r0 r1 r2 r3 r4
        cases hq : FewB x 12 && FewB x 12 with
        | false =>
          clear hq
          go_wp2_with fail
          go_ret
          exact ⟨rfl, HT.out _ H3.out⟩
        | true =>
          have HQX := Lib.hid hq
          clear hq
          go_wp2_with fail
          go_roundw
          case rel =>
            refine ⟨k + 1, by go_num, by omega, H3, Lib.hid (fun i hi h => ?_)⟩
            by_cases hik : i < k
            · exact HZ.out i hi hik
            · obtain rfl : i = k := by omega
              rw [HX.out]
              have := HQX.out; simp only [Bool.and_eq_true] at this; have := FewB_size this.1; omega
          case measure => simp [intOf]; omega
      · obtain rfl : k = l.length := by omega
        have hz : ∀ t ∈ l, t.size ≤ 12 := fun t ht => by
          obtain ⟨i, hi, rfl⟩ := List.mem_iff_getElem.1 ht
          exact HZ.out i hi hi
        have HZ2 := Lib.hid hz
        have HM2 := Lib.hid (fun W h => HM.out W h hz)
        have hnn : nearR a l = .tuple #[.int .i64 (nearF a l 0 (0, -1)).1, .int .i64 (nearF a l 0 (0, -1)).2, .int .i64 0] := by
          unfold nearR
          rw [if_neg, if_neg]
          · rfl
          · intro h; rw [h] at hpos; simp at hpos
          · simp [bigAny]
            exact ⟨by have := HSA.out; omega, fun x hx => by have := hz x hx; omega⟩
        have hbig : bigAny l = false := by
          simp [bigAny]
          exact fun x hx => by have := hz x hx; omega
        have HBIG := Lib.hid hbig
        have HN2 := Lib.hid (fun W h => HN.out W h HSA.out hz)
        rw [hnn] at HN2
        obtain ⟨NR, hNR⟩ : ∃ NR, nearF a l 0 (0, -1) = NR := ⟨_, rfl⟩
        rw [hNR] at HN2
        have HNR := Lib.hid hNR
        clear hz hnn hbig hNR HM HN
        have hpos' : (0 : Int) < l.length := by omega
        have hlb : (((l.length : Nat) : Int) == 0) = false := by rw [beq_eq_false_iff_ne]; omega
        go_wp2_with fail
        refine (HM2.out _ HW.out).mono ?_
        rintro e w3 ⟨hr, hb⟩
        obtain ⟨_, g, bs, rfl, hT⟩ := hr.resolve_left (fun h => by rw [HBIG.out] at h; cases h.1)
        have HTM := Lib.hid hT
        have H3 := Lib.hid (trans_b HW.out hb)
        obtain ⟨a0, a1, a2, a3, a4⟩ := HCE.out _ H3.out
        clear hb hr hT
        go_wp2_with fail
        refine (HN2.out _ H3.out).mono ?_
        rintro e w4 ⟨rfl, hb⟩
        have HTM4 := Lib.hid (show ∀ W, Below w4.heap.size w4 W → Tab W wr.heap.size g bs l.length l.length (mx l) from fun W h => HTM.out.keep (S := fun _ => False) (Keeps.of_below (trans_b hb h)) id (fun _ _ => id))
        have H4 := Lib.hid (trans_b H3.out hb)
        clear hb a0 a1 a2 a3 a4
        have HGO := Lib.hid (show ∀ W, Below w4.heap.size w4 W → Below w0.heap.size w0 W from fun W h => trans_b H4.out h)
        go_wp2_with fail
        go_loopw [12, 13, 96] (fun y x s wr => ∃ k : Nat, s = .int .i64 k ∧ k ≤ l.length ∧ x = .int .i64 (nearF a (l.take k) 0 (0, -1)).1 ∧ y = .int .i64 (nearF a (l.take k) 0 (0, -1)).2 ∧ -1 ≤ (nearF a (l.take k) 0 (0, -1)).2 ∧ Hid (Below w4.heap.size w4 wr)) (fun _ _ s _ => l.length - (intOf s).toNat)
        case atStart => exact ⟨0, rfl, Nat.zero_le _, rfl, rfl, by simp [nearF], Lib.hid (Below.refl _ _)⟩
        case round =>
          obtain ⟨k, rfl, hk, rfl, rfl, hge, HWR⟩ := hrel
          obtain ⟨wo, rfl⟩ : ∃ wo : World, wo = wr := ⟨_, rfl⟩
          by_cases hkl : k < l.length
          · have hr := HR.out wo (HGO.out _ HWR.out) k hkl
            have hs := HS.out wo (HGO.out _ HWR.out) k hkl
            have hnt := nearF_take a l k hkl (0, -1)
            have hsz := HZ2.out _ (List.getElem_mem hkl)
            have HMX := Lib.hid (mx_td l k · hkl)
            obtain ⟨x, hx⟩ : ∃ x, l[k] = x := ⟨_, rfl⟩
            rw [hx] at hr hs hnt hsz
            have HX := Lib.hid hx
            have HSX := Lib.hid (show ∀ W, Below w0.heap.size w0 W → RN W x (As k) (cs k) from fun W h => by rw [← hx]; exact HS.out W h k hkl)
            have HNT := Lib.hid hnt
            obtain ⟨N, hN⟩ : ∃ N, nearF a (l.take k) 0 (0, -1) = N := ⟨_, rfl⟩
            rw [hN] at HNT hge ⊢
            obtain ⟨w5, hw5⟩ : ∃ w5, wo.alloc (.cells #[.int .i64 x.kind, .string x.text, .int .i64 x.pos, .int .i64 x.fin, .slice (As k) x.kids.length (cs k)] 24) = w5 := ⟨_, rfl⟩
            obtain ⟨hx5, hb5⟩ := heap1' wo x (As k) (cs k) w5 hw5
            have HB5 := Lib.hid (trans_b HWR.out hb5)
            have HX5 := Lib.hid (show ∀ W, Below w5.heap.size w5 W → At5 W wo.heap.size 0 x (As k) (cs k) from fun W h => hx5.below h)
            have hrow := (HTM4.out _ HB5.out).outer k hkl
            obtain ⟨r0, r1, r2, r3, r4⟩ := hr
            have HLL := Lib.hid (show (((l.length : Nat) : Int) != (l.length : Nat)) = false by simp)
            clear hx hs hnt hN hx5 hb5 hsz
            have hll := HLL.out
            go_wp2_with fail
            clear hw5 r0 r1 r2 r3 r4 hrow hll
            go_loopw [111] (fun c W => ∃ j : Nat, c = .int .i64 j ∧ j ≤ l.length ∧ Hid (Below w5.heap.size w5 W)) (fun c _ => l.length - (intOf c).toNat)
            case atStart => exact ⟨0, rfl, Nat.zero_le _, Lib.hid (Below.refl _ _)⟩
            case round =>
              obtain ⟨V, rfl⟩ : ∃ V : World, V = wr := ⟨_, rfl⟩
              obtain ⟨j, rfl, hj, HV⟩ := hrel
              have HV4 := Lib.hid (trans_b HB5.out HV.out)
              by_cases hjl : j < l.length
              · have hr := HR.out V (HGO.out _ HV4.out) j hjl
                have hs := HS.out V (HGO.out _ HV4.out) j hjl
                have hsz := HZ2.out _ (List.getElem_mem hjl)
                have hmx := HMX.out j hjl
                rw [HX.out] at hmx
                obtain ⟨y, hy⟩ : ∃ y, l[j] = y := ⟨_, rfl⟩
                rw [hy] at hr hs hsz hmx
                have hszx : x.size ≤ 12 := by rw [← HX.out]; exact HZ2.out _ (List.getElem_mem hkl)
                obtain ⟨r0, r1, r2, r3, r4⟩ := hr
                have HAL := Lib.hid ((Below.refl V.heap.size V).alloc (Nat.le_refl _) (.cells #[.int .i64 y.kind, .string y.text, .int .i64 y.pos, .int .i64 y.fin, .slice (As j) y.kids.length (cs j)] 24))
                have hxv' := (HX5.out V HV.out).keep HAL.out ((HX5.out V HV.out).lt)
                obtain ⟨z0, z1, z2, z3, z4⟩ := hxv'
                have HSY := Lib.hid hs
                have hd1 := HD.out _ x y (As k) (As j) (cs k) (cs j) (HSX.out _ (HGO.out _ (trans_b HV4.out HAL.out))) (RN.keep HAL.out HSY.out) hszx hsz
                rw [dV_small (by omega) (by omega), dC_small (by omega) (by omega)] at hd1
                obtain ⟨d, hd⟩ : ∃ d, td x y = d := ⟨_, rfl⟩
                rw [hd] at hd1 hmx
                have HD1 := Lib.hid hd1
                have HMXX := Lib.hid hmx
                clear hs hy hmx hd1 hd
                go_wp2_with fail
                refine HD1.out.mono ?_
                rintro e w6 ⟨rfl, hb⟩
                have H6 := Lib.hid (trans_b HV4.out (trans_b HAL.out hb))
                have c1 := (HTM4.out _ H6.out).outer k hkl
                have c2 := (HTM4.out _ H6.out).inner k j hkl hjl
                rw [HMXX.out] at c2
                have H65 := Lib.hid (trans_b HV.out (trans_b HAL.out hb))
                clear hb r0 r1 r2 r3 r4 z0 z1 z2 z3 z4 HD1
                go_wp2_with fail
                go_roundw
                case rel => exact ⟨j + 1, by go_num, by omega, H65⟩
                case measure => simp [intOf]; omega
              · obtain rfl : j = l.length := by omega
                have hxv := HX5.out V HV.out
                obtain ⟨x0, x1, x2, x3, x4⟩ := hxv
                have ha0 := HCE.out V (HGO.out _ HV4.out)
                obtain ⟨a0, a1, a2, a3, a4⟩ := ha0
                have hszx : x.size ≤ 12 := by rw [← HX.out]; exact HZ2.out _ (List.getElem_mem hkl)
                have hsa := HSA.out
                have hd1 := HD.out V a x A (As k) cA (cs k) (HA.out _ (HGO.out _ HV4.out)) (HSX.out _ (HGO.out _ HV4.out)) hsa hszx
                rw [dV_small (by omega) (by omega), dC_small (by omega) (by omega)] at hd1
                obtain ⟨d, hd⟩ : ∃ d, td a x = d := ⟨_, rfl⟩
                rw [hd] at hd1
                have HNT2 := Lib.hid HNT.out
                rw [hd] at HNT2
                have HD1 := Lib.hid hd1
                clear hd1 hd hsa
                go_wp2_with fail
                refine HD1.out.mono ?_
                rintro e w6 ⟨rfl, hb⟩
                have H6 := Lib.hid (trans_b HV4.out hb)
                clear hb x0 x1 x2 x3 x4 a0 a1 a2 a3 a4 HD1
                by_cases c1 : N.2 < 0
                · go_wp2_with fail
                  go_roundw
                  case rel =>
                    have e := HNT2.out
                    rw [if_pos (.inl c1)] at e
                    exact ⟨k + 1, by go_num, by omega, by rw [e], by rw [e], by rw [e]; show (-1 : Int) ≤ (d : Nat); omega, H6⟩
                  case measure => simp [intOf]; omega
                · by_cases c2 : (d : Int) < N.2
                  · go_wp2_with fail
                    go_roundw
                    case rel =>
                      have e := HNT2.out
                      rw [if_pos (.inr c2)] at e
                      exact ⟨k + 1, by go_num, by omega, by rw [e], by rw [e], by rw [e]; show (-1 : Int) ≤ (d : Nat); omega, H6⟩
                    case measure => simp [intOf]; omega
                  · go_wp2_with fail
                    go_roundw
                    case rel =>
                      have e := HNT2.out
                      rw [if_neg (by omega)] at e
                      exact ⟨k + 1, by go_num, by omega, by rw [e], by rw [e], by rw [e]; exact hge, H6⟩
                    case measure => simp [intOf]; omega
          · obtain rfl : k = l.length := by omega
            rw [List.take_length] at hge ⊢
            rw [HNR.out] at hge ⊢
            go_wp2_with fail
            go_ret
            exact ⟨by simp, HT.out _ (HGO.out _ HWR.out)⟩
end Go.Proofs.Ytjijfgkmjachnaa

namespace Go.Proofs.Ytjijfgkmjachnaa
set_option linter.unusedVariables false
set_option linter.unusedSimpArgs false
open Go.RowKit

set_option maxRecDepth 100000 in
set_option maxHeartbeats 4000000 in
theorem lawLists2 (a : Nd) (n : Nat) (A B : Option Addr) (cA cB : Nat) (w : World) (hn : 5 < n) :
    Calls Try.prog 8 #[a.val A cA, .slice B n cB] w fun e w' => e = .returned (.bool true) ∧ Below w.heap.size w w' := by
  have hn' : (5 : Int) < n := by omega
  have HB := Lib.hid ((Below.refl w.heap.size w).alloc (Nat.le_refl _) (.cells #[.int .i64 a.kind, .string a.text, .int .i64 a.pos, .int .i64 a.fin, .slice A a.kids.length cA] 24))
  unfold Nd.val
  go_enter Try.func8, Try.ntmps8
  go_wp2_with fail
  refine (awake _).mono ?_
  rintro e w1 ⟨rfl, hb⟩
  have H1 := Lib.hid (trans_b HB.out hb)
  clear hb
  go_wp2_with fail
  go_ret
  exact ⟨rfl, H1.out⟩
theorem lawLists (a : Nd) (l : List Nd) (A B : Option Addr) (cA cB : Nat) (w : World) (hA : RN w a A cA) (hB : RN w (asN l) B cB) :
    Calls Try.prog 8 #[a.val A cA, .slice B l.length cB] w fun e w' => e = .returned (.bool true) ∧ Below w.heap.size w w' := by
  by_cases h5 : 5 < l.length
  · exact lawLists2 a _ A B cA cB w h5
  by_cases h0 : l = []
  · subst h0
    exact lawLists0 a A B cA cB w hA
  · have h2 := hB
    rcases hB with ⟨_, b, o, _, As, cs, hc, hm, hcell, hsub⟩ | ⟨_, _, _, h⟩
    · exact lawLists1 a l A b o cA cB w hA h2 h0 (by omega)
    · exact absurd h h0
end Go.Proofs.Ytjijfgkmjachnaa
