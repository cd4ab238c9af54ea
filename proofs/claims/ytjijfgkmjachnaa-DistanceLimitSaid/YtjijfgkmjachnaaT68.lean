/- The law DistanceLimit, walked. -/
import Derived.Test.YtjijfgkmjachnaaT67
import Derived.Test.YtjijfgkmjachnaaC9
import Derived.Test.YtjijfgkmjachnaaC13
import Derived.Deep.RegionHeld3
import Derived.Deep.DrawnRows
namespace Go.Proofs.Ytjijfgkmjachnaa
set_option linter.unusedVariables false
set_option linter.unusedSimpArgs false
open Go.RowKit
attribute [local go_sem ↓] Go.wp_at_zero Go.wp_at_succ

theorem wide_lab (n : Nat) : LabW (wideN n) := by
  refine OkN.lab (.mk _ (by show (Lit.int .i64 11).wf = true; decide) (by show (0 : Nat) ≤ maxLen; unfold maxLen; omega) fun k hk => ?_)
  obtain rfl : k = nmA := by
    have : k ∈ List.replicate (n - 1) nmA := hk
    exact (List.mem_replicate.1 this).2
  exact .mk _ (by show (Lit.int .i64 20).wf = true; decide) (by show (1 : Nat) ≤ maxLen; unfold maxLen; omega) (fun k hk => by cases hk)
theorem near_one (x y : Nd) : ∃ k n : Int, nearR x [y] = .tuple #[.int .i64 k, .int .i64 n, .int .i64 (if bigAny [x, y] then 8 else 0)] := by
  unfold nearR
  have e : (bigAny [x] || bigAny [y]) = bigAny [x, y] := by simp [bigAny]
  rw [e]
  cases bigAny [x, y] with
  | true => exact ⟨0, 0, rfl⟩
  | false => exact ⟨_, _, by rw [if_neg (by simp), if_neg (by simp)]; rfl⟩

theorem setB {B : Nat} {w0 U : World} {b j : Nat} {v : Value} (h : Below B w0 U) (hb : B ≤ b) : Below B w0 (U.setCell ⟨b, j, none⟩ v) := h.setCell (p := ⟨b, j, none⟩) hb v
theorem VarN.five {U : World} {p : Nat} (h : VarN U p) : ((∃ u, U.cell? ⟨p, 0, none⟩ = some u) ∧ (∃ u, U.cell? ⟨p, 1, none⟩ = some u) ∧ (∃ u, U.cell? ⟨p, 2, none⟩ = some u) ∧ (∃ u, U.cell? ⟨p, 3, none⟩ = some u) ∧ (∃ u, U.cell? ⟨p, 4, none⟩ = some u)) ∧ ∀ j, U.frozen? ⟨p, j, none⟩ = false :=
  ⟨⟨h.1 0 (by omega), h.1 1 (by omega), h.1 2 (by omega), h.1 3 (by omega), h.1 4 (by omega)⟩, h.2⟩

set_option maxRecDepth 100000 in
set_option maxHeartbeats 4000000 in
theorem lawLimit (a : Nd) (A : Option Addr) (cA : Nat) (m : Int) (hm0 : -128 ≤ m) (hm1 : m ≤ 127) (first : Bool) (w : World) (hA : RN w a A cA) (la : LabW a) :
    Calls Try.prog 9 #[a.val A cA, .int .i8 m, .bool first] w fun e w' => e = .returned (.bool true) ∧ Below w.heap.size w w' := by
  obtain ⟨w0, hw0⟩ : ∃ w0, w.alloc (.cells (cells5 a A cA).toArray 24) = w0 := ⟨_, rfl⟩
  obtain ⟨pa, hb0⟩ := heap1' w a A cA w0 hw0
  have HCE := Lib.hid (show ∀ W, Below w0.heap.size w0 W → At5 W w.heap.size 0 a A cA from fun W h => pa.below h)
  have HT := Lib.hid (show ∀ W, Below w0.heap.size w0 W → Below w.heap.size w W from fun W h => hb0.trans (h.mono hb0.size))
  have HA := Lib.hid (show ∀ W, Below w0.heap.size w0 W → RN W a A cA from fun W h => RN.keep h (RN.keep hb0 hA))
  have hw1 : w.alloc (.cells #[.int .i64 a.kind, .string a.text, .int .i64 a.pos, .int .i64 a.fin, .slice A a.kids.length cA] 24) = w0 := hw0
  clear hw0 pa hb0 hA
  have HF1 := Lib.hid (fun W (h : Below w0.heap.size w0 W) => lawfew a a 6 A A cA cA W (HA.out W h) (HA.out W h) (by omega) (by omega))
  obtain ⟨N, hN⟩ : ∃ N : Nat, 256 + m.tdiv 16 = (N : Int) := Int.eq_ofNat_of_zero_le (by
    have := Int.tdiv_le_tdiv (a := -128) (b := m) (c := 16) (by omega) hm0
    have h2 : (-128 : Int).tdiv 16 = -8 := by decide
    omega)
  have hNb : 248 ≤ N ∧ N ≤ 263 := by
    have h1 := Int.tdiv_le_tdiv (a := -128) (b := m) (c := 16) (by omega) hm0
    have h2 : (-128 : Int).tdiv 16 = -8 := by decide
    have h3 := Int.tdiv_le_tdiv (a := m) (b := 127) (c := 16) (by omega) hm1
    have h4 : (127 : Int).tdiv 16 = 7 := by decide
    omega
  have HN := Lib.hid hN
  have hq1 : -8 ≤ m.tdiv 16 := by omega
  have hq2 : m.tdiv 16 ≤ 7 := by omega
  clear hN
  unfold Nd.val at HF1 ⊢
  go_enter Try.func9, Try.ntmps9
  go_wp2_with fail
  refine (awake w0).mono ?_
  rintro e w1 ⟨rfl, hb⟩
  have H1 := Lib.hid hb
  obtain ⟨a0, a1, a2, a3, a4⟩ := HCE.out _ H1.out
  clear hb hw1
  go_wp2_with fail
  refine (HF1.out w1 H1.out).mono ?_
  rintro e w2 ⟨rfl, hb⟩
  clear a0 a1 a2 a3 a4
  have H2 := Lib.hid (trans_b H1.out hb)
  clear hb HF1
  cases hq : FewB a 6 && FewB a 6 with
  | false =>
    clear hq
    go_wp2_with fail
    go_ret
    exact ⟨rfl, HT.out _ H2.out⟩
  | true =>
    have HQ := Lib.hid hq
    clear hq
    have sa : a.size ≤ 6 := by have := HQ.out; simp only [Bool.and_eq_true] at this; have := FewB_size this.1; omega
    go_wp2_with fail
    rw [HN.out]
    refine region9 N (by omega) (by omega) a A cA w0 w.heap.size (HCE.out _ (Below.refl _ _)) _ (by rfl) (by rfl) (by rfl) _ _ H2.out ?_
    intro L f W hall hI
    simp only [ds9, setAll, List.setIfInBounds_toArray, List.set_cons_zero, List.set_cons_succ, Nat.zero_add, Nat.reduceAdd]
    obtain ⟨p, ep, hp0, hpl, hvp⟩ := hI.x3 (hall 3 (by omega))
    obtain ⟨q, eq, hq0, hql, hvq⟩ := hI.x4 (hall 4 (by omega))
    obtain ⟨X, cX, e1, hV⟩ := hI.r1 (hall 1 (by omega))
    have hx := hV W (fun _ _ _ _ => rfl)
    have hxp := (hI.s5 (hall 5 (by omega))).2.2 p X cX ep e1
    have hyq := (hI.s6 (hall 6 (by omega))).2 q eq
    have hpq : p ≠ q := fun h => hI.ne (hall 3 (by omega)) (hall 4 (by omega)) (by rw [ep, eq, h])
    have HW := Lib.hid hI.bel
    have HVP := Lib.hid (And.intro hvp hvq)
    have HPQ := Lib.hid (And.intro hpq (And.intro hp0 (And.intro hq0 (And.intro hpl hql))))
    have HNS := Lib.hid (wide_size N (by omega))
    have HNL := Lib.hid (wide_lab N)
    have HNB := Lib.hid hNb
    have HSA := Lib.hid sa
    have HLA := Lib.hid la
    obtain ⟨T, hTT⟩ : ∃ T, wideN N = T := ⟨_, rfl⟩
    rw [hTT] at hx hxp HNS HNL
    have HTT := Lib.hid hTT
    have HWI := Lib.hid (fun W => wide N (by omega) (by omega) W)
    have hXW := Lib.hid (And.intro hx (And.intro hxp hyq))
    rw [ep, eq]
    unfold ptr
    clear hI hV e1 ep eq hx hxp hyq hpq hvp hvq hTT hp0 hq0 hpl hql la sa
    cases first with
    | false =>
      obtain ⟨V, hVV⟩ : ∃ V, W = V := ⟨_, rfl⟩
      obtain ⟨hx, hxp, hyq⟩ := hXW.out
      have hy := HA.out W HW.out
      rw [hVV] at hx hxp hyq hy HW ⊢
      have HV := Lib.hid HW.out
      clear HW hXW HVP
      have HXY := Lib.hid (show ∀ U, Below V.heap.size V U → At5 U p 0 T X cX ∧ At5 U q 0 a A cA ∧ RN U T X cX ∧ RN U a A cA from fun U h => ⟨hxp.below h, hyq.below h, RN.keep h hx, RN.keep h hy⟩)
      have hnb := HNB.out
      have hsa := HSA.out
      have hns := HNS.out
      have HBG := Lib.hid (show bigAny [T, a] = decide (256 < N) by simp [bigAny, hns]; omega)
      have HBM := Lib.hid (show bigAny [a, T] = decide (256 < N) by simp [bigAny, hns]; omega)
      have HD := Lib.hid (fun U (h : Below V.heap.size V U) => Distance T a X A cX cA U (HXY.out U h).2.2.1 (HXY.out U h).2.2.2 (by omega) (by omega))
      have HWT := Lib.hid (fun U (h : Below V.heap.size V U) => Within T a X A cX cA 500 U (HXY.out U h).2.2.1 (HXY.out U h).2.2.2 (by omega) (by omega))
      have HSU := Lib.hid (fun U (h : Below V.heap.size V U) => Subtrees T a X A cX cA U (HXY.out U h).2.2.1 (HXY.out U h).2.2.2 (by omega) (by omega))
      have HMA := Lib.hid (fun U (h : Below V.heap.size V U) (g : Nat) (hg : U.heap[g]? = some (.cells (cells5 a A cA ++ cells5 T X cX).toArray 24 (0, 0))) => Matrix [a, T] (some ⟨g, 0, none⟩) 2 U (RN.two (HA.out U (trans_b HV.out h)) (HXY.out U h).2.2.1 hg) (by simp; omega) (by simp))
      have HNE := Lib.hid (fun U (h : Below V.heap.size V U) (g : Nat) (hg : U.heap[g]? = some (.cells (cells5 a A cA).toArray 24 (0, 0))) => Nearest T [a] X (some ⟨g, 0, none⟩) cX 1 U (HXY.out U h).2.2.1 (RN.one (HXY.out U h).2.2.2 hg) (by omega) (by simp; omega) (by simp))
      have HBO := Lib.hid (fun U (h : Below V.heap.size V U) => Bound T a X A cX cA U (HXY.out U h).2.2.1 (HXY.out U h).2.2.2 (by omega) (by omega) HNL.out HLA.out)
      have hbd := bound_ge T a
      obtain ⟨lo, hlo⟩ : ∃ lo, boundV T a = lo := ⟨_, rfl⟩
      rw [hlo] at HBO hbd
      have hlo2 : (N : Int) - 6 ≤ lo := by omega
      obtain ⟨n1, n2, hn12⟩ := near_one T a
      rw [HBG.out] at hn12
      rw [hn12] at HNE
      obtain ⟨dv, hdv⟩ : ∃ dv, dV T a = dv := ⟨_, rfl⟩
      have hdc : dC T a = if decide (256 < N) = true then 8 else 0 := by unfold dC; rw [HBG.out]
      rw [hdv, hdc] at HD HWT
      have HV0 := Lib.hid (Below.refl V.heap.size V)
      unfold Nd.val at HD HWT HSU HNE HBO
      clear hxp hyq hx hy hbd hlo hn12 hdv hdc hnb hsa hns hVV
      obtain ⟨⟨x0, x1, x2, x3, x4⟩, ⟨y0, y1, y2, y3, y4⟩, _, _⟩ := HXY.out V HV0.out
      by_cases hbig : 256 < N
      · have hbi : decide (256 < N) = true := by simp [hbig]
        rw [hbi] at HD HWT HNE HBG HBM
        simp only [if_true, Bool.false_eq_true, if_false] at HD HWT HNE
        have hN1 : (256 : Int) < N := by omega
        clear hbi
        go_wp2_with fail
        refine (HD.out V HV0.out).mono ?_
        rintro e w5 ⟨rfl, hb⟩
        clear x0 x1 x2 x3 x4 y0 y1 y2 y3 y4
        have H5 := Lib.hid hb
        obtain ⟨⟨x0, x1, x2, x3, x4⟩, ⟨y0, y1, y2, y3, y4⟩, _, _⟩ := HXY.out _ H5.out
        clear hb
        go_wp2_with fail
        refine (HWT.out w5 H5.out).mono ?_
        rintro e w6 ⟨rfl, hb⟩
        clear x0 x1 x2 x3 x4 y0 y1 y2 y3 y4
        have H6 := Lib.hid (trans_b H5.out hb)
        obtain ⟨⟨x0, x1, x2, x3, x4⟩, ⟨y0, y1, y2, y3, y4⟩, _, _⟩ := HXY.out _ H6.out
        clear hb
        go_wp2_with fail
        refine (HSU.out w6 H6.out).mono ?_
        rintro e w7 ⟨hr, hb⟩
        clear x0 x1 x2 x3 x4 y0 y1 y2 y3 y4
        have H7 := Lib.hid (trans_b H6.out hb)
        obtain ⟨⟨x0, x1, x2, x3, x4⟩, ⟨y0, y1, y2, y3, y4⟩, _, _⟩ := HXY.out _ H7.out
        obtain ⟨a0, a1, a2, a3, a4⟩ := HCE.out _ (trans_b HV.out H7.out)
        obtain ⟨sv, rfl⟩ : ∃ sv, e = .returned (.tuple #[sv, .int .i64 8]) := by
          rcases hr with ⟨h, rfl⟩ | ⟨h, _, _, _, rfl, _⟩
          · exact ⟨_, rfl⟩
          · rw [HBG.out] at h; cases h
        clear hb hr
        go_wp2_with fail
        refine (HMA.out _ (H7.out.alloc H7.out.size _) w7.heap.size ?_).mono ?_
        · have := heap_alloc_new w7 (.cells (cells5 a A cA ++ cells5 T X cX).toArray 24)
          simpa [cells5] using this
        rintro e w8 ⟨hr, hb⟩
        clear x0 x1 x2 x3 x4 y0 y1 y2 y3 y4 a0 a1 a2 a3 a4
        have H8 := Lib.hid (trans_b (H7.out.alloc H7.out.size _) hb)
        obtain ⟨⟨x0, x1, x2, x3, x4⟩, ⟨y0, y1, y2, y3, y4⟩, _, _⟩ := HXY.out _ H8.out
        obtain ⟨mv, rfl⟩ : ∃ (mv : Value), e = .returned (.tuple #[mv, .int .i64 8]) := by
          rcases hr with ⟨h, rfl⟩ | ⟨h, _, _, rfl, _⟩
          · exact ⟨_, rfl⟩
          · rw [HBM.out] at h; cases h
        clear hb hr
        go_wp2_with fail
        refine (HNE.out _ (H8.out.alloc H8.out.size _) w8.heap.size ?_).mono ?_
        · have := heap_alloc_new w8 (.cells (cells5 a A cA).toArray 24)
          simpa [cells5] using this
        rintro e w9 ⟨rfl, hb⟩
        clear x0 x1 x2 x3 x4 y0 y1 y2 y3 y4
        have H9 := Lib.hid (trans_b (H8.out.alloc H8.out.size _) hb)
        clear hb
        go_wp2_with fail
        refine (HWI.out w9).mono ?_
        rintro e w10 ⟨⟨A9, c9, rfl, hr9⟩, hb⟩
        rw [HTT.out] at hr9 ⊢
        have H10 := Lib.hid (trans_b H9.out hb)
        have hN9 := Nearest T [] A9 none c9 0 w10 hr9.rn (.nil _ _ _ rfl) (by rw [HNS.out]; omega) (by simp) (by simp)
        have hnn : nearR T [] = .tuple #[.int .i64 0, .int .i64 0, .int .i64 8] := by
          rw [near_nil]
          have : bigAny [T] = true := by have := HNS.out; simp [bigAny]; omega
          rw [this]
          rfl
        rw [hnn] at hN9
        unfold Nd.val at hN9 ⊢
        have HN9 := Lib.hid hN9
        clear hb hr9 hN9 hnn
        go_wp2_with fail
        refine HN9.out.mono ?_
        rintro e w11 ⟨rfl, hb⟩
        have H11 := Lib.hid (trans_b H10.out hb)
        obtain ⟨⟨x0, x1, x2, x3, x4⟩, ⟨y0, y1, y2, y3, y4⟩, _, _⟩ := HXY.out _ H11.out
        clear hb
        go_wp2_with fail
        refine (HBO.out w11 H11.out).mono ?_
        rintro e w12 ⟨rfl, hb⟩
        have H12 := Lib.hid (trans_b HV.out (trans_b H11.out hb))
        clear hb
        go_wp2_with fail
        go_ret
        exact ⟨by simp [hlo2], HT.out _ H12.out⟩
      · have hbi : decide (256 < N) = false := by simp [hbig]
        rw [hbi] at HD HWT HNE HBG HBM
        simp only [if_true, Bool.false_eq_true, if_false] at HD HWT HNE
        have hN1 : ¬ (256 : Int) < N := by omega
        have hN3 : (N : Int) ≤ 256 := by omega
        clear hbi
        go_wp2_with fail
        refine (HD.out V HV0.out).mono ?_
        rintro e w5 ⟨rfl, hb⟩
        clear x0 x1 x2 x3 x4 y0 y1 y2 y3 y4
        have H5 := Lib.hid hb
        obtain ⟨⟨x0, x1, x2, x3, x4⟩, ⟨y0, y1, y2, y3, y4⟩, _, _⟩ := HXY.out _ H5.out
        clear hb
        go_wp2_with fail
        refine (HWT.out w5 H5.out).mono ?_
        rintro e w6 ⟨rfl, hb⟩
        clear x0 x1 x2 x3 x4 y0 y1 y2 y3 y4
        have H6 := Lib.hid (trans_b H5.out hb)
        obtain ⟨⟨x0, x1, x2, x3, x4⟩, ⟨y0, y1, y2, y3, y4⟩, _, _⟩ := HXY.out _ H6.out
        clear hb
        go_wp2_with fail
        refine (HSU.out w6 H6.out).mono ?_
        rintro e w7 ⟨hr, hb⟩
        clear x0 x1 x2 x3 x4 y0 y1 y2 y3 y4
        have H7 := Lib.hid (trans_b H6.out hb)
        obtain ⟨⟨x0, x1, x2, x3, x4⟩, ⟨y0, y1, y2, y3, y4⟩, _, _⟩ := HXY.out _ H7.out
        obtain ⟨a0, a1, a2, a3, a4⟩ := HCE.out _ (trans_b HV.out H7.out)
        obtain ⟨sv, rfl⟩ : ∃ sv, e = .returned (.tuple #[sv, .int .i64 0]) := by
          rcases hr with ⟨h, rfl⟩ | ⟨h, _, _, _, rfl, _⟩
          · rw [HBG.out] at h; cases h
          · exact ⟨_, rfl⟩
        clear hb hr
        go_wp2_with fail
        refine (HMA.out _ (H7.out.alloc H7.out.size _) w7.heap.size ?_).mono ?_
        · have := heap_alloc_new w7 (.cells (cells5 a A cA ++ cells5 T X cX).toArray 24)
          simpa [cells5] using this
        rintro e w8 ⟨hr, hb⟩
        clear x0 x1 x2 x3 x4 y0 y1 y2 y3 y4 a0 a1 a2 a3 a4
        have H8 := Lib.hid (trans_b (H7.out.alloc H7.out.size _) hb)
        obtain ⟨⟨x0, x1, x2, x3, x4⟩, ⟨y0, y1, y2, y3, y4⟩, _, _⟩ := HXY.out _ H8.out
        obtain ⟨mv, rfl⟩ : ∃ (mv : Value), e = .returned (.tuple #[mv, .int .i64 0]) := by
          rcases hr with ⟨h, rfl⟩ | ⟨h, _, _, rfl, _⟩
          · rw [HBM.out] at h; cases h
          · exact ⟨_, rfl⟩
        clear hb hr
        go_wp2_with fail
        refine (HNE.out _ (H8.out.alloc H8.out.size _) w8.heap.size ?_).mono ?_
        · have := heap_alloc_new w8 (.cells (cells5 a A cA).toArray 24)
          simpa [cells5] using this
        rintro e w9 ⟨rfl, hb⟩
        clear x0 x1 x2 x3 x4 y0 y1 y2 y3 y4
        have H9 := Lib.hid (trans_b (H8.out.alloc H8.out.size _) hb)
        clear hb
        go_wp2_with fail
        refine (HWI.out w9).mono ?_
        rintro e w10 ⟨⟨A9, c9, rfl, hr9⟩, hb⟩
        rw [HTT.out] at hr9 ⊢
        have H10 := Lib.hid (trans_b H9.out hb)
        have hN9 := Nearest T [] A9 none c9 0 w10 hr9.rn (.nil _ _ _ rfl) (by rw [HNS.out]; omega) (by simp) (by simp)
        have hnn : nearR T [] = .tuple #[.int .i64 0, .int .i64 0, .int .i64 7] := by
          rw [near_nil]
          have : bigAny [T] = false := by have := HNS.out; simp [bigAny]; omega
          rw [this]
          rfl
        rw [hnn] at hN9
        unfold Nd.val at hN9 ⊢
        have HN9 := Lib.hid hN9
        clear hb hr9 hN9 hnn
        go_wp2_with fail
        refine HN9.out.mono ?_
        rintro e w11 ⟨rfl, hb⟩
        have H11 := Lib.hid (trans_b H10.out hb)
        obtain ⟨⟨x0, x1, x2, x3, x4⟩, ⟨y0, y1, y2, y3, y4⟩, _, _⟩ := HXY.out _ H11.out
        clear hb
        go_wp2_with fail
        refine (HBO.out w11 H11.out).mono ?_
        rintro e w12 ⟨rfl, hb⟩
        have H12 := Lib.hid (trans_b HV.out (trans_b H11.out hb))
        clear hb
        go_wp2_with fail
        go_ret
        exact ⟨by simp [hlo2], HT.out _ H12.out⟩
    | true =>
      have vp := HVP.out.1
      have vq := HVP.out.2
      obtain ⟨hx, hxp, hyq⟩ := hXW.out
      have hp0 := HPQ.out.2.1
      have hq0 := HPQ.out.2.2.1
      have hpq := HPQ.out.1
      have HK := Lib.hid (show ∀ U, Below w0.heap.size w0 U → (Below w0.heap.size w0 U ∧ U.cell? ⟨w.heap.size, 0, none⟩ = some (.int .i64 a.kind) ∧ U.cell? ⟨w.heap.size, 1, none⟩ = some (.string a.text) ∧ U.cell? ⟨w.heap.size, 2, none⟩ = some (.int .i64 a.pos) ∧ U.cell? ⟨w.heap.size, 3, none⟩ = some (.int .i64 a.fin) ∧ U.cell? ⟨w.heap.size, 4, none⟩ = some (.slice A a.kids.length cA)) from fun U h => by
        obtain ⟨a0, a1, a2, a3, a4⟩ := HCE.out U h
        exact ⟨h, a0, a1, a2, a3, a4⟩)
      have HVQ := Lib.hid (show ∀ U, Below W.heap.size W U → VarN U p ∧ VarN U q from fun U h => ⟨vp.below h, vq.below h⟩)
      have HBW := Lib.hid (show ∀ U, Below W.heap.size W U → Below w0.heap.size w0 U from fun U h => trans_b HW.out h)
      have HWIT := Lib.hid (show ∀ U, Calls Try.prog 25 #[.int .i64 (N : Nat)] U fun e w' => ∃ X cX, e = .returned (.agg #[.int .i64 T.kind, .string T.text, .int .i64 T.pos, .int .i64 T.fin, .slice X T.kids.length cX]) ∧ RNS w' (fun b => U.heap.size ≤ b) T X cX ∧ Below U.heap.size U w' from fun U => (HWI.out U).mono fun e w' ⟨⟨X, cX, he, hr⟩, hb⟩ => by
        rw [HTT.out] at he hr
        exact ⟨X, cX, he, hr, hb⟩)
      clear vp vq hx hxp hyq
      go_wp2_with fail
      go_region_held3 (fun U => Below w0.heap.size w0 U ∧ U.cell? ⟨w.heap.size, 0, none⟩ = some (.int .i64 a.kind) ∧ U.cell? ⟨w.heap.size, 1, none⟩ = some (.string a.text) ∧ U.cell? ⟨w.heap.size, 2, none⟩ = some (.int .i64 a.pos) ∧ U.cell? ⟨w.heap.size, 3, none⟩ = some (.int .i64 a.fin) ∧ U.cell? ⟨w.heap.size, 4, none⟩ = some (.slice A a.kids.length cA))
        (first | (with_reducible exact HK.out _ h4) | (with_reducible exact HK.out _ HW.out.drew) | (with_reducible exact HK.out _ (setB (setB (setB (setB (setB h4 hp0) hp0) hp0) hp0) hp0)) | (with_reducible exact HK.out _ (setB (setB (setB (setB (setB (setB (setB (setB (setB (setB h4 hp0) hp0) hp0) hp0) hp0) hq0) hq0) hq0) hq0) hq0)))
        ((go_at_call 25; refine (HWIT.out _).mono ?_; rintro e w4 ⟨X2, cX2, rfl, hr4, hb⟩; have hbd : Below W.heap.size W w4 := ((Below.refl W.heap.size W).drew).trans hb; have h4 := HBW.out _ hbd; obtain ⟨⟨⟨u0, z0⟩, ⟨u1, z1⟩, ⟨u2, z2⟩, ⟨u3, z3⟩, ⟨u4, z4⟩⟩, fp⟩ := (VarN.five (HVQ.out _ hbd).1); obtain ⟨⟨⟨v0, y0⟩, ⟨v1, y1⟩, ⟨v2, y2⟩, ⟨v3, y3⟩, ⟨v4, y4⟩⟩, fq⟩ := (VarN.five (HVQ.out _ hbd).2); have HR4 := Lib.hid hr4; have HBD := Lib.hid hbd; clear hr4 hb hbd))
      obtain ⟨V, hVV⟩ : ∃ V, set5 (set5 w4 p 0 a A cA) q 0 T X2 cX2 = V := ⟨_, rfl⟩
      have hq4 : ∀ b, b ≠ p → b ≠ q → V.heap[b]? = w4.heap[b]? := fun b h1 h2 => by rw [← hVV, set5_block _ _ _ _ _ _ _ h2, set5_block _ _ _ _ _ _ _ h1]
      have vq4 := HVQ.out _ HBD.out
      have hxp : At5 V p 0 a A cA := by
        rw [← hVV]
        exact (set5_at (fun j hj => by have := vq4.1.1 j hj; simpa using this)).of_block (set5_block _ _ _ _ _ _ _ hpq)
      have hyq : At5 V q 0 T X2 cX2 := by
        rw [← hVV]
        exact set5_at (fun j hj => by have := (vq4.2.set (b := p) (o := 0) (x := a) (X := A) (c := cA)).1 j hj; simpa using this)
      have hlt := HPQ.out
      have hVb : Below w0.heap.size w0 V := by rw [← hVV]; exact set5_below (set5_below h4 _ _ _ _ _ hp0) _ _ _ _ _ hq0
      have hx : RN V a A cA := HA.out V hVb
      have hy : RN V T X2 cX2 := (HR4.out.keep (w1 := V) fun b hb _ => by
        have hb' : W.heap.size ≤ b := hb
        exact hq4 b (by omega) (by omega)).rn
      unfold set5 at hVV
      simp only [Nat.zero_add] at hVV
      rw [hVV]
      have HV := Lib.hid hVb
      clear HW hXW HVP HVQ HBW HBD HR4 vq4 hq4 hVb hlt h4 z0 z1 z2 z3 z4 y0 y1 y2 y3 y4 fp fq hp0 hq0 hpq
      have HXY := Lib.hid (show ∀ U, Below V.heap.size V U → At5 U p 0 a A cA ∧ At5 U q 0 T X2 cX2 ∧ RN U a A cA ∧ RN U T X2 cX2 from fun U h => ⟨hxp.below h, hyq.below h, RN.keep h hx, RN.keep h hy⟩)
      have hnb := HNB.out
      have hsa := HSA.out
      have hns := HNS.out
      have HBG := Lib.hid (show bigAny [a, T] = decide (256 < N) by simp [bigAny, hns]; omega)
      have HD := Lib.hid (fun U (h : Below V.heap.size V U) => Distance a T A X2 cA cX2 U (HXY.out U h).2.2.1 (HXY.out U h).2.2.2 (by omega) (by omega))
      have HWT := Lib.hid (fun U (h : Below V.heap.size V U) => Within a T A X2 cA cX2 500 U (HXY.out U h).2.2.1 (HXY.out U h).2.2.2 (by omega) (by omega))
      have HSU := Lib.hid (fun U (h : Below V.heap.size V U) => Subtrees a T A X2 cA cX2 U (HXY.out U h).2.2.1 (HXY.out U h).2.2.2 (by omega) (by omega))
      have HMA := Lib.hid (fun U (h : Below V.heap.size V U) (g : Nat) (hg : U.heap[g]? = some (.cells (cells5 a A cA ++ cells5 a A cA).toArray 24 (0, 0))) => Matrix [a, a] (some ⟨g, 0, none⟩) 2 U (RN.two (HA.out U (trans_b HV.out h)) (HXY.out U h).2.2.1 hg) (by simp; omega) (by simp))
      have HNE := Lib.hid (fun U (h : Below V.heap.size V U) (g : Nat) (hg : U.heap[g]? = some (.cells (cells5 T X2 cX2).toArray 24 (0, 0))) => Nearest a [T] A (some ⟨g, 0, none⟩) cA 1 U (HXY.out U h).2.2.1 (RN.one (HXY.out U h).2.2.2 hg) (by omega) (by simp; omega) (by simp))
      have HBO := Lib.hid (fun U (h : Below V.heap.size V U) => Bound a T A X2 cA cX2 U (HXY.out U h).2.2.1 (HXY.out U h).2.2.2 (by omega) (by omega) HLA.out HNL.out)
      have hbd := bound_ge a T
      obtain ⟨lo, hlo⟩ : ∃ lo, boundV a T = lo := ⟨_, rfl⟩
      rw [hlo] at HBO hbd
      have hlo2 : (N : Int) - 6 ≤ lo := by omega
      obtain ⟨n1, n2, hn12⟩ := near_one a T
      rw [HBG.out] at hn12
      rw [hn12] at HNE
      obtain ⟨dv, hdv⟩ : ∃ dv, dV a T = dv := ⟨_, rfl⟩
      have hdc : dC a T = if decide (256 < N) = true then 8 else 0 := by unfold dC; rw [HBG.out]
      rw [hdv, hdc] at HD HWT
      have HV0 := Lib.hid (Below.refl V.heap.size V)
      unfold Nd.val at HD HWT HSU HNE HBO
      clear hxp hyq hx hy hbd hlo hn12 hdv hdc hnb hsa hns hVV
      obtain ⟨⟨x0, x1, x2, x3, x4⟩, ⟨y0, y1, y2, y3, y4⟩, _, _⟩ := HXY.out V HV0.out
      by_cases hbig : 256 < N
      · have hbi : decide (256 < N) = true := by simp [hbig]
        rw [hbi] at HD HWT HNE HBG
        simp only [if_true, Bool.false_eq_true, if_false] at HD HWT HNE
        have hN1 : (256 : Int) < N := by omega
        clear hbi
        go_wp2_with fail
        refine (HD.out V HV0.out).mono ?_
        rintro e w5 ⟨rfl, hb⟩
        clear x0 x1 x2 x3 x4 y0 y1 y2 y3 y4
        have H5 := Lib.hid hb
        obtain ⟨⟨x0, x1, x2, x3, x4⟩, ⟨y0, y1, y2, y3, y4⟩, _, _⟩ := HXY.out _ H5.out
        clear hb
        go_wp2_with fail
        refine (HWT.out w5 H5.out).mono ?_
        rintro e w6 ⟨rfl, hb⟩
        clear x0 x1 x2 x3 x4 y0 y1 y2 y3 y4
        have H6 := Lib.hid (trans_b H5.out hb)
        obtain ⟨⟨x0, x1, x2, x3, x4⟩, ⟨y0, y1, y2, y3, y4⟩, _, _⟩ := HXY.out _ H6.out
        clear hb
        go_wp2_with fail
        refine (HSU.out w6 H6.out).mono ?_
        rintro e w7 ⟨hr, hb⟩
        clear x0 x1 x2 x3 x4 y0 y1 y2 y3 y4
        have H7 := Lib.hid (trans_b H6.out hb)
        obtain ⟨⟨x0, x1, x2, x3, x4⟩, ⟨y0, y1, y2, y3, y4⟩, _, _⟩ := HXY.out _ H7.out
        obtain ⟨a0, a1, a2, a3, a4⟩ := HCE.out _ (trans_b HV.out H7.out)
        obtain ⟨sv, rfl⟩ : ∃ sv, e = .returned (.tuple #[sv, .int .i64 8]) := by
          rcases hr with ⟨h, rfl⟩ | ⟨h, _, _, _, rfl, _⟩
          · exact ⟨_, rfl⟩
          · rw [HBG.out] at h; cases h
        clear hb hr
        go_wp2_with fail
        refine (HMA.out _ (H7.out.alloc H7.out.size _) w7.heap.size ?_).mono ?_
        · have := heap_alloc_new w7 (.cells (cells5 a A cA ++ cells5 a A cA).toArray 24)
          simpa [cells5] using this
        rintro e w8 ⟨hr, hb⟩
        clear x0 x1 x2 x3 x4 y0 y1 y2 y3 y4 a0 a1 a2 a3 a4
        have H8 := Lib.hid (trans_b (H7.out.alloc H7.out.size _) hb)
        obtain ⟨⟨x0, x1, x2, x3, x4⟩, ⟨y0, y1, y2, y3, y4⟩, _, _⟩ := HXY.out _ H8.out
        obtain ⟨mv, mc, rfl⟩ : ∃ (mv : Value) (mc : Int), e = .returned (.tuple #[mv, .int .i64 mc]) := by
          rcases hr with ⟨h, rfl⟩ | ⟨h, _, _, rfl, _⟩
          · exact ⟨_, _, rfl⟩
          · exact ⟨_, _, rfl⟩
        clear hb hr
        go_wp2_with fail
        refine (HNE.out _ (H8.out.alloc H8.out.size _) w8.heap.size ?_).mono ?_
        · have := heap_alloc_new w8 (.cells (cells5 T X2 cX2).toArray 24)
          simpa [cells5] using this
        rintro e w9 ⟨rfl, hb⟩
        clear x0 x1 x2 x3 x4 y0 y1 y2 y3 y4
        have H9 := Lib.hid (trans_b (H8.out.alloc H8.out.size _) hb)
        clear hb
        go_wp2_with fail
        refine (HWI.out w9).mono ?_
        rintro e w10 ⟨⟨A9, c9, rfl, hr9⟩, hb⟩
        rw [HTT.out] at hr9 ⊢
        have H10 := Lib.hid (trans_b H9.out hb)
        have hN9 := Nearest T [] A9 none c9 0 w10 hr9.rn (.nil _ _ _ rfl) (by rw [HNS.out]; omega) (by simp) (by simp)
        have hnn : nearR T [] = .tuple #[.int .i64 0, .int .i64 0, .int .i64 8] := by
          rw [near_nil]
          have : bigAny [T] = true := by have := HNS.out; simp [bigAny]; omega
          rw [this]
          rfl
        rw [hnn] at hN9
        unfold Nd.val at hN9 ⊢
        have HN9 := Lib.hid hN9
        clear hb hr9 hN9 hnn
        go_wp2_with fail
        refine HN9.out.mono ?_
        rintro e w11 ⟨rfl, hb⟩
        have H11 := Lib.hid (trans_b H10.out hb)
        obtain ⟨⟨x0, x1, x2, x3, x4⟩, ⟨y0, y1, y2, y3, y4⟩, _, _⟩ := HXY.out _ H11.out
        clear hb
        go_wp2_with fail
        refine (HBO.out w11 H11.out).mono ?_
        rintro e w12 ⟨rfl, hb⟩
        have H12 := Lib.hid (trans_b HV.out (trans_b H11.out hb))
        clear hb
        go_wp2_with fail
        go_ret
        exact ⟨by simp [hlo2], HT.out _ H12.out⟩
      · have hbi : decide (256 < N) = false := by simp [hbig]
        rw [hbi] at HD HWT HNE HBG
        simp only [if_true, Bool.false_eq_true, if_false] at HD HWT HNE
        have hN1 : ¬ (256 : Int) < N := by omega
        have hN3 : (N : Int) ≤ 256 := by omega
        clear hbi
        go_wp2_with fail
        refine (HD.out V HV0.out).mono ?_
        rintro e w5 ⟨rfl, hb⟩
        clear x0 x1 x2 x3 x4 y0 y1 y2 y3 y4
        have H5 := Lib.hid hb
        obtain ⟨⟨x0, x1, x2, x3, x4⟩, ⟨y0, y1, y2, y3, y4⟩, _, _⟩ := HXY.out _ H5.out
        clear hb
        go_wp2_with fail
        refine (HWT.out w5 H5.out).mono ?_
        rintro e w6 ⟨rfl, hb⟩
        clear x0 x1 x2 x3 x4 y0 y1 y2 y3 y4
        have H6 := Lib.hid (trans_b H5.out hb)
        obtain ⟨⟨x0, x1, x2, x3, x4⟩, ⟨y0, y1, y2, y3, y4⟩, _, _⟩ := HXY.out _ H6.out
        clear hb
        go_wp2_with fail
        refine (HSU.out w6 H6.out).mono ?_
        rintro e w7 ⟨hr, hb⟩
        clear x0 x1 x2 x3 x4 y0 y1 y2 y3 y4
        have H7 := Lib.hid (trans_b H6.out hb)
        obtain ⟨⟨x0, x1, x2, x3, x4⟩, ⟨y0, y1, y2, y3, y4⟩, _, _⟩ := HXY.out _ H7.out
        obtain ⟨a0, a1, a2, a3, a4⟩ := HCE.out _ (trans_b HV.out H7.out)
        obtain ⟨sv, rfl⟩ : ∃ sv, e = .returned (.tuple #[sv, .int .i64 0]) := by
          rcases hr with ⟨h, rfl⟩ | ⟨h, _, _, _, rfl, _⟩
          · rw [HBG.out] at h; cases h
          · exact ⟨_, rfl⟩
        clear hb hr
        go_wp2_with fail
        refine (HMA.out _ (H7.out.alloc H7.out.size _) w7.heap.size ?_).mono ?_
        · have := heap_alloc_new w7 (.cells (cells5 a A cA ++ cells5 a A cA).toArray 24)
          simpa [cells5] using this
        rintro e w8 ⟨hr, hb⟩
        clear x0 x1 x2 x3 x4 y0 y1 y2 y3 y4 a0 a1 a2 a3 a4
        have H8 := Lib.hid (trans_b (H7.out.alloc H7.out.size _) hb)
        obtain ⟨⟨x0, x1, x2, x3, x4⟩, ⟨y0, y1, y2, y3, y4⟩, _, _⟩ := HXY.out _ H8.out
        obtain ⟨mv, mc, rfl⟩ : ∃ (mv : Value) (mc : Int), e = .returned (.tuple #[mv, .int .i64 mc]) := by
          rcases hr with ⟨h, rfl⟩ | ⟨h, _, _, rfl, _⟩
          · exact ⟨_, _, rfl⟩
          · exact ⟨_, _, rfl⟩
        clear hb hr
        go_wp2_with fail
        refine (HNE.out _ (H8.out.alloc H8.out.size _) w8.heap.size ?_).mono ?_
        · have := heap_alloc_new w8 (.cells (cells5 T X2 cX2).toArray 24)
          simpa [cells5] using this
        rintro e w9 ⟨rfl, hb⟩
        clear x0 x1 x2 x3 x4 y0 y1 y2 y3 y4
        have H9 := Lib.hid (trans_b (H8.out.alloc H8.out.size _) hb)
        clear hb
        go_wp2_with fail
        refine (HWI.out w9).mono ?_
        rintro e w10 ⟨⟨A9, c9, rfl, hr9⟩, hb⟩
        rw [HTT.out] at hr9 ⊢
        have H10 := Lib.hid (trans_b H9.out hb)
        have hN9 := Nearest T [] A9 none c9 0 w10 hr9.rn (.nil _ _ _ rfl) (by rw [HNS.out]; omega) (by simp) (by simp)
        have hnn : nearR T [] = .tuple #[.int .i64 0, .int .i64 0, .int .i64 7] := by
          rw [near_nil]
          have : bigAny [T] = false := by have := HNS.out; simp [bigAny]; omega
          rw [this]
          rfl
        rw [hnn] at hN9
        unfold Nd.val at hN9 ⊢
        have HN9 := Lib.hid hN9
        clear hb hr9 hN9 hnn
        go_wp2_with fail
        refine HN9.out.mono ?_
        rintro e w11 ⟨rfl, hb⟩
        have H11 := Lib.hid (trans_b H10.out hb)
        obtain ⟨⟨x0, x1, x2, x3, x4⟩, ⟨y0, y1, y2, y3, y4⟩, _, _⟩ := HXY.out _ H11.out
        clear hb
        go_wp2_with fail
        refine (HBO.out w11 H11.out).mono ?_
        rintro e w12 ⟨rfl, hb⟩
        have H12 := Lib.hid (trans_b HV.out (trans_b H11.out hb))
        clear hb
        go_wp2_with fail
        go_ret
        exact ⟨by simp [hlo2], HT.out _ H12.out⟩
end Go.Proofs.Ytjijfgkmjachnaa
