/- The law DistanceForm, walked. -/
import Derived.Test.YtjijfgkmjachnaaT80
namespace Go.Proofs.Ytjijfgkmjachnaa
set_option linter.unusedVariables false
set_option linter.unusedSimpArgs false
open Go.RowKit
attribute [local go_sem ↓] Go.wp_at_zero Go.wp_at_succ

theorem SubT.eq {a b : Nd} {T T' : Nat → Nat → Int} (h : SubT a b T) (h' : SubT a b T') {i k : Nat} (hi : i < a.size) (hk : k < b.size) : T i k = T' i k := by
  obtain ⟨s, hs, rfl⟩ := nm_surj a i hi
  obtain ⟨t, ht, rfl⟩ := nm_surj b k hk
  rw [h s t hs ht, h' s t hs ht]
theorem Tab.belowT {w W : World} {base g : Nat} {bs : Nat → Nat} {n m : Nat} {T : Nat → Nat → Int} (h : Tab w base g bs n m T) (hb : Below w.heap.size w W) : Tab W base g bs n m T := h.keep (S := fun _ => False) (Keeps.of_below hb) (fun h => h) (fun _ _ h => h)

set_option maxRecDepth 100000 in
set_option maxHeartbeats 4000000 in
theorem lawForm (a b : Nd) (A B : Option Addr) (cA cB : Nat) (w : World) (hA : RN w a A cA) (hB : RN w b B cB) (la : LabW a) (lb : LabW b) :
    Calls Try.prog 3 #[a.val A cA, b.val B cB] w fun e w' => e = .returned (.bool true) ∧ Below w.heap.size w w' := by
  obtain ⟨w0, hw0⟩ : ∃ w0, (w.alloc (.cells (cells5 a A cA).toArray 24)).alloc (.cells (cells5 b B cB).toArray 24) = w0 := ⟨_, rfl⟩
  obtain ⟨pa, pb, hb0⟩ := heap2' w a b A B cA cB w0 hw0
  have HCE := Lib.hid (show ∀ W, Below w0.heap.size w0 W → At5 W w.heap.size 0 a A cA ∧ At5 W (w.heap.size + 1) 0 b B cB from fun W h => ⟨pa.below h, pb.below h⟩)
  have HT := Lib.hid (show ∀ W, Below w0.heap.size w0 W → Below w.heap.size w W from fun W h => hb0.trans (h.mono hb0.size))
  have HA := Lib.hid (show ∀ W, Below w0.heap.size w0 W → RN W a A cA from fun W h => RN.keep h (RN.keep hb0 hA))
  have HB := Lib.hid (show ∀ W, Below w0.heap.size w0 W → RN W b B cB from fun W h => RN.keep h (RN.keep hb0 hB))
  have hw1 : ((w.alloc (.cells #[.int .i64 a.kind, .string a.text, .int .i64 a.pos, .int .i64 a.fin, .slice A a.kids.length cA] 24)).alloc (.cells #[.int .i64 b.kind, .string b.text, .int .i64 b.pos, .int .i64 b.fin, .slice B b.kids.length cB] 24)) = w0 := hw0
  clear hw0 pa pb hb0 hA hB
  have HF1 := Lib.hid (fun W (h : Below w0.heap.size w0 W) => lawfew a b 20 A B cA cB W (HA.out W h) (HB.out W h) (by omega) (by omega))
  have HD := Lib.hid (fun W (h : Below w0.heap.size w0 W) (s1 : a.size ≤ 1000000) (s2 : b.size ≤ 1000000) => Distance a b A B cA cB W (HA.out W h) (HB.out W h) s1 s2)
  have HS0 := Lib.hid (fun W (h : Below w0.heap.size w0 W) (s1 : a.size ≤ 1000000) (s2 : b.size ≤ 1000000) => Subtrees a b A B cA cB W (HA.out W h) (HB.out W h) s1 s2)
  have HRS0 := Lib.hid (fun W (h : Below w0.heap.size w0 W) (s1 : a.size ≤ 900000) (s2 : b.size ≤ 900000) => refSubtrees a b A B cA cB W (HA.out W h) (HB.out W h) s1 s2)
  have HBO0 := Lib.hid (fun W (h : Below w0.heap.size w0 W) (s1 : a.size ≤ 1000000) (s2 : b.size ≤ 1000000) => Bound a b A B cA cB W (HA.out W h) (HB.out W h) s1 s2 la lb)
  have HRB0 := Lib.hid (fun W (h : Below w0.heap.size w0 W) (s1 : a.size ≤ 900000) (s2 : b.size ≤ 900000) => refBound a b A B cA cB W (HA.out W h) (HB.out W h) s1 s2)
  unfold Nd.val at HF1 HD HS0 HRS0 HBO0 HRB0 ⊢
  go_enter Try.func3, Try.ntmps3
  go_wp2_with fail
  refine (awake w0).mono ?_
  rintro e w1 ⟨rfl, hb⟩
  have H1 := Lib.hid hb
  obtain ⟨⟨a0, a1, a2, a3, a4⟩, b0, b1, b2, b3, b4⟩ := HCE.out _ H1.out
  clear hb hw1
  go_wp2_with fail
  refine (HF1.out w1 H1.out).mono ?_
  rintro e w2 ⟨rfl, hb⟩
  clear a0 a1 a2 a3 a4 b0 b1 b2 b3 b4
  have H2 := Lib.hid (H1.out.trans (hb.mono H1.out.size))
  obtain ⟨⟨a0, a1, a2, a3, a4⟩, b0, b1, b2, b3, b4⟩ := HCE.out _ H2.out
  clear hb HF1
  cases hq : FewB a 20 && FewB b 20 with
  | false =>
    clear hq
    go_wp2_with fail
    go_ret
    exact ⟨rfl, HT.out _ H2.out⟩
  | true =>
    have HQ := Lib.hid hq
    clear hq
    have sa : a.size ≤ 20 := by have := HQ.out; simp only [Bool.and_eq_true] at this; have := FewB_size this.1; omega
    have sb : b.size ≤ 20 := by have := HQ.out; simp only [Bool.and_eq_true] at this; have := FewB_size this.2; omega
    have HPP := Lib.hid (And.intro a.size_pos b.size_pos)
    have HBIG := Lib.hid (show bigAny [a, b] = false by simp [bigAny]; omega)
    have D1 := Lib.hid (fun W h => HD.out W h (by omega) (by omega))
    have HS := Lib.hid (fun W h => HS0.out W h (by omega) (by omega))
    have HRS := Lib.hid (fun W h => HRS0.out W h (by omega) (by omega))
    have HBO := Lib.hid (fun W h => HBO0.out W h (by omega) (by omega))
    have HRB := Lib.hid (fun W h => HRB0.out W h (by omega) (by omega))
    rw [dV_small (by omega) (by omega), dC_small (by omega) (by omega)] at D1
    clear HD HS0 HRS0 HBO0 HRB0 la lb
    go_wp2_with fail
    refine (D1.out w2 H2.out).mono ?_
    rintro e w3 ⟨rfl, hb⟩
    clear a0 a1 a2 a3 a4 b0 b1 b2 b3 b4
    have H3 := Lib.hid (trans_b H2.out hb)
    obtain ⟨⟨a0, a1, a2, a3, a4⟩, b0, b1, b2, b3, b4⟩ := HCE.out _ H3.out
    clear hb
    go_wp2_with fail
    refine (HS.out w3 H3.out).mono ?_
    rintro e w4 ⟨hr, hb⟩
    clear a0 a1 a2 a3 a4 b0 b1 b2 b3 b4
    have H4 := Lib.hid (trans_b H3.out hb)
    obtain ⟨⟨a0, a1, a2, a3, a4⟩, b0, b1, b2, b3, b4⟩ := HCE.out _ H4.out
    obtain ⟨g, bs, T, rfl, hT, hS⟩ := (hr.resolve_left (fun h => by have := HBIG.out; rw [h.1] at this; cases this)).2
    have HT4 := Lib.hid (And.intro hT hS)
    clear hb hr hT hS
    go_wp2_with fail
    refine (HRS.out w4 H4.out).mono ?_
    rintro e w5 ⟨⟨g2, c2, bs2, T2, rfl, hT2, hS2⟩, hb⟩
    clear a0 a1 a2 a3 a4 b0 b1 b2 b3 b4
    have H5 := Lib.hid (trans_b H4.out hb)
    have HTT := Lib.hid (And.intro (HT4.out.1.belowT hb) (And.intro hT2 (show ∀ i k, i < a.size → k < b.size → T i k = T2 i k from fun i k hi hk => SubT.eq HT4.out.2 hS2 hi hk)))
    have HZ := Lib.hid (SubT.zero hS2)
    clear hb hT2 hS2 HT4
    have hpa := HPP.out.1
    have hpb := HPP.out.2
    have HK := Lib.hid (show ∀ W, Below w5.heap.size w5 W → (Below w5.heap.size w5 W ∧ (W.cell? ⟨w.heap.size, 0, none⟩ = some (.int .i64 a.kind) ∧ W.cell? ⟨w.heap.size, 1, none⟩ = some (.string a.text) ∧ W.cell? ⟨w.heap.size, 2, none⟩ = some (.int .i64 a.pos) ∧ W.cell? ⟨w.heap.size, 3, none⟩ = some (.int .i64 a.fin) ∧ W.cell? ⟨w.heap.size, 4, none⟩ = some (.slice A a.kids.length cA)) ∧
        (W.cell? ⟨w.heap.size + 1, 0, none⟩ = some (.int .i64 b.kind) ∧ W.cell? ⟨w.heap.size + 1, 1, none⟩ = some (.string b.text) ∧ W.cell? ⟨w.heap.size + 1, 2, none⟩ = some (.int .i64 b.pos) ∧ W.cell? ⟨w.heap.size + 1, 3, none⟩ = some (.int .i64 b.fin) ∧ W.cell? ⟨w.heap.size + 1, 4, none⟩ = some (.slice B b.kids.length cB)) ∧
        W.cell? ⟨g2, 0, none⟩ = some (.slice (some ⟨bs2 0, 0, none⟩) b.size b.size) ∧ W.cell? ⟨bs2 0, 0, none⟩ = some (.int .i64 (td a b : Nat))) from fun W h => by
      obtain ⟨⟨a0, a1, a2, a3, a4⟩, b0, b1, b2, b3, b4⟩ := HCE.out W (trans_b H5.out h)
      have t := HTT.out.2.1.belowT h
      have t0 := t.inner 0 0 hpa hpb
      rw [HZ.out] at t0
      exact ⟨h, ⟨a0, a1, a2, a3, a4⟩, ⟨b0, b1, b2, b3, b4⟩, t.outer 0 hpa, t0⟩)
    have h5 : Below w5.heap.size w5 w5 := Below.refl _ _
    go_wp2_with fail
    go_region_held3 (fun W => Below w5.heap.size w5 W ∧ (W.cell? ⟨w.heap.size, 0, none⟩ = some (.int .i64 a.kind) ∧ W.cell? ⟨w.heap.size, 1, none⟩ = some (.string a.text) ∧ W.cell? ⟨w.heap.size, 2, none⟩ = some (.int .i64 a.pos) ∧ W.cell? ⟨w.heap.size, 3, none⟩ = some (.int .i64 a.fin) ∧ W.cell? ⟨w.heap.size, 4, none⟩ = some (.slice A a.kids.length cA)) ∧
        (W.cell? ⟨w.heap.size + 1, 0, none⟩ = some (.int .i64 b.kind) ∧ W.cell? ⟨w.heap.size + 1, 1, none⟩ = some (.string b.text) ∧ W.cell? ⟨w.heap.size + 1, 2, none⟩ = some (.int .i64 b.pos) ∧ W.cell? ⟨w.heap.size + 1, 3, none⟩ = some (.int .i64 b.fin) ∧ W.cell? ⟨w.heap.size + 1, 4, none⟩ = some (.slice B b.kids.length cB)) ∧
        W.cell? ⟨g2, 0, none⟩ = some (.slice (some ⟨bs2 0, 0, none⟩) b.size b.size) ∧ W.cell? ⟨bs2 0, 0, none⟩ = some (.int .i64 (td a b : Nat)))
      (first | with_reducible exact HK.out _ h7 | with_reducible exact HK.out _ h6 | with_reducible exact HK.out _ h5.drew)
      (first | (go_at_call 15; (with_reducible refine (HBO.out _ (trans_b H5.out h5.drew)).mono ?_); (rintro e w6 ⟨rfl, hb6⟩); (have h6 := trans_b h5.drew hb6)) | (go_at_call 16; (with_reducible refine (HRB.out _ (trans_b H5.out h6)).mono ?_); (rintro e w7 ⟨rfl, hb7⟩); (have h7 := trans_b h6 hb7)))
    have H7 := Lib.hid h7
    have HTW := Lib.hid (show ∀ W, Below w5.heap.size w5 W → Tab W w3.heap.size g bs a.size b.size T ∧ Tab W w4.heap.size g2 bs2 a.size b.size T2 from fun W h => ⟨HTT.out.1.belowT h, HTT.out.2.1.belowT h⟩)
    have HEQ := Lib.hid HTT.out.2.2
    clear h5 h6 h7 hb6 hb7 HK
    go_wp2_with fail
    go_loopw [66] (fun s wr => ∃ i : Nat, s = .int .i64 (i : Nat) ∧ i ≤ a.size ∧ Hid (Below w5.heap.size w5 wr)) (fun s _ => a.size - (intOf s).toNat)
    case atStart => exact ⟨0, rfl, Nat.zero_le _, H7⟩
    case round =>
      obtain ⟨i, rfl, hi, H⟩ := hrel
      obtain ⟨t1, t2⟩ := HTW.out wr H.out
      by_cases hia : i < a.size
      · have o1 := t1.outer i hia
        have o2 := t2.outer i hia
        have hin : (i : Int) < a.size := by omega
        clear t1 t2
        go_wp2_with fail
        go_quiet (fail)
        go_wp2_with fail
        go_loopw [85] (fun s wr => ∃ k : Nat, s = .int .i64 (k : Nat) ∧ k ≤ b.size ∧ Hid (Below w5.heap.size w5 wr)) (fun s _ => b.size - (intOf s).toNat)
        case atStart => exact ⟨0, rfl, Nat.zero_le _, Lib.hid (belN H.out _)⟩
        case round =>
          clear o1 o2 H
          obtain ⟨k, rfl, hk, H⟩ := hrel
          obtain ⟨t1, t2⟩ := HTW.out wr H.out
          by_cases hkb : k < b.size
          · have o1 := t1.outer i hia
            have o2 := t2.outer i hia
            have z1 := t1.inner i k hia hkb
            have z2 := t2.inner i k hia hkb
            rw [← HEQ.out i k hia hkb] at z2
            have hkn : (k : Int) < b.size := by omega
            clear t1 t2
            go_wp2_with fail
            go_quiet (fail)
            go_wp2_with fail
            go_roundw
            case rel => exact ⟨k + 1, by go_num, by omega, Lib.hid (belN H.out _)⟩
            case measure => simp [intOf]; omega
          · obtain rfl : k = b.size := by omega
            clear t1 t2
            go_wp2_with fail
            go_roundw
            case rel => exact ⟨i + 1, by go_num, by omega, H⟩
            case measure => simp [intOf]; omega
      · obtain rfl : i = a.size := by omega
        clear t1 t2
        go_wp2_with fail
        go_ret
        exact ⟨rfl, HT.out _ (trans_b H5.out H.out)⟩
end Go.Proofs.Ytjijfgkmjachnaa
