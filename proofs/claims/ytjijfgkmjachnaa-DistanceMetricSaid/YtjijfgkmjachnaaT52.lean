import Derived.Test.YtjijfgkmjachnaaT51
namespace Go.Proofs.Ytjijfgkmjachnaa
set_option linter.unusedVariables false
set_option linter.unusedSimpArgs false
open Go.RowKit

set_option maxRecDepth 100000 in
set_option maxHeartbeats 2000000 in
theorem lawMetric (a b c : Nd) (A B C : Option Addr) (cA cB cC : Nat) (m : Int) (w : World) (hA : RN w a A cA) (hB : RN w b B cB) (hC : RN w c C cC) :
    Calls Try.prog 5 #[a.val A cA, b.val B cB, c.val C cC, .int .i64 m] w fun e w' => e = .returned (.bool true) ∧ Below w.heap.size w w' := by
  obtain ⟨w0, hw0⟩ : ∃ w0, ((w.alloc (.cells (cells5 a A cA).toArray 24)).alloc (.cells (cells5 b B cB).toArray 24)).alloc (.cells (cells5 c C cC).toArray 24) = w0 := ⟨_, rfl⟩
  obtain ⟨pa, pb, pc, hb0⟩ := heap3' w a b c A B C cA cB cC w0 hw0
  have HCE := Lib.hid (show ∀ W, Below w0.heap.size w0 W → At5 W w.heap.size 0 a A cA ∧ At5 W (w.heap.size + 1) 0 b B cB ∧ At5 W (w.heap.size + 2) 0 c C cC from fun W h => ⟨pa.below h, pb.below h, pc.below h⟩)
  have HT := Lib.hid (show ∀ W, Below w0.heap.size w0 W → Below w.heap.size w W from fun W h => hb0.trans (h.mono hb0.size))
  have HA := Lib.hid (show ∀ W, Below w0.heap.size w0 W → RN W a A cA from fun W h => RN.keep h (RN.keep hb0 hA))
  have HB := Lib.hid (show ∀ W, Below w0.heap.size w0 W → RN W b B cB from fun W h => RN.keep h (RN.keep hb0 hB))
  have HC := Lib.hid (show ∀ W, Below w0.heap.size w0 W → RN W c C cC from fun W h => RN.keep h (RN.keep hb0 hC))
  have hw1 : ((w.alloc (.cells #[.int .i64 a.kind, .string a.text, .int .i64 a.pos, .int .i64 a.fin, .slice A a.kids.length cA] 24)).alloc (.cells #[.int .i64 b.kind, .string b.text, .int .i64 b.pos, .int .i64 b.fin, .slice B b.kids.length cB] 24)).alloc (.cells #[.int .i64 c.kind, .string c.text, .int .i64 c.pos, .int .i64 c.fin, .slice C c.kids.length cC] 24) = w0 := hw0
  clear hw0 pa pb pc hb0 hA hB hC
  have HF1 := Lib.hid (fun W (h : Below w0.heap.size w0 W) => lawfew a b 20 A B cA cB W (HA.out W h) (HB.out W h) (by omega) (by omega))
  have HF2 := Lib.hid (fun W (h : Below w0.heap.size w0 W) => lawfew c c 20 C C cC cC W (HC.out W h) (HC.out W h) (by omega) (by omega))
  have HD := Lib.hid (fun W (h : Below w0.heap.size w0 W) (x y : Nd) (X Y : Option Addr) (cX cY : Nat) (hX : RN W x X cX) (hY : RN W y Y cY) (s1 : x.size ≤ 1000000) (s2 : y.size ≤ 1000000) => Distance x y X Y cX cY W hX hY s1 s2)
  have HWI := Lib.hid (fun W (h : Below w0.heap.size w0 W) (s1 : a.size ≤ 1000000) (s2 : b.size ≤ 1000000) => Within a b A B cA cB m W (HA.out W h) (HB.out W h) s1 s2)
  have HSA := Lib.hid (fun W (h : Below w0.heap.size w0 W) => refSame a.size a b A B cA cB W (Nat.le_refl _) (HA.out W h) (HB.out W h))
  unfold Nd.val at HF1 HF2 HD HWI HSA ⊢
  go_enter Try.func5, Try.ntmps5
  go_wp2_with fail
  refine (awake w0).mono ?_
  rintro e w1 ⟨rfl, hb⟩
  have H1 := Lib.hid hb
  obtain ⟨⟨a0, a1, a2, a3, a4⟩, ⟨b0, b1, b2, b3, b4⟩, c0, c1, c2, c3, c4⟩ := HCE.out _ H1.out
  clear hb hw1
  go_wp2_with fail
  refine (HF1.out w1 H1.out).mono ?_
  rintro e w2 ⟨rfl, hb⟩
  clear a0 a1 a2 a3 a4 b0 b1 b2 b3 b4 c0 c1 c2 c3 c4
  have H2 := Lib.hid (H1.out.trans (hb.mono H1.out.size))
  obtain ⟨⟨a0, a1, a2, a3, a4⟩, ⟨b0, b1, b2, b3, b4⟩, c0, c1, c2, c3, c4⟩ := HCE.out _ H2.out
  clear hb HF1
  cases hq : FewB a 20 && FewB b 20 with
  | false =>
    clear hq
    go_wp2_with fail
    go_ret
    exact ⟨rfl, HT.out _ H2.out⟩
  | true =>
    have HQ := Lib.hid hq
    clear hq
    go_wp2_with fail
    refine (HF2.out w2 H2.out).mono ?_
    rintro e w3 ⟨rfl, hb⟩
    clear a0 a1 a2 a3 a4 b0 b1 b2 b3 b4 c0 c1 c2 c3 c4
    have H3 := Lib.hid (H2.out.trans (hb.mono H2.out.size))
    obtain ⟨⟨a0, a1, a2, a3, a4⟩, ⟨b0, b1, b2, b3, b4⟩, c0, c1, c2, c3, c4⟩ := HCE.out _ H3.out
    clear hb HF2
    cases hq : FewB c 20 && FewB c 20 with
    | false =>
      clear hq
      go_wp2_with fail
      go_ret
      exact ⟨rfl, HT.out _ H3.out⟩
    | true =>
      have HQ2 := Lib.hid hq
      clear hq
      have sa : a.size ≤ 20 := by have := HQ.out; simp only [Bool.and_eq_true] at this; have := FewB_size this.1; omega
      have sb : b.size ≤ 20 := by have := HQ.out; simp only [Bool.and_eq_true] at this; have := FewB_size this.2; omega
      have sc : c.size ≤ 20 := by have := HQ2.out; simp only [Bool.and_eq_true] at this; have := FewB_size this.1; omega
      obtain ⟨dab, hab⟩ : ∃ d, td a b = d := ⟨_, rfl⟩
      obtain ⟨dbc, hbc⟩ : ∃ d, td b c = d := ⟨_, rfl⟩
      obtain ⟨dac, hac⟩ : ∃ d, td a c = d := ⟨_, rfl⟩
      have tri : dac ≤ dab + dbc := by rw [← hab, ← hbc, ← hac]; exact td_tri a b c
      have bab : dab ≤ 40 := by have := td_le a b; omega
      have bbc : dbc ≤ 40 := by have := td_le b c; omega
      have hsame : sameN a.size a b = decide (dab = 0) := by
        rw [Bool.eq_iff_iff, decide_eq_true_iff, sameN_iff _ a b (Nat.le_refl _), hab]
      have D1 := Lib.hid (fun W h => HD.out W h a b A B cA cB (HA.out W h) (HB.out W h) (by omega) (by omega))
      have D2 := Lib.hid (fun W h => HD.out W h b a B A cB cA (HB.out W h) (HA.out W h) (by omega) (by omega))
      have D3 := Lib.hid (fun W h => HD.out W h b c B C cB cC (HB.out W h) (HC.out W h) (by omega) (by omega))
      have D4 := Lib.hid (fun W h => HD.out W h a c A C cA cC (HA.out W h) (HC.out W h) (by omega) (by omega))
      have D5 := Lib.hid (fun W h => HWI.out W h (by omega) (by omega))
      rw [dV_small (by omega) (by omega), dC_small (by omega) (by omega)] at D1 D2 D3 D4 D5
      rw [td_comm b a] at D2
      rw [hab] at D1 D2 D5
      rw [hbc] at D3
      rw [hac] at D4
      rw [hsame] at HSA
      have HX := Lib.hid (And.intro hab (And.intro hbc hac))
      clear HD HWI hab hbc hac hsame sa sb sc
      have hwrap : IntKind.i64.wrap ((dab : Int) + dbc) = dab + dbc := IntWalk.i64_in _ (by omega)
      have tri' : (dac : Int) ≤ dab + dbc := by omega
      go_wp2_with fail
      refine (D1.out w3 H3.out).mono ?_
      rintro e w4 ⟨rfl, hb⟩
      clear a0 a1 a2 a3 a4 b0 b1 b2 b3 b4 c0 c1 c2 c3 c4
      have H4 := Lib.hid (H3.out.trans (hb.mono H3.out.size))
      obtain ⟨⟨a0, a1, a2, a3, a4⟩, ⟨b0, b1, b2, b3, b4⟩, c0, c1, c2, c3, c4⟩ := HCE.out _ H4.out
      clear hb
      go_wp2_with fail
      refine (D2.out w4 H4.out).mono ?_
      rintro e w5 ⟨rfl, hb⟩
      clear a0 a1 a2 a3 a4 b0 b1 b2 b3 b4 c0 c1 c2 c3 c4
      have H5 := Lib.hid (H4.out.trans (hb.mono H4.out.size))
      obtain ⟨⟨a0, a1, a2, a3, a4⟩, ⟨b0, b1, b2, b3, b4⟩, c0, c1, c2, c3, c4⟩ := HCE.out _ H5.out
      clear hb
      go_wp2_with fail
      refine (D3.out w5 H5.out).mono ?_
      rintro e w6 ⟨rfl, hb⟩
      clear a0 a1 a2 a3 a4 b0 b1 b2 b3 b4 c0 c1 c2 c3 c4
      have H6 := Lib.hid (H5.out.trans (hb.mono H5.out.size))
      obtain ⟨⟨a0, a1, a2, a3, a4⟩, ⟨b0, b1, b2, b3, b4⟩, c0, c1, c2, c3, c4⟩ := HCE.out _ H6.out
      clear hb
      go_wp2_with fail
      refine (D4.out w6 H6.out).mono ?_
      rintro e w7 ⟨rfl, hb⟩
      clear a0 a1 a2 a3 a4 b0 b1 b2 b3 b4 c0 c1 c2 c3 c4
      have H7 := Lib.hid (H6.out.trans (hb.mono H6.out.size))
      obtain ⟨⟨a0, a1, a2, a3, a4⟩, ⟨b0, b1, b2, b3, b4⟩, c0, c1, c2, c3, c4⟩ := HCE.out _ H7.out
      clear hb
      go_wp2_with fail
      refine (D5.out w7 H7.out).mono ?_
      rintro e w8 ⟨rfl, hb⟩
      clear a0 a1 a2 a3 a4 b0 b1 b2 b3 b4 c0 c1 c2 c3 c4
      have H8 := Lib.hid (H7.out.trans (hb.mono H7.out.size))
      obtain ⟨⟨a0, a1, a2, a3, a4⟩, ⟨b0, b1, b2, b3, b4⟩, c0, c1, c2, c3, c4⟩ := HCE.out _ H8.out
      clear hb
      by_cases hm : (dab : Int) ≤ m
      all_goals
        by_cases hz : dab = 0
        all_goals
          go_wp2_with fail
          refine (HSA.out w8 H8.out).mono ?_
          rintro e w9 ⟨rfl, hb⟩
          have H9 := Lib.hid (H8.out.trans (hb.mono H8.out.size))
          clear hb
          go_wp2_with fail
          go_ret
          exact ⟨by simp [hm, hz], HT.out _ H9.out⟩
end Go.Proofs.Ytjijfgkmjachnaa
