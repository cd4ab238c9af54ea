/- The law DistanceMapping, walked. -/
import Derived.Test.YtjijfgkmjachnaaT70
import Derived.Test.YtjijfgkmjachnaaT71
import Derived.Test.YtjijfgkmjachnaaC11
namespace Go.Proofs.Ytjijfgkmjachnaa
set_option linter.unusedVariables false
set_option linter.unusedSimpArgs false
open Go.RowKit Go.Proofs.YtjijfgkmjachnaaW.PrintWords
open PDistanceMapping (k73 assessorlaw37_cheapest.calls)
attribute [local go_sem ↓] Go.wp_at_zero Go.wp_at_succ

/-- a tree's preorder list, as it is read -/
def KL (w : World) (A : Option Addr) (c : Nat) (t : Nd) : Prop := t.size ≤ c ∧ Kd.C k73 w A t.size ((pre [t] 0).map cv)
theorem KL.below {w w1 : World} {A : Option Addr} {c : Nat} {t : Nd} (h : KL w A c t) (hb : Below w.heap.size w w1) : KL w1 A c t := ⟨h.1, Kd.C_below h.2 hb⟩
theorem pre_len1 (t : Nd) : (pre [t] 0).length = t.size := by rw [pre_len, Nd.sizes_cons, Nd.sizes_nil]; rfl
theorem listK (t : Nd) (A : Option Addr) (c : Nat) (w : World) (hR : RN w t A c) (hs : t.size ≤ 1000000) :
    Calls Try.prog 18 #[t.val A c, .int .i64 0] w fun e w' => (∃ A' c', e = .returned (.slice A' t.size c') ∧ Hid (KL w' A' c' t)) ∧ Below w.heap.size w w' := by
  refine (listW w t.size t 0 A c w (Nat.le_refl _) hR (Below.refl _ _) (by omega)).mono ?_
  rintro e w' ⟨⟨g, cap, rfl, As, cs, ho, hl, hr⟩, hb⟩
  refine ⟨⟨_, cap, rfl, Lib.hid ?_⟩, hb⟩
  have e1 := pre_len1 t
  obtain ⟨A', c', hv, hc, hk⟩ := own_kc (l := pre [t] 0) (by rw [e1]; exact ho) (by omega) (fun i h => RN.keep hb (hr i h))
  injection hv with hv1 hv2 hv3
  subst hv1
  rw [List.length_map, e1] at hk
  exact ⟨by omega, hk⟩
theorem cheapestW (t u : Nd) (A B : Option Addr) (c d : Nat) (w : World) (hA : KL w A c t) (hB : KL w B d u) (ht : t.size ≤ 1000) (hu : u.size ≤ 1000) :
    Calls Try.prog 17 #[.slice A t.size c, .slice B u.size d, .slice none 0 0] w fun e w' => e = .returned (.int .i64 (td t u : Nat)) ∧ Below w.heap.size w w' := by
  obtain ⟨k, hk⟩ := cheapest_td t u ht hu
  have e1 : ((pre [t] 0).map cv).length = t.size := by rw [List.length_map, pre_len1]
  have e2 : ((pre [u] 0).map cv).length = u.size := by rw [List.length_map, pre_len1]
  have h := assessorlaw37_cheapest.calls k A c ((pre [t] 0).map cv) B d ((pre [u] 0).map cv) none 0 [] _ w (by rw [e1]; exact hA.2) (by rw [e1]; exact hA.1) (by rw [e2]; exact hB.2) (by rw [e2]; exact hB.1) ⟨rfl, by simp, fun h => by simp at h⟩ (Nat.le_refl _) hk
  rw [e1, e2] at h
  exact h

set_option maxRecDepth 100000 in
set_option maxHeartbeats 4000000 in
theorem lawMapping (a b : Nd) (A B : Option Addr) (cA cB : Nat) (w : World) (hA : RN w a A cA) (hB : RN w b B cB) :
    Calls Try.prog 4 #[a.val A cA, b.val B cB] w fun e w' => e = .returned (.bool true) ∧ Below w.heap.size w w' := by
  obtain ⟨w0, hw0⟩ : ∃ w0, (w.alloc (.cells (cells5 a A cA).toArray 24)).alloc (.cells (cells5 b B cB).toArray 24) = w0 := ⟨_, rfl⟩
  obtain ⟨pa, pb, hb0⟩ := heap2' w a b A B cA cB w0 hw0
  have HCE := Lib.hid (show ∀ W, Below w0.heap.size w0 W → At5 W w.heap.size 0 a A cA ∧ At5 W (w.heap.size + 1) 0 b B cB from fun W h => ⟨pa.below h, pb.below h⟩)
  have HT := Lib.hid (show ∀ W, Below w0.heap.size w0 W → Below w.heap.size w W from fun W h => hb0.trans (h.mono hb0.size))
  have HA := Lib.hid (show ∀ W, Below w0.heap.size w0 W → RN W a A cA from fun W h => RN.keep h (RN.keep hb0 hA))
  have HB := Lib.hid (show ∀ W, Below w0.heap.size w0 W → RN W b B cB from fun W h => RN.keep h (RN.keep hb0 hB))
  have hw1 : ((w.alloc (.cells #[.int .i64 a.kind, .string a.text, .int .i64 a.pos, .int .i64 a.fin, .slice A a.kids.length cA] 24)).alloc (.cells #[.int .i64 b.kind, .string b.text, .int .i64 b.pos, .int .i64 b.fin, .slice B b.kids.length cB] 24)) = w0 := hw0
  clear hw0 pa pb hb0 hA hB
  have HF1 := Lib.hid (fun W (h : Below w0.heap.size w0 W) => lawfew a b 5 A B cA cB W (HA.out W h) (HB.out W h) (by omega) (by omega))
  have HD := Lib.hid (fun W (h : Below w0.heap.size w0 W) (s1 : a.size ≤ 1000000) (s2 : b.size ≤ 1000000) => Distance a b A B cA cB W (HA.out W h) (HB.out W h) s1 s2)
  have HLA0 := Lib.hid (fun W (h : Below w0.heap.size w0 W) (s1 : a.size ≤ 1000000) => listK a A cA W (HA.out W h) s1)
  have HLB0 := Lib.hid (fun W (h : Below w0.heap.size w0 W) (s1 : b.size ≤ 1000000) => listK b B cB W (HB.out W h) s1)
  unfold Nd.val at HF1 HD HLA0 HLB0 ⊢
  go_enter Try.func4, Try.ntmps4
  go_wp2_with fail
  refine (awake w0).mono ?_
  rintro e w1 ⟨rfl, hb⟩
  have H1 := Lib.hid hb
  obtain ⟨⟨a0, a1, a2, a3, a4⟩, b0, b1, b2, b3, b4⟩ := HCE.out _ H1.out
  clear hb hw1
  go_wp2_with fail
  refine (HF1.out w1 H1.out).mono ?_
  rintro e w2 ⟨rfl, hb⟩
  clear a0 a1 a2 a3 a4 b0 b1 b2 b3 b4
  have H2 := Lib.hid (H1.out.trans (hb.mono H1.out.size))
  obtain ⟨⟨a0, a1, a2, a3, a4⟩, b0, b1, b2, b3, b4⟩ := HCE.out _ H2.out
  clear hb HF1
  cases hq : FewB a 5 && FewB b 5 with
  | false =>
    clear hq
    go_wp2_with fail
    go_ret
    exact ⟨rfl, HT.out _ H2.out⟩
  | true =>
    have HQ := Lib.hid hq
    clear hq
    have sa : a.size ≤ 5 := by have := HQ.out; simp only [Bool.and_eq_true] at this; have := FewB_size this.1; omega
    have sb : b.size ≤ 5 := by have := HQ.out; simp only [Bool.and_eq_true] at this; have := FewB_size this.2; omega
    have HS := Lib.hid (And.intro sa sb)
    have HLA := Lib.hid (fun W h => HLA0.out W h (by omega))
    have HLB := Lib.hid (fun W h => HLB0.out W h (by omega))
    have D1 := Lib.hid (fun W h => HD.out W h (by omega) (by omega))
    rw [dV_small (by omega) (by omega), dC_small (by omega) (by omega)] at D1
    have HCH := Lib.hid (fun (X Y : Option Addr) (cX cY : Nat) (W : World) (hX : KL W X cX a) (hY : KL W Y cY b) => cheapestW a b X Y cX cY W hX hY (by omega) (by omega))
    clear HD HLA0 HLB0 sa sb
    go_wp2_with fail
    refine (D1.out w2 H2.out).mono ?_
    rintro e w3 ⟨rfl, hb⟩
    clear a0 a1 a2 a3 a4 b0 b1 b2 b3 b4
    have h3 := H2.out.trans (hb.mono H2.out.size)
    obtain ⟨⟨a0, a1, a2, a3, a4⟩, b0, b1, b2, b3, b4⟩ := HCE.out _ h3
    clear hb
    go_wp2_with fail
    have HK := Lib.hid (show ∀ W, Below w0.heap.size w0 W → (Below w0.heap.size w0 W ∧ (W.cell? ⟨w.heap.size, 0, none⟩ = some (.int .i64 a.kind) ∧ W.cell? ⟨w.heap.size, 1, none⟩ = some (.string a.text) ∧ W.cell? ⟨w.heap.size, 2, none⟩ = some (.int .i64 a.pos) ∧ W.cell? ⟨w.heap.size, 3, none⟩ = some (.int .i64 a.fin) ∧ W.cell? ⟨w.heap.size, 4, none⟩ = some (.slice A a.kids.length cA)) ∧
        (W.cell? ⟨w.heap.size + 1, 0, none⟩ = some (.int .i64 b.kind) ∧ W.cell? ⟨w.heap.size + 1, 1, none⟩ = some (.string b.text) ∧ W.cell? ⟨w.heap.size + 1, 2, none⟩ = some (.int .i64 b.pos) ∧ W.cell? ⟨w.heap.size + 1, 3, none⟩ = some (.int .i64 b.fin) ∧ W.cell? ⟨w.heap.size + 1, 4, none⟩ = some (.slice B b.kids.length cB))) from fun W h => by
      obtain ⟨⟨a0, a1, a2, a3, a4⟩, b0, b1, b2, b3, b4⟩ := HCE.out W h
      exact ⟨h, ⟨a0, a1, a2, a3, a4⟩, b0, b1, b2, b3, b4⟩)
    clear a0 a1 a2 a3 a4 b0 b1 b2 b3 b4
    go_region_held3 (fun W => Below w0.heap.size w0 W ∧ (W.cell? ⟨w.heap.size, 0, none⟩ = some (.int .i64 a.kind) ∧ W.cell? ⟨w.heap.size, 1, none⟩ = some (.string a.text) ∧ W.cell? ⟨w.heap.size, 2, none⟩ = some (.int .i64 a.pos) ∧ W.cell? ⟨w.heap.size, 3, none⟩ = some (.int .i64 a.fin) ∧ W.cell? ⟨w.heap.size, 4, none⟩ = some (.slice A a.kids.length cA)) ∧
        (W.cell? ⟨w.heap.size + 1, 0, none⟩ = some (.int .i64 b.kind) ∧ W.cell? ⟨w.heap.size + 1, 1, none⟩ = some (.string b.text) ∧ W.cell? ⟨w.heap.size + 1, 2, none⟩ = some (.int .i64 b.pos) ∧ W.cell? ⟨w.heap.size + 1, 3, none⟩ = some (.int .i64 b.fin) ∧ W.cell? ⟨w.heap.size + 1, 4, none⟩ = some (.slice B b.kids.length cB)))
      (first | with_reducible exact HK.out _ h6 | with_reducible exact HK.out _ h5 | with_reducible exact HK.out _ h4 | with_reducible exact HK.out _ h3.drew)
      (first | (go_at_call 18; (with_reducible refine (HLA.out _ h3.drew).mono ?_); (rintro e w4 ⟨⟨X, cX, rfl, HX⟩, hb4⟩); (have h4 := trans_b h3.drew hb4)) | (go_at_call 18; (with_reducible refine (HLB.out _ h4).mono ?_); (rintro e w5 ⟨⟨Y, cY, rfl, HY⟩, hb5⟩); (have h5 := trans_b h4 hb5)) | (go_at_call 17; (with_reducible refine (HCH.out X Y cX cY _ (HX.out.below hb5) HY.out).mono ?_); (rintro e w6 ⟨rfl, hb6⟩); (have h6 := trans_b h5 hb6)))
    go_wp2_with fail
    go_ret
    exact ⟨by simp, HT.out _ h6⟩
end Go.Proofs.Ytjijfgkmjachnaa
