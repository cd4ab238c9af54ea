import Derived.Test.YtjijfgkmjachnaaT37
namespace Go.Proofs.Ytjijfgkmjachnaa
set_option linter.unusedVariables false
set_option linter.unusedSimpArgs false
open Go.RowKit

def SubT (a b : Nd) (T : Nat → Nat → Int) : Prop :=
  ∀ i k, i < a.size → k < b.size → T (nm (post a 0 0) i) (nm (post b 0 0) k) = td (nd (post a 0 0) i) (nd (post b 0 0) k)

set_option maxRecDepth 100000 in
set_option maxHeartbeats 600000 in
theorem subtrees (a b : Nd) (A B : Option Addr) (cA cB : Nat) (w : World) (hA : RN w a A cA) (hB : RN w b B cB) (ha : a.size ≤ 1000000) (hb : b.size ≤ 1000000) :
    Calls Try.prog 30 #[a.val A cA, b.val B cB] w fun e w' => ∃ g bs T, e = .returned (.slice (some ⟨g, 0, none⟩) a.size a.size) ∧ Tab w' w.heap.size g bs a.size b.size T ∧ SubT a b T ∧ Below w.heap.size w w' := by
  obtain ⟨w0, hw0⟩ : ∃ w0, ((w.alloc (.cells #[.int .i64 a.kind, .string a.text, .int .i64 a.pos, .int .i64 a.fin, .slice A a.kids.length cA] 24)).alloc (.cells #[.int .i64 b.kind, .string b.text, .int .i64 b.pos, .int .i64 b.fin, .slice B b.kids.length cB] 24)) = w0 := ⟨_, rfl⟩
  have hbw : Below w.heap.size w w0 := by rw [← hw0]; exact ((Below.refl _ _).alloc (Nat.le_refl _) _).alloc (by simp) _
  have hsz : w0.heap.size = w.heap.size + 2 := by rw [← hw0]; simp
  have ok : X30.Ok ⟨a, b, A, B, cA, cB, w.heap.size, w.heap.size + 1, w0⟩ := by
    have h1 : w0.heap[w.heap.size + 1]? = some (.cells #[.int .i64 b.kind, .string b.text, .int .i64 b.pos, .int .i64 b.fin, .slice B b.kids.length cB] 24 (0, 0)) := by
      rw [← hw0]
      have := heap_alloc_new (w.alloc (.cells #[.int .i64 a.kind, .string a.text, .int .i64 a.pos, .int .i64 a.fin, .slice A a.kids.length cA] 24)) (.cells #[.int .i64 b.kind, .string b.text, .int .i64 b.pos, .int .i64 b.fin, .slice B b.kids.length cB] 24)
      simpa using this
    have h0 : w0.heap[w.heap.size]? = some (.cells #[.int .i64 a.kind, .string a.text, .int .i64 a.pos, .int .i64 a.fin, .slice A a.kids.length cA] 24 (0, 0)) := by
      rw [← hw0, Below.heap_alloc _ _ _ (by simp)]
      exact heap_alloc_new _ _
    refine ⟨⟨?_, ?_, ?_, ?_, ?_⟩, ⟨?_, ?_, ?_, ?_, ?_⟩, RN.keep hbw hA, RN.keep hbw hB, ha, hb⟩ <;> simp [World.cell?, h0, h1]
  have OK := Lib.hid ok
  have HBW := Lib.hid hbw
  have HSZ := Lib.hid hsz
  clear ok hbw hsz hA hB
  unfold Nd.val
  go_enter Try.func30, Try.ntmps30
  go_wp2_with fail
  refine region30 ⟨a, b, A, B, cA, cB, w.heap.size, w.heap.size + 1, w0⟩ OK.out (.agg #[.int .i64 a.kind, .string a.text, .int .i64 a.pos, .int .i64 a.fin, .slice A a.kids.length cA]) (.agg #[.int .i64 b.kind, .string b.text, .int .i64 b.pos, .int .i64 b.fin, .slice B b.kids.length cB]) _ _ _ ?h0 ?hend
  case h0 =>
    refine ⟨_, _, _, _, _, _, rfl, ⟨(Below.refl _ w0).drew, ?_, ?_, ?_, ?_, ?_, ?_, ?_, ?_, ?_⟩⟩ <;> intro e <;> exact absurd e (by simp [Array.getD])
  intro L a' W hI hall
  obtain ⟨v5, v6, v18, v19, v20, v21, rfl, h⟩ := hI
  obtain ⟨b5, rfl, l5, h5⟩ := h.f4 (hall 4 (by omega))
  obtain ⟨b6, rfl, l6, h6⟩ := h.f5 (hall 5 (by omega))
  rw [hall 6 (by omega)] at h5
  rw [hall 7 (by omega)] at h6
  obtain ⟨gL, gF, gN, cL, cF, cN, rfl, FA⟩ := h.f1 (hall 1 (by omega))
  obtain ⟨gL', gF', gN', cL', cF', cN', rfl, FB⟩ := h.f3 (hall 3 (by omega))
  obtain ⟨x0, x1, x2, e5, h5⟩ := (h5.resolve_left (fun h => by cases h.1)).2
  obtain ⟨y0, y1, y2, e6, h6⟩ := (h6.resolve_left (fun h => by cases h.1)).2
  simp only [Value.agg.injEq, Array.mk.injEq, List.cons.injEq, and_true] at e5 e6
  obtain ⟨rfl, rfl, rfl⟩ := e5
  obtain ⟨rfl, rfl, rfl⟩ := e6
  dsimp only at l5 l6 FA FB h5 h6
  have hq := h.bel
  dsimp only at hq
  have hbel : Below w.heap.size w W := HBW.out.trans (hq.mono (by have := HSZ.out; omega))
  have hlow : w.heap.size ≤ b5 ∧ w.heap.size ≤ b6 := by have := HSZ.out; exact ⟨by omega, by omega⟩
  have c50 : W.cell? ⟨b5, 0, none⟩ = some (.slice (some ⟨gL, 0, none⟩) a.size cL) := by simp [World.cell?, h5]
  have c51 : W.cell? ⟨b5, 1, none⟩ = some (.slice (some ⟨gF, 0, none⟩) a.size cF) := by simp [World.cell?, h5]
  have c52 : W.cell? ⟨b5, 2, none⟩ = some (.slice (some ⟨gN, 0, none⟩) a.size cN) := by simp [World.cell?, h5]
  have c60 : W.cell? ⟨b6, 0, none⟩ = some (.slice (some ⟨gL', 0, none⟩) b.size cL') := by simp [World.cell?, h6]
  have c61 : W.cell? ⟨b6, 1, none⟩ = some (.slice (some ⟨gF', 0, none⟩) b.size cF') := by simp [World.cell?, h6]
  have c62 : W.cell? ⟨b6, 2, none⟩ = some (.slice (some ⟨gN', 0, none⟩) b.size cN') := by simp [World.cell?, h6]
  have bl := World.block_lt_of_cell? W
  have hpa := a.size_pos
  have hpb := b.size_pos
  have sx : SX ⟨a, b, b5, b6, gL, gF, gN, gL', gF', gN', cL, cF, cN, cL', cF', cN', W.heap.size⟩ W :=
    ⟨c50, c51, c52, c60, c61, c62, FA, FB, ⟨bl _ c50, bl _ c60, bl _ (FA.lab0 0 hpa), bl _ (FA.lef 0 hpa), bl _ (FA.num 0 hpa), bl _ (FB.lab0 0 hpb), bl _ (FB.lef 0 hpb), bl _ (FB.num 0 hpb)⟩, Nat.le_refl _⟩
  have hwW : w.heap.size ≤ W.heap.size := hbel.size
  clear hq h h5 h6 hall l5 l6 OK HBW HSZ FA FB bl
  clear h5 h6 hw0
  obtain ⟨P, hP⟩ : ∃ P : Par, P = ⟨a, b, b5, b6, gL, gF, gN, gL', gF', gN', cL, cF, cN, cL', cF', cN', W.heap.size⟩ := ⟨_, rfl⟩
  have EA := Lib.hid (show a = P.a by rw [hP])
  have EB := Lib.hid (show b = P.b by rw [hP])
  have HSX := Lib.hid sx
  rw [← hP] at HSX
  have HBL := Lib.hid hbel
  have HP := Lib.hid hP
  clear hbel sx hP hpa hpb hlow
  unfold frm30
  dsimp only
  go_wp2_with fail
  refine (tableMake a.size b.size W (by omega) (by omega)).mono ?_
  rintro e W1 ⟨rfl, htab, hb1, hs1⟩
  have sx1 := (HSX.out).keep (S := fun _ => False) (Keeps.of_below hb1) (fun _ h => h.elim)
  have HT := Lib.hid htab
  have HS1 := Lib.hid hs1
  have HB1 := Lib.hid hb1
  have HSX1 := Lib.hid sx1
  clear HSX htab hs1 hb1 sx1 c50 c51 c52 c60 c61 c62
  have d50 : W1.cell? ⟨b5, 0, none⟩ = some (.slice (some ⟨gL, 0, none⟩) a.size cL) := by have := HSX1.out.c50; rw [HP.out] at this; exact this
  have d51 : W1.cell? ⟨b5, 1, none⟩ = some (.slice (some ⟨gF, 0, none⟩) a.size cF) := by have := HSX1.out.c51; rw [HP.out] at this; exact this
  have d52 : W1.cell? ⟨b5, 2, none⟩ = some (.slice (some ⟨gN, 0, none⟩) a.size cN) := by have := HSX1.out.c52; rw [HP.out] at this; exact this
  have d60 : W1.cell? ⟨b6, 0, none⟩ = some (.slice (some ⟨gL', 0, none⟩) b.size cL') := by have := HSX1.out.c60; rw [HP.out] at this; exact this
  have d61 : W1.cell? ⟨b6, 1, none⟩ = some (.slice (some ⟨gF', 0, none⟩) b.size cF') := by have := HSX1.out.c61; rw [HP.out] at this; exact this
  have d62 : W1.cell? ⟨b6, 2, none⟩ = some (.slice (some ⟨gN', 0, none⟩) b.size cN') := by have := HSX1.out.c62; rw [HP.out] at this; exact this
  go_wp2_with fail
  refine (filler _ _ _ _ _ _ _ _ _ W1).mono ?_
  rintro e W2 ⟨rfl, rfl⟩
  obtain ⟨W2, hW2⟩ : ∃ W2, (((W1.alloc (.cells #[.slice (some ⟨gL, 0, none⟩) a.size cL, .slice (some ⟨gF, 0, none⟩) a.size cF, .slice (some ⟨gN, 0, none⟩) a.size cN] 66)).alloc (.cells #[.slice (some ⟨gL', 0, none⟩) b.size cL', .slice (some ⟨gF', 0, none⟩) b.size cF', .slice (some ⟨gN', 0, none⟩) b.size cN'] 66)).alloc (.cells #[.slice (some ⟨W.heap.size, 0, none⟩) a.size a.size] 30)) = W2 := ⟨_, rfl⟩
  have bx2 : BX P W2 (fun _ _ => 0) := by
    have h := BX.start HSX1.out (by have := HT.out; rw [HP.out]; exact this) (by rw [HS1.out, HP.out]; rfl)
    rw [← hW2]
    rw [HP.out] at h ⊢
    exact h
  have hbw2 : Below w.heap.size w W2 := by
    have h1 := HBL.out.trans (HB1.out.mono HBL.out.size)
    have hz := h1.size
    rw [← hW2]
    exact ((h1.alloc hz _).alloc (by simp; omega) _).alloc (by simp; omega) _
  have HQ := Lib.hid (show W1.heap.size = P.q by rw [HS1.out, HP.out]; rfl)
  have HBX := Lib.hid bx2
  have HB2 := Lib.hid hbw2
  rw [hW2, HQ.out]
  clear hW2 bx2 hbw2 HT HS1 HB1 HSX1 HBL d50 d51 d52 d60 d61 d62
  obtain ⟨e50, e51, e52, e60, e61, e62, fa, _⟩ := HBX.out.sx.at HP.out
  have HFA := Lib.hid fa
  clear fa
  go_wp2_with fail
  refine (roots (post a 0 0) a.size ha W2 gL gF gN cL cF cN HFA.out (lf_small a ha)).mono ?_
  rintro e W3 ⟨v, R, rfl, hI, hR, hb3⟩
  obtain ⟨vA, vc, rfl, _⟩ := hI.val
  have HI := Lib.hid hI
  have HR := Lib.hid (show IsRoots P.xs P.xs.length R by rw [HP.out]; show IsRoots (post a 0 0) (post a 0 0).length R; rw [post_len]; exact hR)
  have HB3 := Lib.hid (HB2.out.trans (hb3.mono HB2.out.size))
  have HBX3 := Lib.hid (HBX.out.below hb3)
  have HZ := Lib.hid HBX.out.sz
  clear hI hR hb3 HBX HB2 e50 e51 e52 e60 e61 e62 HFA
  go_wp2_with fail
  have hrl : R.length ≤ 1000000 := by have := roots_len HR.out; rw [post_len, ← EA.out] at this; omega
  go_loopw [36] (fun s wr => ∃ (r : Nat) (D : Nat → Nat → Int), s = .int .i64 r ∧ r ≤ R.length ∧ BX P wr D ∧ DoneO P.xs P.ys R r D ∧ Ints wr (P.q + 3) (.slice vA R.length vc) R ∧ Below w.heap.size w wr)
    (fun s _ => R.length - (intOf s).toNat)
  case atStart =>
    exact ⟨0, _, rfl, Nat.zero_le _, HBX3.out, (fun s t hs ht ⟨j, hj, _⟩ => by omega), HI.out.mono HZ.out, HB3.out⟩
  case round =>
    obtain ⟨r, D, rfl, hr, hbx, hO, hI, hbl⟩ := hrel
    by_cases hlt : r < R.length
    · obtain ⟨vA', vc', ev, hv⟩ := hI.val
      obtain ⟨rfl, rfl⟩ : vA = vA' ∧ vc = vc' := by simpa using ev
      obtain ⟨gR, rfl, hgR, hcR⟩ := hv.resolve_left (fun h => by rw [h] at hlt; simp at hlt)
      have hrs := (rx_spec (xs := P.xs) (R := R) HR.out hlt)
      have hcr := hcR r hlt
      rw [hrs.1] at hcr
      have hrn : (r : Int) < R.length := by omega
      obtain ⟨e50, e51, e52, e60, e61, e62, _, fb⟩ := hbx.sx.at HP.out
      have HFB := Lib.hid fb
      have HBX := Lib.hid hbx
      have HO := Lib.hid hO
      have HII := Lib.hid hI
      have HBL := Lib.hid hbl
      have HRS := Lib.hid hrs
      clear hrs hbx hO hI hbl fb hcR hv ev hgR
      go_wp2_with fail
      refine (roots (post b 0 0) b.size hb wr gL' gF' gN' cL' cF' cN' HFB.out (lf_small b hb)).mono ?_
      rintro e W4 ⟨v, S, rfl, hI4, hR4, hb4⟩
      obtain ⟨sA, sc, rfl, hsv⟩ := hI4.val
      have HI4 := Lib.hid hI4
      have HS := Lib.hid (show IsRoots P.ys P.ys.length S by rw [HP.out]; show IsRoots (post b 0 0) (post b 0 0).length S; rw [post_len]; exact hR4)
      have HB4 := Lib.hid (HBL.out.trans (hb4.mono HBL.out.size))
      have HBX4 := Lib.hid (HBX.out.below hb4)
      have HII4 := Lib.hid (HII.out.below hb4)
      have HZ4 := Lib.hid HBX.out.sz
      have HW4 := Lib.hid hb4.size
      clear hI4 hR4 hb4 HBX HBL HII e50 e51 e52 e60 e61 e62 HFB hsv
      go_wp2_with fail
      have hsl : S.length ≤ 1000000 := by have := roots_len HS.out; rw [post_len, ← EB.out] at this; omega
      go_loopw [43] (fun s wr => ∃ (q : Nat) (D : Nat → Nat → Int), s = .int .i64 q ∧ q ≤ S.length ∧ BX P wr D ∧ DoneO P.xs P.ys R r D ∧ DoneI P.xs P.ys S (rx R r) q D ∧ Ints wr (P.q + 3) (.slice (some ⟨gR, 0, none⟩) R.length vc) R ∧ Ints wr (P.q + 3) (.slice sA S.length sc) S ∧ Below w.heap.size w wr)
        (fun s _ => S.length - (intOf s).toNat)
      case atStart =>
        exact ⟨0, _, rfl, Nat.zero_le _, HBX4.out, HO.out, (fun s t hs ht _ ⟨j, hj, _⟩ => by omega), HII4.out, HI4.out.mono HZ4.out, HB4.out⟩
      case round =>
        obtain ⟨q, D2, rfl, hq, hbx, hO, hI2, hI, hS, hbl⟩ := hrel
        by_cases hqt : q < S.length
        · obtain ⟨sA', sc', ev, hv⟩ := hS.val
          obtain ⟨rfl, rfl⟩ : sA = sA' ∧ sc = sc' := by simpa using ev
          obtain ⟨gS, rfl, hgS, hcS⟩ := hv.resolve_left (fun h => by rw [h] at hqt; simp at hqt)
          have hqs := (rx_spec (xs := P.ys) (R := S) HS.out hqt)
          have hcq := hcS q hqt
          rw [hqs.1] at hcq
          have hqn : (q : Int) < S.length := by omega
          have HC := Lib.hid (BX.fillAt hbx (by rw [← EA.out]; exact ha) (by rw [← EB.out]; exact hb) (R := R) (S := S) (by rw [← post_len P.a 0 0]; exact HR.out) (by rw [← post_len P.b 0 0]; exact HS.out) hlt hqt hO hI2)
          have HK := Lib.hid hI
          have HKS := Lib.hid hS
          have HBL := Lib.hid hbl
          clear hqs hbx hO hI2 hI hbl hcS hv ev hgS hS
          go_wp2_with fail
          refine HC.out.mono ?_
          rintro e W5 ⟨rfl, D3, b1, b2, b3, b4⟩
          have HR5 := Lib.hid (show BX P W5 D3 ∧ DoneO P.xs P.ys R r D3 ∧ DoneI P.xs P.ys S (rx R r) (q + 1) D3 from ⟨b1, b2, b3⟩)
          have HK5 := Lib.hid (HK.out.keep b4 (fun k ⟨s, _, e⟩ => by simp only [Par.q]; omega))
          have HKS5 := Lib.hid (HKS.out.keep b4 (fun k ⟨s, _, e⟩ => by simp only [Par.q]; omega))
          have HL5 := Lib.hid (HBL.out.trans (b4.below HBL.out.size (fun k ⟨s, _, e⟩ => by rw [HP.out] at e; simp only at e; omega)))
          clear b1 b2 b3 b4
          go_wp2_with fail
          go_roundw
          case rel => exact ⟨q + 1, D3, by go_num, by omega, HR5.out.1, HR5.out.2.1, HR5.out.2.2, HK5.out, HKS5.out, HL5.out⟩
          case measure => simp [intOf]; omega
        · obtain rfl : q = S.length := by omega
          have HR5 := Lib.hid (show BX P wr D2 ∧ DoneO P.xs P.ys R (r + 1) D2 from ⟨hbx, inner_end HS.out hO hI2⟩)
          have HK := Lib.hid hI
          have HBL := Lib.hid hbl
          clear hbx hO hI2 hI hbl hS
          go_wp2_with fail
          go_roundw
          case rel => exact ⟨r + 1, D2, by go_num, by omega, HR5.out.1, HR5.out.2, HK.out, HBL.out⟩
          case measure => simp [intOf]; omega
    · obtain rfl : r = R.length := by omega
      have HBX := Lib.hid hbx
      have HD := Lib.hid (fun (s t : Nat) (hs : s < a.size) (ht : t < b.size) => outer_end (xs := P.xs) (ys := P.ys) HR.out hO (s := s) (t := t) (by rw [post_len, ← EA.out]; exact hs) (by rw [post_len, ← EB.out]; exact ht))
      obtain ⟨e50, e51, e52, e60, e61, e62, fa, fb⟩ := hbx.sx.at HP.out
      have HFA := Lib.hid fa
      have HFB := Lib.hid fb
      have HBL := Lib.hid hbl
      clear hbx hO hI hbl fa fb
      go_wp2_with fail
      refine (tableMake a.size b.size wr (by omega) (by omega)).mono ?_
      rintro e W5 ⟨rfl, htab, hb5, hs5⟩
      have HT := Lib.hid htab
      have HBX5 := Lib.hid (HBX.out.below hb5)
      have HB5 := Lib.hid (HBL.out.trans (hb5.mono HBL.out.size))
      have hwr := HBL.out.size
      have HZr := Lib.hid HBX.out.sz
      clear htab hb5 hs5 e50 e51 e52 e60 e61 e62 HFA HFB HBX HBL
      go_wp2_with fail
      obtain ⟨G, hG⟩ : ∃ G, wr.heap.size = G := ⟨_, rfl⟩
      rw [hG] at HT hwr HZr ⊢
      clear hG
      go_loopw [62] (fun s wz => ∃ (i : Nat) (T : Nat → Nat → Int), s = .int .i64 i ∧ i ≤ a.size ∧ BX P wz D ∧ Tab wz G G (fun i => G + 1 + i) a.size b.size T ∧
          (∀ i' k', i' < i → k' < b.size → T (nm (post a 0 0) i') (nm (post b 0 0) k') = D i' k') ∧ Below w.heap.size w wz)
        (fun s _ => a.size - (intOf s).toNat)
      case atStart =>
        exact ⟨0, _, rfl, Nat.zero_le _, HBX5.out, HT.out, (fun i' k' h => by omega), HB5.out⟩
      case round =>
        obtain ⟨i, T, rfl, hi, hbx, hT, hd, hbl⟩ := hrel
        by_cases hia : i < a.size
        · have hin : (i : Int) < a.size := by omega
          have z0 := hbx.tab.outer i (by rw [← EA.out]; exact hia)
          rw [HP.out] at z0
          dsimp only at z0
          have HBX := Lib.hid hbx
          have HTT := Lib.hid hT
          have HDD := Lib.hid hd
          have HBL := Lib.hid hbl
          clear hbx hT hd hbl
          go_wp2_with fail
          clear z0
          go_loopw [69] (fun s wz => ∃ (k : Nat) (T : Nat → Nat → Int), s = .int .i64 k ∧ k ≤ b.size ∧ BX P wz D ∧ Tab wz G G (fun i => G + 1 + i) a.size b.size T ∧
              (∀ i' k', (i' < i ∧ k' < b.size) ∨ (i' = i ∧ k' < k) → T (nm (post a 0 0) i') (nm (post b 0 0) k') = D i' k') ∧ Below w.heap.size w wz)
            (fun s _ => b.size - (intOf s).toNat)
          case atStart =>
            exact ⟨0, T, rfl, Nat.zero_le _, HBX.out, HTT.out, (fun i' k' h => by rcases h with h | h; exact HDD.out i' k' h.1 h.2; omega), HBL.out⟩
          case round =>
            clear HBX HTT HDD HBL
            obtain ⟨k, T2, rfl, hk, hbx, hT, hd, hbl⟩ := hrel
            by_cases hkb : k < b.size
            · have hkn : (k : Int) < b.size := by omega
              have ni := nm_lt a i hia
              have nk := nm_lt b k hkb
              have z0 := hbx.tab.inner i k (by rw [← EA.out]; exact hia) (by rw [← EB.out]; exact hkb)
              rw [HP.out] at z0
              dsimp only at z0
              obtain ⟨_, _, z1, _, _, z2, fa, fb⟩ := hbx.sx.at HP.out
              have z3 := fa.num i hia
              have z4 := fb.num k hkb
              have z5 := hT.outer _ ni
              have z6 := hT.inner _ _ ni nk
              have z7 := hT.free _ _ ni nk
              obtain ⟨ii, hii⟩ : ∃ ii, nm (post a 0 0) i = ii := ⟨_, rfl⟩
              obtain ⟨kk, hkk⟩ : ∃ kk, nm (post b 0 0) k = kk := ⟨_, rfl⟩
              rw [hii] at z3 z5 z6 z7 ni
              rw [hkk] at z4 z6 z7 nk
              have ni' : (ii : Int) < a.size := by omega
              have nk' : (kk : Int) < b.size := by omega
              obtain ⟨rb, hrb⟩ : ∃ rb, G + 1 + ii = rb := ⟨_, rfl⟩
              rw [hrb] at z5 z6 z7
              have HII := Lib.hid hii
              have HKK := Lib.hid hkk
              have HRB := Lib.hid hrb
              have HBX := Lib.hid hbx
              have HTT := Lib.hid hT
              have HDD := Lib.hid hd
              have HBL := Lib.hid hbl
              clear hbx hT hd hbl fa fb hii hkk hrb
              go_wp2_with fail
              go_still_tail 15, (by kernel_rfl)
              go_wp2_with fail
              go_roundw
              case rel =>
                have hrb := HRB.out
                have hii := HII.out
                have hkk := HKK.out
                have hzr := HZr.out
                refine ⟨k + 1, upd T2 ii kk (D i k), by go_num, by omega, ?_, ?_, fun i' k' h => ?_, ?_⟩
                · exact HBX.out.keepHi (S := fun b => b = rb) ((Keeps.refl (fun b => b = rb) _).setCell (p := ⟨rb, kk, none⟩) (.inl rfl) _).drew (fun b hb => by rw [hb]; omega)
                · have := (HTT.out.set ni nk (D i k)).drewN 1
                  rw [← hrb]
                  exact this
                · by_cases he : i' = i ∧ k' = k
                  · obtain ⟨rfl, rfl⟩ := he
                    rw [hii, hkk]
                    exact upd_same _ _ _ _
                  · have hlt : i' < a.size ∧ k' < b.size := by rcases h with h | h <;> exact ⟨by omega, by omega⟩
                    rw [upd_other]
                    · exact HDD.out i' k' (by omega)
                    · rintro ⟨h1, h2⟩
                      rw [← hii] at h1
                      rw [← hkk] at h2
                      exact he ⟨nm_inj a _ _ hlt.1 hia h1, nm_inj b _ _ hlt.2 hkb h2⟩
                · exact (HBL.out.setCell (p := ⟨rb, kk, none⟩) (by show w.heap.size ≤ rb; omega) _).drew
              case measure => simp [intOf]; omega
            · obtain rfl : k = b.size := by omega
              have HBX := Lib.hid hbx
              have HTT := Lib.hid hT
              have HDD := Lib.hid hd
              have HBL := Lib.hid hbl
              clear hbx hT hd hbl
              go_wp2_with fail
              go_roundw
              case rel => exact ⟨i + 1, T2, by go_num, by omega, HBX.out, HTT.out, fun i' k' h1 h2 => HDD.out i' k' (by omega), HBL.out⟩
              case measure => simp [intOf]; omega
        · obtain rfl : i = a.size := by omega
          have HTT := Lib.hid hT
          have HDD := Lib.hid hd
          have HBL := Lib.hid hbl
          clear hbx hT hd hbl
          go_wp2_with fail
          go_ret
          refine ⟨G, (fun i => G + 1 + i), T, rfl, ?_, fun i k hi hk => ?_, HBL.out⟩
          · have h := HTT.out
            exact ⟨h.outer, h.inner, h.free, h.inj, h.ne, fun i hi => ⟨by have := (h.lo i hi).1; omega, (h.lo i hi).2⟩, ⟨by have := h.glo.1; omega, h.glo.2⟩⟩
          · rw [HDD.out i k hi hk, HD.out i k hi hk]
            have ea := EA.out
            have eb := EB.out
            show ((td (nd (post P.a 0 0) i) (nd (post P.b 0 0) k) : Nat) : Int) = _
            rw [← ea, ← eb]
end Go.Proofs.Ytjijfgkmjachnaa
