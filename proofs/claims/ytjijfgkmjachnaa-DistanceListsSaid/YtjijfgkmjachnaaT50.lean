import Derived.Test.YtjijfgkmjachnaaT49
namespace Go.Proofs.Ytjijfgkmjachnaa
set_option linter.unusedVariables false
set_option linter.unusedSimpArgs false
open Go.RowKit

set_option maxRecDepth 100000 in
set_option maxHeartbeats 2000000 in
theorem awake (w : World) : Calls Try.prog 10 #[] w fun e w' => e = .returned (.bool true) ∧ Below w.heap.size w w' := by
  go_enter Try.func10, Try.ntmps10
  go_wp2_with fail
  refine (name ⟨#[97]⟩ w).mono ?_
  rintro e w1 ⟨rfl, h1⟩
  go_wp2_with fail
  refine (name ⟨#[98]⟩ w1).mono ?_
  rintro e w2 ⟨rfl, h2⟩
  go_wp2_with fail
  refine (name ⟨#[99]⟩ w2).mono ?_
  rintro e w3 ⟨rfl, h3⟩
  go_wp2_with fail
  refine (binary ⟨#[42]⟩ (nmN ⟨#[98]⟩) (nmN ⟨#[99]⟩) none none 0 0 w3 (.nil _ _ _ rfl) (.nil _ _ _ rfl)).mono ?_
  rintro e w4 ⟨g4, rfl, r4, h4⟩
  have R4 := Lib.hid r4
  have H4 := Lib.hid (show Below w.heap.size w w4 from h1.trans ((h2.mono h1.size).trans ((h3.mono (Nat.le_trans h1.size h2.size)).trans (h4.mono (Nat.le_trans h1.size (Nat.le_trans h2.size h3.size))))))
  clear h1 h2 h3 h4 r4
  go_wp2_with fail
  refine (binary ⟨#[43]⟩ (nmN ⟨#[97]⟩) (binN ⟨#[42]⟩ (nmN ⟨#[98]⟩) (nmN ⟨#[99]⟩)) none (some ⟨g4, 0, none⟩) 0 2 w4 (.nil _ _ _ rfl) R4.out).mono ?_
  rintro e w5 ⟨g5, rfl, r5, h5⟩
  have R5 := Lib.hid r5
  have H5 := Lib.hid (H4.out.trans (h5.mono H4.out.size))
  clear r5 h5 R4 H4
  go_wp2_with fail
  refine (name ⟨#[97]⟩ w5).mono ?_
  rintro e w6 ⟨rfl, h6⟩
  go_wp2_with fail
  refine (name ⟨#[99]⟩ w6).mono ?_
  rintro e w7 ⟨rfl, h7⟩
  go_wp2_with fail
  refine (binary ⟨#[42]⟩ (nmN ⟨#[97]⟩) (nmN ⟨#[99]⟩) none none 0 0 w7 (.nil _ _ _ rfl) (.nil _ _ _ rfl)).mono ?_
  rintro e w8 ⟨g8, rfl, r8, h8⟩
  have RX := Lib.hid (show RN w8 tX (some ⟨g5, 0, none⟩) 2 from RN.keep (h6.trans ((h7.mono h6.size).trans (h8.mono (Nat.le_trans h6.size h7.size)))) R5.out)
  have RY := Lib.hid (show RN w8 tY (some ⟨g8, 0, none⟩) 2 from r8)
  have H8 := Lib.hid (H5.out.trans ((h6.trans ((h7.mono h6.size).trans (h8.mono (Nat.le_trans h6.size h7.size)))).mono H5.out.size))
  clear h6 h7 h8 r8 R5 H5
  rw [show binN ⟨#[43]⟩ (nmN ⟨#[97]⟩) (binN ⟨#[42]⟩ (nmN ⟨#[98]⟩) (nmN ⟨#[99]⟩)) = tX from rfl, show binN ⟨#[42]⟩ (nmN ⟨#[97]⟩) (nmN ⟨#[99]⟩) = tY from rfl]
  unfold Nd.val
  go_wp2_with fail
  obtain ⟨w9, hw9⟩ : ∃ w9, ((w8.alloc (.cells #[.int .i64 tX.kind, .string tX.text, .int .i64 tX.pos, .int .i64 tX.fin, .slice (some ⟨g5, 0, none⟩) tX.kids.length 2] 24)).alloc (.cells #[.int .i64 tY.kind, .string tY.text, .int .i64 tY.pos, .int .i64 tY.fin, .slice (some ⟨g8, 0, none⟩) tY.kids.length 2] 24)) = w9 := ⟨_, rfl⟩
  have hh0 : w9.heap[w8.heap.size]? = some (.cells (cells5 tX (some ⟨g5, 0, none⟩) 2).toArray 24 (0, 0)) := by
    rw [← hw9, Below.heap_alloc _ _ _ (by simp)]; exact heap_alloc_new _ _
  have hh1 : w9.heap[w8.heap.size + 1]? = some (.cells (cells5 tY (some ⟨g8, 0, none⟩) 2).toArray 24 (0, 0)) := by
    rw [← hw9]
    have := heap_alloc_new (w8.alloc (.cells (cells5 tX (some ⟨g5, 0, none⟩) 2).toArray 24)) (.cells (cells5 tY (some ⟨g8, 0, none⟩) 2).toArray 24)
    simpa [cells5] using this
  have hb9 : Below w8.heap.size w8 w9 := by rw [← hw9]; exact ((Below.refl _ _).alloc (Nat.le_refl _) _).alloc (by simp) _
  have hlt : w8.heap.size + 1 < w9.heap.size := (Array.getElem?_eq_some_iff.1 hh1).1
  have HC := Lib.hid (show ∀ W, Below w9.heap.size w9 W → At5 W w8.heap.size 0 tX (some ⟨g5, 0, none⟩) 2 ∧ At5 W (w8.heap.size + 1) 0 tY (some ⟨g8, 0, none⟩) 2 from fun W h => ⟨At5.keep (At5.of hh0) h (by omega), At5.keep (At5.of hh1) h hlt⟩)
  have HX := Lib.hid (show ∀ W, Below w9.heap.size w9 W → RN W tX (some ⟨g5, 0, none⟩) 2 from fun W h => RN.keep h (RN.keep hb9 RX.out))
  have HY := Lib.hid (show ∀ W, Below w9.heap.size w9 W → RN W tY (some ⟨g8, 0, none⟩) 2 from fun W h => RN.keep h (RN.keep hb9 RY.out))
  have HT := Lib.hid (show ∀ W, Below w9.heap.size w9 W → Below w.heap.size w W from fun W h => (H8.out.trans (hb9.mono H8.out.size)).trans (h.mono (Nat.le_trans H8.out.size hb9.size)))
  have HD := Lib.hid (fun W (h : Below w9.heap.size w9 W) => Distance tX tY (some ⟨g5, 0, none⟩) (some ⟨g8, 0, none⟩) 2 2 W (HX.out W h) (HY.out W h) (by rw [sX]; omega) (by rw [sY]; omega))
  have HWI := Lib.hid (fun W (h : Below w9.heap.size w9 W) => Within tX tY (some ⟨g5, 0, none⟩) (some ⟨g8, 0, none⟩) 2 2 3 W (HX.out W h) (HY.out W h) (by rw [sX]; omega) (by rw [sY]; omega))
  have HSU := Lib.hid (fun W (h : Below w9.heap.size w9 W) => Subtrees tX tY (some ⟨g5, 0, none⟩) (some ⟨g8, 0, none⟩) 2 2 W (HX.out W h) (HY.out W h) (by rw [sX]; omega) (by rw [sY]; omega))
  have HBO := Lib.hid (fun W (h : Below w9.heap.size w9 W) => Bound tX tY (some ⟨g5, 0, none⟩) (some ⟨g8, 0, none⟩) 2 2 W (HX.out W h) (HY.out W h) (by rw [sX]; omega) (by rw [sY]; omega) labWX labWY)
  have HNE := Lib.hid (fun W (h : Below w9.heap.size w9 W) (m : Nat) (hm : W.heap[m]? = some (.cells (cells5 tY (some ⟨g8, 0, none⟩) 2 ++ cells5 tX (some ⟨g5, 0, none⟩) 2).toArray 24 (0, 0))) => Nearest tX [tY, tX] (some ⟨g5, 0, none⟩) (some ⟨m, 0, none⟩) 2 2 W (HX.out W h) (RN.two (HY.out W h) (HX.out W h) hm) (by rw [sX]; omega) (by simp [sX, sY]) (by simp))
  have HMA := Lib.hid (fun W (h : Below w9.heap.size w9 W) (m : Nat) (hm : W.heap[m]? = some (.cells (cells5 tX (some ⟨g5, 0, none⟩) 2 ++ cells5 tY (some ⟨g8, 0, none⟩) 2).toArray 24 (0, 0))) => Matrix [tX, tY] (some ⟨m, 0, none⟩) 2 W (RN.two (HX.out W h) (HY.out W h) hm) (by simp [sX, sY]) (by simp))
  rw [dVXY, dCXY] at HD HWI
  rw [boundXY] at HBO
  rw [nearX] at HNE
  unfold Nd.val at HD HWI HSU HBO HNE
  have H9 := Lib.hid (Below.refl w9.heap.size w9)
  rw [hw9]
  clear hw9 hh0 hh1 hb9 hlt RX RY H8
  refine (HD.out w9 H9.out).mono ?_
  rintro e w10 ⟨rfl, hb⟩
  have H10 := Lib.hid (H9.out.trans (hb.mono H9.out.size))
  obtain ⟨⟨a0, a1, a2, a3, a4⟩, b0, b1, b2, b3, b4⟩ := HC.out _ H10.out
  clear hb
  go_wp2_with fail
  refine (name ⟨#[97]⟩ w10).mono ?_
  rintro e w11 ⟨rfl, hb⟩
  clear a0 a1 a2 a3 a4 b0 b1 b2 b3 b4
  have H11 := Lib.hid (H10.out.trans (hb.mono H10.out.size))
  obtain ⟨⟨a0, a1, a2, a3, a4⟩, b0, b1, b2, b3, b4⟩ := HC.out _ H11.out
  clear hb
  go_wp2_with fail
  refine (name ⟨#[98]⟩ w11).mono ?_
  rintro e w12 ⟨rfl, hb⟩
  clear a0 a1 a2 a3 a4 b0 b1 b2 b3 b4
  have H12 := Lib.hid (H11.out.trans (hb.mono H11.out.size))
  obtain ⟨⟨a0, a1, a2, a3, a4⟩, b0, b1, b2, b3, b4⟩ := HC.out _ H12.out
  clear hb
  go_wp2_with fail
  refine (binary ⟨#[43]⟩ (nmN ⟨#[97]⟩) (nmN ⟨#[98]⟩) none none 0 0 w12 (.nil _ _ _ rfl) (.nil _ _ _ rfl)).mono ?_
  rintro e w13 ⟨gP, rfl, rP, hb⟩
  clear a0 a1 a2 a3 a4 b0 b1 b2 b3 b4
  have RP := Lib.hid (show RN w13 tP (some ⟨gP, 0, none⟩) 2 from rP)
  clear rP
  have H13 := Lib.hid (H12.out.trans (hb.mono H12.out.size))
  obtain ⟨⟨a0, a1, a2, a3, a4⟩, b0, b1, b2, b3, b4⟩ := HC.out _ H13.out
  clear hb
  go_wp2_with fail
  refine (name ⟨#[98]⟩ w13).mono ?_
  rintro e w14 ⟨rfl, hb⟩
  clear a0 a1 a2 a3 a4 b0 b1 b2 b3 b4
  have H14 := Lib.hid (H13.out.trans (hb.mono H13.out.size))
  obtain ⟨⟨a0, a1, a2, a3, a4⟩, b0, b1, b2, b3, b4⟩ := HC.out _ H14.out
  have RP2 := Lib.hid (RN.keep hb RP.out)
  clear hb
  go_wp2_with fail
  refine (name ⟨#[97]⟩ w14).mono ?_
  rintro e w15 ⟨rfl, hb⟩
  clear a0 a1 a2 a3 a4 b0 b1 b2 b3 b4
  have H15 := Lib.hid (H14.out.trans (hb.mono H14.out.size))
  obtain ⟨⟨a0, a1, a2, a3, a4⟩, b0, b1, b2, b3, b4⟩ := HC.out _ H15.out
  have RP3 := Lib.hid (RN.keep hb RP2.out)
  clear hb
  go_wp2_with fail
  refine (binary ⟨#[43]⟩ (nmN ⟨#[98]⟩) (nmN ⟨#[97]⟩) none none 0 0 w15 (.nil _ _ _ rfl) (.nil _ _ _ rfl)).mono ?_
  rintro e w16 ⟨gQ, rfl, rQ, hb⟩
  clear a0 a1 a2 a3 a4 b0 b1 b2 b3 b4
  have H16 := Lib.hid (H15.out.trans (hb.mono H15.out.size))
  obtain ⟨⟨a0, a1, a2, a3, a4⟩, b0, b1, b2, b3, b4⟩ := HC.out _ H16.out
  have hD := Distance tP tQ (some ⟨gP, 0, none⟩) (some ⟨gQ, 0, none⟩) 2 2 w16 (RN.keep hb RP3.out) rQ (by rw [sP']; omega) (by rw [sQ']; omega)
  rw [dVPQ, dCPQ] at hD
  unfold Nd.val at hD
  have HDP := Lib.hid hD
  clear hb hD rQ
  unfold Nd.val
  go_wp2_with fail
  refine HDP.out.mono ?_
  rintro e w17 ⟨rfl, hb⟩
  clear a0 a1 a2 a3 a4 b0 b1 b2 b3 b4
  have H17 := Lib.hid (H16.out.trans (hb.mono H16.out.size))
  obtain ⟨⟨a0, a1, a2, a3, a4⟩, b0, b1, b2, b3, b4⟩ := HC.out _ H17.out
  clear hb
  go_wp2_with fail
  refine (HWI.out w17 H17.out).mono ?_
  rintro e w18 ⟨rfl, hb⟩
  clear a0 a1 a2 a3 a4 b0 b1 b2 b3 b4
  have H18 := Lib.hid (H17.out.trans (hb.mono H17.out.size))
  obtain ⟨⟨a0, a1, a2, a3, a4⟩, b0, b1, b2, b3, b4⟩ := HC.out _ H18.out
  clear hb
  rw [show (decide True && decide ((3 : Int) ≤ 3)) = true by decide]
  go_wp2_with fail
  refine (HNE.out _ (H18.out.alloc H18.out.size _) w18.heap.size ?_).mono ?_
  · have := heap_alloc_new w18 (.cells (cells5 tY (some ⟨g8, 0, none⟩) 2 ++ cells5 tX (some ⟨g5, 0, none⟩) 2).toArray 24)
    simpa [cells5] using this
  rintro e w19 ⟨rfl, hb⟩
  clear a0 a1 a2 a3 a4 b0 b1 b2 b3 b4
  have H19 := Lib.hid ((H18.out.alloc H18.out.size _).trans (hb.mono (H18.out.alloc H18.out.size _).size))
  obtain ⟨⟨a0, a1, a2, a3, a4⟩, b0, b1, b2, b3, b4⟩ := HC.out _ H19.out
  clear hb
  go_wp2_with fail
  refine (HMA.out _ (H19.out.alloc H19.out.size _) w19.heap.size ?_).mono ?_
  · have := heap_alloc_new w19 (.cells (cells5 tX (some ⟨g5, 0, none⟩) 2 ++ cells5 tY (some ⟨g8, 0, none⟩) 2).toArray 24)
    simpa [cells5] using this
  rintro e w20 ⟨hr, hb⟩
  clear a0 a1 a2 a3 a4 b0 b1 b2 b3 b4
  obtain ⟨_, gm, bm, rfl, hT⟩ := hr.resolve_left (fun h => by rw [bigXY] at h; cases h.1)
  have HTM := Lib.hid hT
  have H20 := Lib.hid ((H19.out.alloc H19.out.size _).trans (hb.mono (H19.out.alloc H19.out.size _).size))
  obtain ⟨⟨a0, a1, a2, a3, a4⟩, b0, b1, b2, b3, b4⟩ := HC.out _ H20.out
  clear hb hT hr
  go_wp2_with fail
  refine (HSU.out _ H20.out).mono ?_
  rintro e w21 ⟨hr, hb⟩
  clear a0 a1 a2 a3 a4 b0 b1 b2 b3 b4
  obtain ⟨_, gs, bs, T, rfl, hT, hS⟩ := hr.resolve_left (fun h => by rw [bigXY] at h; cases h.1)
  have z0 := hT.outer 4 (by rw [sX]; omega)
  have z1 := hT.inner 4 2 (by rw [sX]; omega) (by rw [sY]; omega)
  rw [subXY hS] at z1
  have y0 := (hb.cell (World.block_lt_of_cell? w20 _ (HTM.out.outer 1 (by simp)))).trans (HTM.out.outer 1 (by simp))
  have y1 := (hb.cell (World.block_lt_of_cell? w20 _ (HTM.out.inner 1 0 (by simp) (by simp)))).trans (HTM.out.inner 1 0 (by simp) (by simp))
  rw [mxXY] at y1
  have H21 := Lib.hid (H20.out.trans (hb.mono H20.out.size))
  obtain ⟨⟨a0, a1, a2, a3, a4⟩, b0, b1, b2, b3, b4⟩ := HC.out _ H21.out
  clear hb hT hS hr
  have e5 := sX
  have e3 := sY
  rw [e3] at z0
  rw [e5]
  simp only [List.length_cons, List.length_nil, Nat.zero_add, Nat.reduceAdd] at y0 y1 ⊢
  clear e5 e3
  go_wp2_with fail
  refine (HBO.out w21 H21.out).mono ?_
  rintro e w22 ⟨rfl, hb⟩
  have H22 := Lib.hid (H21.out.trans (hb.mono H21.out.size))
  clear hb
  go_wp2_with fail
  go_ret
  exact ⟨rfl, HT.out _ H22.out⟩
end Go.Proofs.Ytjijfgkmjachnaa
