/- Seat 37, texts merged: the walk of awake, and plain facts on Bound. Lemmas for the laws of chapter 37; no conditions of their own beyond what each states. -/
import Derived.Test.YtjijfgkmjachnaaC7
import Derived.Test.YtjijfgkmjachnaaC6
import Derived.Test.YtjijfgkmjachnaaC4
import Derived.Test.YtjijfgkmjachnaaC1
namespace Go.Proofs.Ytjijfgkmjachnaa
set_option linter.unusedVariables false
set_option linter.unusedSimpArgs false
open Go.RowKit

def nmN (s : ByteArray) : Nd := .mk 20 s 0 0 []
def binN (s : ByteArray) (x y : Nd) : Nd := .mk 29 s 0 0 [x, y]

theorem name (s : ByteArray) (w : World) : Calls Try.prog 27 #[.string s] w fun e w' => e = .returned ((nmN s).val none 0) ∧ Below w.heap.size w w' := by
  have h := At5.of (W := w.alloc (.cells (cells5 (nmN s) none 0).toArray 24)) (heap_alloc_new w _)
  have h2 : At5 (w.alloc (.cells #[.int .i64 20, .string s, .int .i64 0, .int .i64 0, .slice none 0 0] 24)) w.heap.size 0 (nmN s) none 0 := h
  have HB := Lib.hid ((Below.refl w.heap.size w).alloc (Nat.le_refl _) (.cells #[.int .i64 20, .string s, .int .i64 0, .int .i64 0, .slice none 0 0] 24))
  obtain ⟨c0, c1, c2, c3, c4⟩ := h2
  clear h
  go_enter Try.func27, Try.ntmps27
  go_wp2_with fail
  refine bodyPost_ret (v := (nmN s).val none 0) (by simp [results, Try.results27, go_sem, c0, c1, c2, c3, c4, Nd.val]) rfl ⟨rfl, HB.out⟩

theorem binary (s : ByteArray) (x y : Nd) (A B : Option Addr) (cA cB : Nat) (w : World) (hA : RN w x A cA) (hB : RN w y B cB) :
    Calls Try.prog 26 #[.string s, x.val A cA, y.val B cB] w fun e w' => ∃ g, e = .returned ((binN s x y).val (some ⟨g, 0, none⟩) 2) ∧ RN w' (binN s x y) (some ⟨g, 0, none⟩) 2 ∧ Below w.heap.size w w' := by
  obtain ⟨W, hW⟩ : ∃ W, ((((w.alloc (.cells (cells5 x A cA).toArray 24)).alloc (.cells (cells5 y B cB).toArray 24)).alloc (.cells (cells5 (binN s x y) (some ⟨w.heap.size + 1 + 1 + 1, 0, none⟩) 2).toArray 24)).alloc (.cells (cells5 x A cA ++ cells5 y B cB).toArray 24)) = W := ⟨_, rfl⟩
  have hb : Below w.heap.size w W := by rw [← hW]; exact ((((Below.refl _ _).alloc (Nat.le_refl _) _).alloc (by simp) _).alloc (by simp; omega) _).alloc (by simp; omega) _
  have h3 : W.heap[w.heap.size + 1 + 1 + 1]? = some (.cells (cells5 x A cA ++ cells5 y B cB).toArray 24 (0, 0)) := by
    rw [← hW]
    have := heap_alloc_new (((w.alloc (.cells (cells5 x A cA).toArray 24)).alloc (.cells (cells5 y B cB).toArray 24)).alloc (.cells (cells5 (binN s x y) (some ⟨w.heap.size + 1 + 1 + 1, 0, none⟩) 2).toArray 24)) (.cells (cells5 x A cA ++ cells5 y B cB).toArray 24)
    simpa using this
  have h2 : W.heap[w.heap.size + 1 + 1]? = some (.cells (cells5 (binN s x y) (some ⟨w.heap.size + 1 + 1 + 1, 0, none⟩) 2).toArray 24 (0, 0)) := by
    rw [← hW, Below.heap_alloc _ _ _ (by simp)]
    have := heap_alloc_new ((w.alloc (.cells (cells5 x A cA).toArray 24)).alloc (.cells (cells5 y B cB).toArray 24)) (.cells (cells5 (binN s x y) (some ⟨w.heap.size + 1 + 1 + 1, 0, none⟩) 2).toArray 24)
    simpa using this
  have hR : RN W (binN s x y) (some ⟨w.heap.size + 1 + 1 + 1, 0, none⟩) 2 := by
    have := RN.two (RN.keep hb hA) (RN.keep hb hB) h3
    rcases this with ⟨_, b, o, _, As, cs, hc, hm, hcell, hsub⟩ | ⟨_, _, _, h⟩
    · exact .mk _ _ _ _ As cs hc hm hcell hsub
    · cases h
  have h4 := At5.of h2
  have HR := Lib.hid hR
  have HB := Lib.hid hb
  have hW2 : ((((w.alloc (.cells #[.int .i64 x.kind, .string x.text, .int .i64 x.pos, .int .i64 x.fin, .slice A x.kids.length cA] 24)).alloc (.cells #[.int .i64 y.kind, .string y.text, .int .i64 y.pos, .int .i64 y.fin, .slice B y.kids.length cB] 24)).alloc (.cells #[.int .i64 29, .string s, .int .i64 0, .int .i64 0, .slice (some ⟨w.heap.size + 1 + 1 + 1, 0, none⟩) 2 2] 24)).alloc (.cells #[.int .i64 x.kind, .string x.text, .int .i64 x.pos, .int .i64 x.fin, .slice A x.kids.length cA, .int .i64 y.kind, .string y.text, .int .i64 y.pos, .int .i64 y.fin, .slice B y.kids.length cB] 24)) = W := hW
  obtain ⟨c0, c1, c2, c3, c4⟩ := h4
  have HW := Lib.hid hW2
  clear hW hb h3 h2 hR hA hB hW2
  unfold Nd.val
  go_enter Try.func26, Try.ntmps26
  go_wp2_with fail
  rw [HW.out]
  refine bodyPost_ret (v := (binN s x y).val (some ⟨w.heap.size + 1 + 1 + 1, 0, none⟩) 2) (by simp [results, Try.results26, go_sem, c0, c1, c2, c3, c4, Nd.val]) rfl ⟨_, rfl, HR.out, HB.out⟩
end Go.Proofs.Ytjijfgkmjachnaa

namespace Go.Proofs.Ytjijfgkmjachnaa
set_option linter.unusedVariables false
set_option linter.unusedSimpArgs false
open Go.RowKit

abbrev sA : ByteArray := ⟨#[97]⟩
abbrev sB : ByteArray := ⟨#[98]⟩
abbrev sC : ByteArray := ⟨#[99]⟩
abbrev sP : ByteArray := ⟨#[43]⟩
abbrev sM : ByteArray := ⟨#[42]⟩
def tX : Nd := binN sP (nmN sA) (binN sM (nmN sB) (nmN sC))
def tY : Nd := binN sM (nmN sA) (nmN sC)
def tP : Nd := binN sP (nmN sA) (nmN sB)
def tQ : Nd := binN sP (nmN sB) (nmN sA)
theorem sX : tX.size = 5 := by kernel_rfl
theorem sY : tY.size = 3 := by kernel_rfl
theorem dXY : td tX tY = 3 := by kernel_rfl
theorem dYX : td tY tX = 3 := by kernel_rfl
theorem dXX : td tX tX = 0 := by kernel_rfl
theorem dPQ : td tP tQ = 2 := by kernel_rfl
theorem comXY : com (labs tX) (labs tY) = 3 := by kernel_rfl
theorem labP_small (k : Int) (l : List UInt8) (h1 : 0 ≤ k) (h2 : k ≤ 100) (h3 : l.length ≤ 100) : LabP (k, l) := ⟨WalkArith.wf_i64 (by omega), by simp only [maxLen]; omega⟩
theorem labWX : LabW tX := by
  intro p hp
  rw [show labs tX = [(20, [97]), (20, [98]), (20, [99]), (29, [42]), (29, [43])] by kernel_rfl] at hp
  simp only [List.mem_cons, List.not_mem_nil, or_false] at hp
  rcases hp with rfl | rfl | rfl | rfl | rfl <;> exact labP_small _ _ (by omega) (by omega) (by simp)
theorem labWY : LabW tY := by
  intro p hp
  rw [show labs tY = [(20, [97]), (20, [99]), (29, [42])] by kernel_rfl] at hp
  simp only [List.mem_cons, List.not_mem_nil, or_false] at hp
  rcases hp with rfl | rfl | rfl <;> exact labP_small _ _ (by omega) (by omega) (by simp)
theorem dVXY : dV tX tY = 3 := by kernel_rfl
theorem dCXY : dC tX tY = 0 := by kernel_rfl
theorem dVPQ : dV tP tQ = 2 := by kernel_rfl
theorem dCPQ : dC tP tQ = 0 := by kernel_rfl
theorem sP' : tP.size = 3 := by kernel_rfl
theorem sQ' : tQ.size = 3 := by kernel_rfl
theorem nearX : nearR tX [tY, tX] = .tuple #[.int .i64 1, .int .i64 0, .int .i64 0] := by
  unfold nearR
  rw [show bigAny [tX] = false by kernel_rfl, show bigAny [tY, tX] = false by kernel_rfl, if_neg (by simp), if_neg (by simp), show near tX [tY, tX] = (1, 0) by kernel_rfl]
theorem bigXY : bigAny [tX, tY] = false := by kernel_rfl
theorem mxXY : mx [tX, tY] 1 0 = 3 := by kernel_rfl
theorem boundXY : boundV tX tY = 2 := by kernel_rfl
theorem subXY {T : Nat → Nat → Int} (h : SubT tX tY T) : T 4 2 = 0 := by
  have := h 2 1 (by rw [sX]; omega) (by rw [sY]; omega)
  rw [show nm (post tX 0 0) 2 = 4 by kernel_rfl, show nm (post tY 0 0) 1 = 2 by kernel_rfl, show td (nd (post tX 0 0) 2) (nd (post tY 0 0) 1) = 0 by kernel_rfl] at this
  exact this
end Go.Proofs.Ytjijfgkmjachnaa

namespace Go.Proofs.Ytjijfgkmjachnaa
set_option linter.unusedVariables false
set_option linter.unusedSimpArgs false
open Go.RowKit

set_option maxRecDepth 100000 in
set_option maxHeartbeats 2000000 in
theorem awake (w : World) : Calls Try.prog 10 #[] w fun e w' => e = .returned (.bool true) ∧ Below w.heap.size w w' := by
  go_enter Try.func10, Try.ntmps10
  go_wp2_with fail
  refine (name ⟨#[97]⟩ w).mono ?_
  rintro e w1 ⟨rfl, h1⟩
  go_wp2_with fail
  refine (name ⟨#[98]⟩ w1).mono ?_
  rintro e w2 ⟨rfl, h2⟩
  go_wp2_with fail
  refine (name ⟨#[99]⟩ w2).mono ?_
  rintro e w3 ⟨rfl, h3⟩
  go_wp2_with fail
  refine (binary ⟨#[42]⟩ (nmN ⟨#[98]⟩) (nmN ⟨#[99]⟩) none none 0 0 w3 (.nil _ _ _ rfl) (.nil _ _ _ rfl)).mono ?_
  rintro e w4 ⟨g4, rfl, r4, h4⟩
  have R4 := Lib.hid r4
  have H4 := Lib.hid (show Below w.heap.size w w4 from h1.trans ((h2.mono h1.size).trans ((h3.mono (Nat.le_trans h1.size h2.size)).trans (h4.mono (Nat.le_trans h1.size (Nat.le_trans h2.size h3.size))))))
  clear h1 h2 h3 h4 r4
  go_wp2_with fail
  refine (binary ⟨#[43]⟩ (nmN ⟨#[97]⟩) (binN ⟨#[42]⟩ (nmN ⟨#[98]⟩) (nmN ⟨#[99]⟩)) none (some ⟨g4, 0, none⟩) 0 2 w4 (.nil _ _ _ rfl) R4.out).mono ?_
  rintro e w5 ⟨g5, rfl, r5, h5⟩
  have R5 := Lib.hid r5
  have H5 := Lib.hid (H4.out.trans (h5.mono H4.out.size))
  clear r5 h5 R4 H4
  go_wp2_with fail
  refine (name ⟨#[97]⟩ w5).mono ?_
  rintro e w6 ⟨rfl, h6⟩
  go_wp2_with fail
  refine (name ⟨#[99]⟩ w6).mono ?_
  rintro e w7 ⟨rfl, h7⟩
  go_wp2_with fail
  refine (binary ⟨#[42]⟩ (nmN ⟨#[97]⟩) (nmN ⟨#[99]⟩) none none 0 0 w7 (.nil _ _ _ rfl) (.nil _ _ _ rfl)).mono ?_
  rintro e w8 ⟨g8, rfl, r8, h8⟩
  have RX := Lib.hid (show RN w8 tX (some ⟨g5, 0, none⟩) 2 from RN.keep (h6.trans ((h7.mono h6.size).trans (h8.mono (Nat.le_trans h6.size h7.size)))) R5.out)
  have RY := Lib.hid (show RN w8 tY (some ⟨g8, 0, none⟩) 2 from r8)
  have H8 := Lib.hid (H5.out.trans ((h6.trans ((h7.mono h6.size).trans (h8.mono (Nat.le_trans h6.size h7.size)))).mono H5.out.size))
  clear h6 h7 h8 r8 R5 H5
  rw [show binN ⟨#[43]⟩ (nmN ⟨#[97]⟩) (binN ⟨#[42]⟩ (nmN ⟨#[98]⟩) (nmN ⟨#[99]⟩)) = tX from rfl, show binN ⟨#[42]⟩ (nmN ⟨#[97]⟩) (nmN ⟨#[99]⟩) = tY from rfl]
  unfold Nd.val
  go_wp2_with fail
  obtain ⟨w9, hw9⟩ : ∃ w9, ((w8.alloc (.cells #[.int .i64 tX.kind, .string tX.text, .int .i64 tX.pos, .int .i64 tX.fin, .slice (some ⟨g5, 0, none⟩) tX.kids.length 2] 24)).alloc (.cells #[.int .i64 tY.kind, .string tY.text, .int .i64 tY.pos, .int .i64 tY.fin, .slice (some ⟨g8, 0, none⟩) tY.kids.length 2] 24)) = w9 := ⟨_, rfl⟩
  have hh0 : w9.heap[w8.heap.size]? = some (.cells (cells5 tX (some ⟨g5, 0, none⟩) 2).toArray 24 (0, 0)) := by
    rw [← hw9, Below.heap_alloc _ _ _ (by simp)]; exact heap_alloc_new _ _
  have hh1 : w9.heap[w8.heap.size + 1]? = some (.cells (cells5 tY (some ⟨g8, 0, none⟩) 2).toArray 24 (0, 0)) := by
    rw [← hw9]
    have := heap_alloc_new (w8.alloc (.cells (cells5 tX (some ⟨g5, 0, none⟩) 2).toArray 24)) (.cells (cells5 tY (some ⟨g8, 0, none⟩) 2).toArray 24)
    simpa [cells5] using this
  have hb9 : Below w8.heap.size w8 w9 := by rw [← hw9]; exact ((Below.refl _ _).alloc (Nat.le_refl _) _).alloc (by simp) _
  have hlt : w8.heap.size + 1 < w9.heap.size := (Array.getElem?_eq_some_iff.1 hh1).1
  have HC := Lib.hid (show ∀ W, Below w9.heap.size w9 W → At5 W w8.heap.size 0 tX (some ⟨g5, 0, none⟩) 2 ∧ At5 W (w8.heap.size + 1) 0 tY (some ⟨g8, 0, none⟩) 2 from fun W h => ⟨At5.keep (At5.of hh0) h (by omega), At5.keep (At5.of hh1) h hlt⟩)
  have HX := Lib.hid (show ∀ W, Below w9.heap.size w9 W → RN W tX (some ⟨g5, 0, none⟩) 2 from fun W h => RN.keep h (RN.keep hb9 RX.out))
  have HY := Lib.hid (show ∀ W, Below w9.heap.size w9 W → RN W tY (some ⟨g8, 0, none⟩) 2 from fun W h => RN.keep h (RN.keep hb9 RY.out))
  have HT := Lib.hid (show ∀ W, Below w9.heap.size w9 W → Below w.heap.size w W from fun W h => (H8.out.trans (hb9.mono H8.out.size)).trans (h.mono (Nat.le_trans H8.out.size hb9.size)))
  have HD := Lib.hid (fun W (h : Below w9.heap.size w9 W) => Distance tX tY (some ⟨g5, 0, none⟩) (some ⟨g8, 0, none⟩) 2 2 W (HX.out W h) (HY.out W h) (by rw [sX]; omega) (by rw [sY]; omega))
  have HWI := Lib.hid (fun W (h : Below w9.heap.size w9 W) => Within tX tY (some ⟨g5, 0, none⟩) (some ⟨g8, 0, none⟩) 2 2 3 W (HX.out W h) (HY.out W h) (by rw [sX]; omega) (by rw [sY]; omega))
  have HSU := Lib.hid (fun W (h : Below w9.heap.size w9 W) => Subtrees tX tY (some ⟨g5, 0, none⟩) (some ⟨g8, 0, none⟩) 2 2 W (HX.out W h) (HY.out W h) (by rw [sX]; omega) (by rw [sY]; omega))
  have HBO := Lib.hid (fun W (h : Below w9.heap.size w9 W) => Bound tX tY (some ⟨g5, 0, none⟩) (some ⟨g8, 0, none⟩) 2 2 W (HX.out W h) (HY.out W h) (by rw [sX]; omega) (by rw [sY]; omega) labWX labWY)
  have HNE := Lib.hid (fun W (h : Below w9.heap.size w9 W) (m : Nat) (hm : W.heap[m]? = some (.cells (cells5 tY (some ⟨g8, 0, none⟩) 2 ++ cells5 tX (some ⟨g5, 0, none⟩) 2).toArray 24 (0, 0))) => Nearest tX [tY, tX] (some ⟨g5, 0, none⟩) (some ⟨m, 0, none⟩) 2 2 W (HX.out W h) (RN.two (HY.out W h) (HX.out W h) hm) (by rw [sX]; omega) (by simp [sX, sY]) (by simp))
  have HMA := Lib.hid (fun W (h : Below w9.heap.size w9 W) (m : Nat) (hm : W.heap[m]? = some (.cells (cells5 tX (some ⟨g5, 0, none⟩) 2 ++ cells5 tY (some ⟨g8, 0, none⟩) 2).toArray 24 (0, 0))) => Matrix [tX, tY] (some ⟨m, 0, none⟩) 2 W (RN.two (HX.out W h) (HY.out W h) hm) (by simp [sX, sY]) (by simp))
  rw [dVXY, dCXY] at HD HWI
  rw [boundXY] at HBO
  rw [nearX] at HNE
  unfold Nd.val at HD HWI HSU HBO HNE
  have H9 := Lib.hid (Below.refl w9.heap.size w9)
  rw [hw9]
  clear hw9 hh0 hh1 hb9 hlt RX RY H8
  refine (HD.out w9 H9.out).mono ?_
  rintro e w10 ⟨rfl, hb⟩
  have H10 := Lib.hid (H9.out.trans (hb.mono H9.out.size))
  obtain ⟨⟨a0, a1, a2, a3, a4⟩, b0, b1, b2, b3, b4⟩ := HC.out _ H10.out
  clear hb
  go_wp2_with fail
  refine (name ⟨#[97]⟩ w10).mono ?_
  rintro e w11 ⟨rfl, hb⟩
  clear a0 a1 a2 a3 a4 b0 b1 b2 b3 b4
  have H11 := Lib.hid (H10.out.trans (hb.mono H10.out.size))
  obtain ⟨⟨a0, a1, a2, a3, a4⟩, b0, b1, b2, b3, b4⟩ := HC.out _ H11.out
  clear hb
  go_wp2_with fail
  refine (name ⟨#[98]⟩ w11).mono ?_
  rintro e w12 ⟨rfl, hb⟩
  clear a0 a1 a2 a3 a4 b0 b1 b2 b3 b4
  have H12 := Lib.hid (H11.out.trans (hb.mono H11.out.size))
  obtain ⟨⟨a0, a1, a2, a3, a4⟩, b0, b1, b2, b3, b4⟩ := HC.out _ H12.out
  clear hb
  go_wp2_with fail
  refine (binary ⟨#[43]⟩ (nmN ⟨#[97]⟩) (nmN ⟨#[98]⟩) none none 0 0 w12 (.nil _ _ _ rfl) (.nil _ _ _ rfl)).mono ?_
  rintro e w13 ⟨gP, rfl, rP, hb⟩
  clear a0 a1 a2 a3 a4 b0 b1 b2 b3 b4
  have RP := Lib.hid (show RN w13 tP (some ⟨gP, 0, none⟩) 2 from rP)
  clear rP
  have H13 := Lib.hid (H12.out.trans (hb.mono H12.out.size))
  obtain ⟨⟨a0, a1, a2, a3, a4⟩, b0, b1, b2, b3, b4⟩ := HC.out _ H13.out
  clear hb
  go_wp2_with fail
  refine (name ⟨#[98]⟩ w13).mono ?_
  rintro e w14 ⟨rfl, hb⟩
  clear a0 a1 a2 a3 a4 b0 b1 b2 b3 b4
  have H14 := Lib.hid (H13.out.trans (hb.mono H13.out.size))
  obtain ⟨⟨a0, a1, a2, a3, a4⟩, b0, b1, b2, b3, b4⟩ := HC.out _ H14.out
  have RP2 := Lib.hid (RN.keep hb RP.out)
  clear hb
  go_wp2_with fail
  refine (name ⟨#[97]⟩ w14).mono ?_
  rintro e w15 ⟨rfl, hb⟩
  clear a0 a1 a2 a3 a4 b0 b1 b2 b3 b4
  have H15 := Lib.hid (H14.out.trans (hb.mono H14.out.size))
  obtain ⟨⟨a0, a1, a2, a3, a4⟩, b0, b1, b2, b3, b4⟩ := HC.out _ H15.out
  have RP3 := Lib.hid (RN.keep hb RP2.out)
  clear hb
  go_wp2_with fail
  refine (binary ⟨#[43]⟩ (nmN ⟨#[98]⟩) (nmN ⟨#[97]⟩) none none 0 0 w15 (.nil _ _ _ rfl) (.nil _ _ _ rfl)).mono ?_
  rintro e w16 ⟨gQ, rfl, rQ, hb⟩
  clear a0 a1 a2 a3 a4 b0 b1 b2 b3 b4
  have H16 := Lib.hid (H15.out.trans (hb.mono H15.out.size))
  obtain ⟨⟨a0, a1, a2, a3, a4⟩, b0, b1, b2, b3, b4⟩ := HC.out _ H16.out
  have hD := Distance tP tQ (some ⟨gP, 0, none⟩) (some ⟨gQ, 0, none⟩) 2 2 w16 (RN.keep hb RP3.out) rQ (by rw [sP']; omega) (by rw [sQ']; omega)
  rw [dVPQ, dCPQ] at hD
  unfold Nd.val at hD
  have HDP := Lib.hid hD
  clear hb hD rQ
  unfold Nd.val
  go_wp2_with fail
  refine HDP.out.mono ?_
  rintro e w17 ⟨rfl, hb⟩
  clear a0 a1 a2 a3 a4 b0 b1 b2 b3 b4
  have H17 := Lib.hid (H16.out.trans (hb.mono H16.out.size))
  obtain ⟨⟨a0, a1, a2, a3, a4⟩, b0, b1, b2, b3, b4⟩ := HC.out _ H17.out
  clear hb
  go_wp2_with fail
  refine (HWI.out w17 H17.out).mono ?_
  rintro e w18 ⟨rfl, hb⟩
  clear a0 a1 a2 a3 a4 b0 b1 b2 b3 b4
  have H18 := Lib.hid (H17.out.trans (hb.mono H17.out.size))
  obtain ⟨⟨a0, a1, a2, a3, a4⟩, b0, b1, b2, b3, b4⟩ := HC.out _ H18.out
  clear hb
  rw [show (decide True && decide ((3 : Int) ≤ 3)) = true by decide]
  go_wp2_with fail
  refine (HNE.out _ (H18.out.alloc H18.out.size _) w18.heap.size ?_).mono ?_
  · have := heap_alloc_new w18 (.cells (cells5 tY (some ⟨g8, 0, none⟩) 2 ++ cells5 tX (some ⟨g5, 0, none⟩) 2).toArray 24)
    simpa [cells5] using this
  rintro e w19 ⟨rfl, hb⟩
  clear a0 a1 a2 a3 a4 b0 b1 b2 b3 b4
  have H19 := Lib.hid ((H18.out.alloc H18.out.size _).trans (hb.mono (H18.out.alloc H18.out.size _).size))
  obtain ⟨⟨a0, a1, a2, a3, a4⟩, b0, b1, b2, b3, b4⟩ := HC.out _ H19.out
  clear hb
  go_wp2_with fail
  refine (HMA.out _ (H19.out.alloc H19.out.size _) w19.heap.size ?_).mono ?_
  · have := heap_alloc_new w19 (.cells (cells5 tX (some ⟨g5, 0, none⟩) 2 ++ cells5 tY (some ⟨g8, 0, none⟩) 2).toArray 24)
    simpa [cells5] using this
  rintro e w20 ⟨hr, hb⟩
  clear a0 a1 a2 a3 a4 b0 b1 b2 b3 b4
  obtain ⟨_, gm, bm, rfl, hT⟩ := hr.resolve_left (fun h => by rw [bigXY] at h; cases h.1)
  have HTM := Lib.hid hT
  have H20 := Lib.hid ((H19.out.alloc H19.out.size _).trans (hb.mono (H19.out.alloc H19.out.size _).size))
  obtain ⟨⟨a0, a1, a2, a3, a4⟩, b0, b1, b2, b3, b4⟩ := HC.out _ H20.out
  clear hb hT hr
  go_wp2_with fail
  refine (HSU.out _ H20.out).mono ?_
  rintro e w21 ⟨hr, hb⟩
  clear a0 a1 a2 a3 a4 b0 b1 b2 b3 b4
  obtain ⟨_, gs, bs, T, rfl, hT, hS⟩ := hr.resolve_left (fun h => by rw [bigXY] at h; cases h.1)
  have z0 := hT.outer 4 (by rw [sX]; omega)
  have z1 := hT.inner 4 2 (by rw [sX]; omega) (by rw [sY]; omega)
  rw [subXY hS] at z1
  have y0 := (hb.cell (World.block_lt_of_cell? w20 _ (HTM.out.outer 1 (by simp)))).trans (HTM.out.outer 1 (by simp))
  have y1 := (hb.cell (World.block_lt_of_cell? w20 _ (HTM.out.inner 1 0 (by simp) (by simp)))).trans (HTM.out.inner 1 0 (by simp) (by simp))
  rw [mxXY] at y1
  have H21 := Lib.hid (H20.out.trans (hb.mono H20.out.size))
  obtain ⟨⟨a0, a1, a2, a3, a4⟩, b0, b1, b2, b3, b4⟩ := HC.out _ H21.out
  clear hb hT hS hr
  have e5 := sX
  have e3 := sY
  rw [e3] at z0
  rw [e5]
  simp only [List.length_cons, List.length_nil, Nat.zero_add, Nat.reduceAdd] at y0 y1 ⊢
  clear e5 e3
  go_wp2_with fail
  refine (HBO.out w21 H21.out).mono ?_
  rintro e w22 ⟨rfl, hb⟩
  have H22 := Lib.hid (H21.out.trans (hb.mono H21.out.size))
  clear hb
  go_wp2_with fail
  go_ret
  exact ⟨rfl, HT.out _ H22.out⟩
end Go.Proofs.Ytjijfgkmjachnaa

namespace Go.Proofs.Ytjijfgkmjachnaa
set_option linter.unusedVariables false
set_option linter.unusedSimpArgs false

theorem com_max : ∀ (ys xs zs : List Lab), (∀ p, zs.count p ≤ xs.count p ∧ zs.count p ≤ ys.count p) → zs.length ≤ com xs ys
  | [], xs, zs, h => by
    cases zs with
    | nil => exact Nat.zero_le _
    | cons z zs => have := (h z).2; simp at this
  | y :: ys, xs, zs, h => by
    simp only [com]
    split
    · rename_i hy
      have := com_max ys (xs.erase y) (zs.erase y) (fun p => by
        have hp := h p
        by_cases e : p = y
        · subst e
          rw [List.count_erase_self, List.count_erase_self]
          rw [List.count_cons_self] at hp
          omega
        · rw [List.count_erase_of_ne e, List.count_erase_of_ne e]
          rw [List.count_cons_of_ne (Ne.symm e)] at hp
          exact hp)
      have h2 : zs.length ≤ (zs.erase y).length + 1 := by rw [List.length_erase]; split <;> omega
      omega
    · rename_i hy
      refine com_max ys xs zs (fun p => ?_)
      have hp := h p
      by_cases e : p = y
      · subst e
        have : xs.count p = 0 := List.count_eq_zero.2 hy
        omega
      · rw [List.count_cons_of_ne (Ne.symm e)] at hp
        exact hp
theorem com_ex : ∀ (ys xs : List Lab), ∃ zs : List Lab, zs.length = com xs ys ∧ ∀ p, zs.count p ≤ xs.count p ∧ zs.count p ≤ ys.count p
  | [], xs => ⟨[], rfl, fun p => by simp⟩
  | y :: ys, xs => by
    simp only [com]
    split
    · rename_i hy
      obtain ⟨zs, h1, h2⟩ := com_ex ys (xs.erase y)
      refine ⟨y :: zs, by simp [h1], fun p => ?_⟩
      have hp := h2 p
      by_cases e : p = y
      · subst e
        have := List.count_pos_iff.2 hy
        rw [List.count_erase_self] at hp
        rw [List.count_cons_self, List.count_cons_self]
        omega
      · rw [List.count_erase_of_ne e] at hp
        rw [List.count_cons_of_ne (Ne.symm e), List.count_cons_of_ne (Ne.symm e)]
        exact hp
    · obtain ⟨zs, h1, h2⟩ := com_ex ys xs
      refine ⟨zs, h1, fun p => ⟨(h2 p).1, Nat.le_trans (h2 p).2 ?_⟩⟩
      rw [List.count_cons]; omega
theorem com_comm (xs ys : List Lab) : com xs ys = com ys xs := by
  refine Nat.le_antisymm ?_ ?_
  · obtain ⟨zs, h1, h2⟩ := com_ex ys xs
    rw [← h1]; exact com_max xs ys zs (fun p => ⟨(h2 p).2, (h2 p).1⟩)
  · obtain ⟨zs, h1, h2⟩ := com_ex xs ys
    rw [← h1]; exact com_max ys xs zs (fun p => ⟨(h2 p).2, (h2 p).1⟩)
theorem com_self (xs : List Lab) : com xs xs = xs.length :=
  Nat.le_antisymm (com_le xs xs) (com_max xs xs xs (fun p => ⟨Nat.le_refl _, Nat.le_refl _⟩))
theorem com_le' (xs ys : List Lab) : com xs ys ≤ xs.length := by rw [com_comm]; exact com_le xs ys

theorem bound_comm (a b : Nd) : boundV a b = boundV b a := by unfold boundV; rw [com_comm, Nat.max_comm]
theorem bound_self (a : Nd) : boundV a a = 0 := by unfold boundV; rw [com_self, labs_len]; omega
theorem bound_ge (a b : Nd) : (a.size : Int) - b.size ≤ boundV a b ∧ (b.size : Int) - a.size ≤ boundV a b := by
  unfold boundV
  have h1 := com_le (labs b) (labs a)
  have h2 := com_le' (labs a) (labs b)
  rw [labs_len] at h1 h2
  omega
end Go.Proofs.Ytjijfgkmjachnaa

namespace Go.Proofs.Ytjijfgkmjachnaa
set_option linter.unusedVariables false
set_option linter.unusedSimpArgs false

/-- the labels of a forest, in some order -/
def labF : Nat → List Nd → List Lab
  | 0, _ => []
  | _ + 1, [] => []
  | n + 1, t :: ts => labOf t :: (labF n t.kids ++ labF n ts)
theorem labF_stable (n : Nat) : ∀ (m : Nat) (l : List Nd), Nd.sizes l ≤ n → Nd.sizes l ≤ m → labF n l = labF m l := by
  induction n with
  | zero =>
    intro m l h _
    cases l with
    | cons t ts => rw [Nd.sizes_cons] at h; have := t.size_pos; omega
    | nil => cases m <;> rfl
  | succ n ih =>
    intro m l h h2
    cases l with
    | nil => cases m <;> rfl
    | cons t ts =>
      have ht := t.size_eq
      rw [Nd.sizes_cons] at h h2
      cases m with
      | zero => omega
      | succ m =>
        simp only [labF]
        rw [ih m t.kids (by omega) (by omega), ih m ts (by omega) (by omega)]
def labsF (l : List Nd) : List Lab := labF (Nd.sizes l) l
theorem labsF_nil : labsF [] = [] := by unfold labsF; rw [Nd.sizes_nil]; rfl
theorem labsF_cons (t : Nd) (ts : List Nd) : labsF (t :: ts) = labOf t :: (labsF t.kids ++ labsF ts) := by
  have ht := t.size_eq
  unfold labsF
  rw [Nd.sizes_cons, show t.size + Nd.sizes ts = (Nd.sizes t.kids + Nd.sizes ts) + 1 by omega]
  simp only [labF]
  rw [labF_stable _ (Nd.sizes t.kids) t.kids (by omega) (Nat.le_refl _), labF_stable _ (Nd.sizes ts) ts (by omega) (Nat.le_refl _)]
theorem labsF_len (n : Nat) : ∀ l : List Nd, Nd.sizes l ≤ n → (labsF l).length = Nd.sizes l := by
  induction n with
  | zero => intro l h; cases l with
    | nil => rw [labsF_nil, Nd.sizes_nil]; rfl
    | cons t ts => rw [Nd.sizes_cons] at h; have := t.size_pos; omega
  | succ n ih => intro l h; cases l with
    | nil => rw [labsF_nil, Nd.sizes_nil]; rfl
    | cons t ts =>
      have ht := t.size_eq
      rw [Nd.sizes_cons] at h
      rw [labsF_cons, Nd.sizes_cons, List.length_cons, List.length_append, ih _ (by omega), ih _ (by omega)]
      omega
theorem labsF_app (p : Lab) : ∀ (a b : List Nd), (labsF (a ++ b)).count p = (labsF a).count p + (labsF b).count p
  | [], b => by rw [labsF_nil]; simp
  | t :: a, b => by
    rw [List.cons_append, labsF_cons, labsF_cons, List.count_cons, List.count_cons, List.count_append, List.count_append, labsF_app p a b]
    omega
theorem labsF_rev (p : Lab) : ∀ (a : List Nd), (labsF a.reverse).count p = (labsF a).count p
  | [] => rfl
  | t :: a => by
    rw [List.reverse_cons, labsF_app, labsF_rev p a, labsF_cons, labsF_cons, labsF_nil, List.append_nil, List.count_cons, List.count_cons, List.count_append]
    omega
theorem postK_labs (n : Nat) : ∀ (l : List Nd), Nd.sizes l ≤ n → ∀ f m (p : Lab), ((postK l f m).map fun e => labOf e.1).count p = (labsF l).count p := by
  induction n with
  | zero => intro l h f m p; cases l with
    | nil => rw [postK_nil, labsF_nil]; rfl
    | cons t ts => rw [Nd.sizes_cons] at h; have := t.size_pos; omega
  | succ n ih => intro l h f m p; cases l with
    | nil => rw [postK_nil, labsF_nil]; rfl
    | cons t ts =>
      have ht := t.size_eq
      rw [Nd.sizes_cons] at h
      rw [postK_cons, post_eq, labsF_cons, List.map_append, List.map_append, List.count_append, List.count_append, ih t.kids (by omega), ih ts (by omega), List.count_cons, List.count_append]
      simp only [List.map_cons, List.map_nil, List.count_cons, List.count_nil]
      omega
theorem labs_count (t : Nd) (p : Lab) : (labs t).count p = (labsF [t]).count p := by
  have := postK_labs _ [t] (Nat.le_refl _) 0 0 p
  rw [postK_cons, postK_nil, List.append_nil] at this
  exact this

theorem same_lab {t u : Nd} (h : sameLabel t u = true) : labOf t = labOf u := by
  unfold sameLabel at h
  simp only [Bool.and_eq_true, beq_iff_eq, ByteArray.toList_eq] at h
  exact Prod.ext h.1 h.2

theorem fd_common (n : Nat) : ∀ F G : List Nd, Nd.sizes F + Nd.sizes G ≤ n → ∃ zs : List Lab, Nd.sizes F ≤ fd F G + zs.length ∧ Nd.sizes G ≤ fd F G + zs.length ∧ ∀ p, zs.count p ≤ (labsF F).count p ∧ zs.count p ≤ (labsF G).count p := by
  induction n with
  | zero => intro F G h; exact ⟨[], by omega, by omega, fun p => by simp⟩
  | succ n ih =>
    intro F G h
    cases F with
    | nil => exact ⟨[], by rw [Nd.sizes_nil]; omega, by rw [fd_left]; omega, fun p => by simp⟩
    | cons t F =>
      cases G with
      | nil => exact ⟨[], by rw [fd_right]; omega, by rw [Nd.sizes_nil]; omega, fun p => by simp⟩
      | cons u G =>
        rw [Nd.sizes_cons, Nd.sizes_cons] at h
        have ht := sizes_rv t
        have hu := sizes_rv u
        have ct : ∀ p, (labsF (rv t ++ F)).count p ≤ (labsF (t :: F)).count p := fun p => by
          rw [labsF_app, labsF_cons, List.count_cons, List.count_append]; unfold rv; rw [labsF_rev]; omega
        have cu : ∀ p, (labsF (rv u ++ G)).count p ≤ (labsF (u :: G)).count p := fun p => by
          rw [labsF_app, labsF_cons, List.count_cons, List.count_append]; unfold rv; rw [labsF_rev]; omega
        rcases fd_cases t u F G with e | e | e
        · obtain ⟨zs, h1, h2, h3⟩ := ih (rv t ++ F) (u :: G) (by rw [Nd.sizes_append, Nd.sizes_cons]; omega)
          rw [Nd.sizes_append] at h1
          refine ⟨zs, by rw [Nd.sizes_cons, e]; omega, by rw [e]; omega, fun p => ⟨Nat.le_trans (h3 p).1 (ct p), (h3 p).2⟩⟩
        · obtain ⟨zs, h1, h2, h3⟩ := ih (t :: F) (rv u ++ G) (by rw [Nd.sizes_append, Nd.sizes_cons]; omega)
          rw [Nd.sizes_append] at h2
          refine ⟨zs, by rw [e]; omega, by rw [Nd.sizes_cons, e]; omega, fun p => ⟨(h3 p).1, Nat.le_trans (h3 p).2 (cu p)⟩⟩
        · obtain ⟨z1, a1, a2, a3⟩ := ih (rv t) (rv u) (by omega)
          obtain ⟨z2, b1, b2, b3⟩ := ih F G (by omega)
          by_cases hs : sameLabel t u = true
          · have hl := same_lab hs
            refine ⟨labOf t :: (z1 ++ z2), ?_, ?_, fun p => ?_⟩
            · rw [Nd.sizes_cons, e, List.length_cons, List.length_append]; omega
            · rw [Nd.sizes_cons, e, List.length_cons, List.length_append]; omega
            · have x1 := a3 p
              have x2 := b3 p
              unfold rv at x1
              rw [labsF_rev, labsF_rev] at x1
              rw [labsF_cons, labsF_cons, List.count_cons, List.count_cons, List.count_cons, List.count_append, List.count_append, List.count_append, ← hl]
              omega
          · have hc : cost t u = 1 := by unfold cost; rw [if_neg hs]
            refine ⟨z1 ++ z2, ?_, ?_, fun p => ?_⟩
            · rw [Nd.sizes_cons, e, List.length_append]; omega
            · rw [Nd.sizes_cons, e, List.length_append]; omega
            · have x1 := a3 p
              have x2 := b3 p
              unfold rv at x1
              rw [labsF_rev, labsF_rev] at x1
              rw [labsF_cons, labsF_cons, List.count_cons, List.count_cons, List.count_append, List.count_append, List.count_append]
              omega

theorem td_bound (a b : Nd) : boundV a b ≤ (td a b : Nat) := by
  obtain ⟨zs, h1, h2, h3⟩ := fd_common _ [a] [b] (Nat.le_refl _)
  have := com_max (labs b) (labs a) zs (fun p => by rw [labs_count, labs_count]; exact h3 p)
  rw [Nd.sizes_cons, Nd.sizes_nil] at h1 h2
  unfold boundV td
  omega
theorem td_le (a b : Nd) : td a b + 1 ≤ a.size + b.size := by
  have h1 := td_le_pair a b
  have h2 := fd_le (rv a) (rv b)
  have h3 := cost_le a b
  have ha := sizes_rv a
  have hb := sizes_rv b
  omega
end Go.Proofs.Ytjijfgkmjachnaa

namespace Go.Proofs.Ytjijfgkmjachnaa
set_option linter.unusedVariables false
set_option linter.unusedSimpArgs false
open Go.RowKit

theorem fewN_size (n : Nat) : ∀ (t : Nd) (left : Int), 0 ≤ fewN n t left → fewN n t left + t.size = left := by
  induction n with
  | zero => intro t left h; simp [fewN] at h
  | succ n ih =>
    intro t left h
    have key : ∀ (l : List Nd) (x : Int), 0 ≤ l.foldl (fun l k => if 0 ≤ l then fewN n k l else l) x → l.foldl (fun l k => if 0 ≤ l then fewN n k l else l) x + Nd.sizes l = x := by
      intro l
      induction l with
      | nil => intro x _; rw [Nd.sizes_nil]; simp
      | cons k l ihl =>
        intro x hx
        rw [List.foldl_cons] at hx ⊢
        by_cases h0 : 0 ≤ x
        · rw [if_pos h0] at hx ⊢
          have h1 := ihl _ hx
          by_cases h2 : 0 ≤ fewN n k x
          · have := ih k x h2
            rw [Nd.sizes_cons]
            omega
          · exfalso
            have := foldl_stuck n l (fewN n k x) (by omega)
            omega
        · exfalso
          rw [if_neg h0] at hx
          have := foldl_stuck n l x (by omega)
          omega
    have ht := t.size_eq
    simp only [fewN] at h ⊢
    by_cases hc : left < 1 ∨ 40 < t.text.size
    · rw [if_pos hc] at h; omega
    · rw [if_neg hc] at h ⊢
      have := key t.kids (left - 1) h
      omega
theorem FewB_size {t : Nd} {m : Int} (h : FewB t m = true) : (t.size : Int) ≤ m := by
  have h0 : 0 ≤ fewN t.size t m := by simpa [FewB] using h
  have := fewN_size _ t m h0
  omega
theorem small2 {a b : Nd} (ha : a.size ≤ 256) (hb : b.size ≤ 256) : bigAny [a, b] = false := by
  simp [bigAny]; omega
theorem dV_small {a b : Nd} (ha : a.size ≤ 256) (hb : b.size ≤ 256) : dV a b = (td a b : Nat) := by unfold dV; rw [small2 ha hb]; rfl
theorem dC_small {a b : Nd} (ha : a.size ≤ 256) (hb : b.size ≤ 256) : dC a b = 0 := by unfold dC; rw [small2 ha hb]; rfl
theorem heap3' (w : World) (a b c : Nd) (A B C : Option Addr) (cA cB cC : Nat) (W : World) (hW : ((w.alloc (.cells (cells5 a A cA).toArray 24)).alloc (.cells (cells5 b B cB).toArray 24)).alloc (.cells (cells5 c C cC).toArray 24) = W) :
    At5 W w.heap.size 0 a A cA ∧ At5 W (w.heap.size + 1) 0 b B cB ∧ At5 W (w.heap.size + 2) 0 c C cC ∧ Below w.heap.size w W := by
  subst hW
  obtain ⟨h0, h1, h2⟩ := heap3 w (.cells (cells5 a A cA).toArray 24) (.cells (cells5 b B cB).toArray 24) (.cells (cells5 c C cC).toArray 24)
  exact ⟨At5.of h0, At5.of h1, At5.of h2, (((Below.refl _ _).alloc (Nat.le_refl _) _).alloc (by simp) _).alloc (by simp; omega) _⟩
end Go.Proofs.Ytjijfgkmjachnaa
