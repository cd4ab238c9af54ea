/- The reference's Bound, walked. -/
import Derived.Test.YtjijfgkmjachnaaT79
namespace Go.Proofs.Ytjijfgkmjachnaa
set_option linter.unusedVariables false
set_option linter.unusedSimpArgs false
open Go.RowKit

theorem inf4 : (Try.prog.info? 4).map (fun i => (i.zero, i.size, i.bytes)) = some (some (.bool false), 1, 1) := by kernel_rfl
/-- the row of flags -/
def Flg (w : World) (g m : Nat) (U : Nat → Bool) : Prop := (∀ k, k < m → w.cell? ⟨g, k, none⟩ = some (.bool (U k))) ∧ ∀ k, k < m → w.frozen? ⟨g, k, none⟩ = false
theorem Flg.set {w : World} {g m : Nat} {U : Nat → Bool} (h : Flg w g m U) {k : Nat} (hk : k < m) : Flg (w.setCell ⟨g, k, none⟩ (.bool true)) g m (mark U k) := by
  refine ⟨fun j hj => ?_, fun j hj => ?_⟩
  · unfold mark
    by_cases hjk : j = k
    · subst hjk
      rw [if_pos rfl]
      exact World.cell?_setCell_same' _ _ _ (by rw [h.1 j hj]; rfl)
    · rw [if_neg hjk, World.cell?_setCell_other w ⟨g, k, none⟩ ⟨g, j, none⟩ _ (fun h => by injection h with _ h2; omega)]
      exact h.1 j hj
  · rw [free_set]; exact h.2 j hj
theorem Flg.below {w W : World} {g m : Nat} {U : Nat → Bool} (h : Flg w g m U) (hb : Below w.heap.size w W) (hm : 0 < m) : Flg W g m U := by
  have hlt := World.block_lt_of_cell? w _ (h.1 0 hm)
  exact ⟨fun k hk => (hb.cell (p := ⟨g, k, none⟩) hlt).trans (h.1 k hk), fun k hk => (hb.frozen (p := ⟨g, k, none⟩) hlt).trans (h.2 k hk)⟩

theorem belN {B : Nat} {w W : World} (h : Below B w W) (n : Nat) : Below B w (W.drewN n) := ⟨h.os, h.tape, h.output, h.size, h.block⟩

set_option maxRecDepth 100000 in
set_option maxHeartbeats 4000000 in
theorem refBound (a b : Nd) (A B : Option Addr) (cA cB : Nat) (w : World) (hA : RN w a A cA) (hB : RN w b B cB) (sa : a.size ≤ 900000) (sb : b.size ≤ 900000) :
    Calls Try.prog 16 #[a.val A cA, b.val B cB] w fun e w' => e = .returned (.int .i64 (boundV a b)) ∧ Below w.heap.size w w' := by
  obtain ⟨w0, hw0⟩ : ∃ w0, (w.alloc (.cells (cells5 a A cA).toArray 24)).alloc (.cells (cells5 b B cB).toArray 24) = w0 := ⟨_, rfl⟩
  obtain ⟨pa, pb, hb0⟩ := heap2' w a b A B cA cB w0 hw0
  have hRA := RN.keep hb0 hA
  have hRB := RN.keep hb0 hB
  have HR := Lib.hid (And.intro hRA (And.intro hRB (And.intro pa pb)))
  have hw1 : ((w.alloc (.cells #[.int .i64 a.kind, .string a.text, .int .i64 a.pos, .int .i64 a.fin, .slice A a.kids.length cA] 24)).alloc (.cells #[.int .i64 b.kind, .string b.text, .int .i64 b.pos, .int .i64 b.fin, .slice B b.kids.length cB] 24)) = w0 := hw0
  have HB0 := Lib.hid hb0
  clear hA hB hw0 hRA hRB pa pb hb0
  have mk := run_make_row' (P := Try.prog) 71 4 (.bool false) 1 Try.underlying71 inf4 rfl .i64 .i64 b.size (by omega) (by omega)
  unfold Nd.val
  go_enter Try.func16, Try.ntmps16
  go_wp2_with fail
  refine region77_16 a b A B cA cB sa sb w0 HR.out.1 HR.out.2.1 w.heap.size (w.heap.size + 1) HR.out.2.2.1 HR.out.2.2.2 _ (by rfl) (by rfl) (by rfl) _ w0 (Below.refl _ _) ?_
  intro L f W hall hI
  simp only [ds77_16, setAll, List.setIfInBounds_toArray, List.set_cons_zero, List.set_cons_succ, Nat.zero_add, Nat.reduceAdd]
  obtain ⟨As, cs, e2, hq2⟩ := hI.c2 (hall 2 (by omega))
  obtain ⟨As', cs', e5, hq5⟩ := hI.c5 (hall 5 (by omega))
  obtain ⟨p6, e6, lo6, _⟩ := hI.x6 (hall 6 (by omega))
  obtain ⟨p7, e7, lo7, _⟩ := hI.x7 (hall 7 (by omega))
  obtain ⟨gK, gT, gL, gN, ⟨a0, a1, a2, a3⟩, FA, lK, lT, lL, lN⟩ := hq2.flatR
  obtain ⟨gK', gT', gL', gN', ⟨b0, b1, b2, b3⟩, FB, lK', lT', lL', lN'⟩ := hq5.flatR
  unfold agg4 at e2 e5
  rw [post_len, a0, a1, a2, a3] at e2
  rw [post_len, b0, b1, b2, b3] at e5
  have h8 := (hI.s8 (hall 8 (by omega))).2.2 p6 _ _ _ _ e6 e2
  have h9 := (hI.s9 (hall 9 (by omega))).2.2 p7 _ _ _ _ e7 e5
  generalize cs 0 = cK at *
  generalize cs 1 = cT at *
  generalize cs 2 = cL at *
  generalize cs 3 = cN at *
  generalize cs' 0 = cK' at *
  generalize cs' 1 = cT' at *
  generalize cs' 2 = cL' at *
  generalize cs' 3 = cN' at *
  have HCTX := Lib.hid (show ∀ V, Below W.heap.size W V → (V.heap[p6]? = some (.cells #[.slice (some ⟨gK, 0, none⟩) a.size cK, .slice (some ⟨gT, 0, none⟩) a.size cT, .slice (some ⟨gL, 0, none⟩) a.size cL, .slice (some ⟨gN, 0, none⟩) a.size cN] 60 (0, 0)) ∧
      V.heap[p7]? = some (.cells #[.slice (some ⟨gK', 0, none⟩) b.size cK', .slice (some ⟨gT', 0, none⟩) b.size cT', .slice (some ⟨gL', 0, none⟩) b.size cL', .slice (some ⟨gN', 0, none⟩) b.size cN'] 60 (0, 0))) ∧ FlatR V (post a 0 0) a.size gK gT gL gN ∧ FlatR V (post b 0 0) b.size gK' gT' gL' gN' from fun V h =>
    ⟨⟨up_heap h h8, up_heap h h9⟩, FA.keep (S := fun _ => False) (Keeps.of_below h) (fun h => h) (fun h => h) (fun h => h) (fun h => h), FB.keep (S := fun _ => False) (Keeps.of_below h) (fun h => h) (fun h => h) (fun h => h) (fun h => h)⟩)
  have HBEL := Lib.hid (show Below w.heap.size w W from HB0.out.trans (hI.bel.mono HB0.out.size))
  have HPA := Lib.hid (And.intro a.size_pos b.size_pos)
  rw [e6, e7]
  unfold ptr
  obtain ⟨f0, hf0⟩ : ∃ f0, f 0 = f0 := ⟨_, rfl⟩
  obtain ⟨f1, hf1⟩ : ∃ f1, f 1 = f1 := ⟨_, rfl⟩
  obtain ⟨f2, hf2⟩ : ∃ f2, f 2 = f2 := ⟨_, rfl⟩
  obtain ⟨f3, hf3⟩ : ∃ f3, f 3 = f3 := ⟨_, rfl⟩
  obtain ⟨f4, hf4⟩ : ∃ f4, f 4 = f4 := ⟨_, rfl⟩
  obtain ⟨f5, hf5⟩ : ∃ f5, f 5 = f5 := ⟨_, rfl⟩
  rw [hf0, hf1, hf2, hf3, hf4, hf5]
  clear hf0 hf1 hf2 hf3 hf4 hf5 e2 e5 e6 e7 h8 h9 hI FA FB lK lT lL lN lK' lT' lL' lN' hq2 hq5 a0 a1 a2 a3 b0 b1 b2 b3 hall lo6 lo7 hw1 HB0 HR
  obtain ⟨⟨hx, hy⟩, -⟩ := HCTX.out W (Below.refl _ _)
  obtain ⟨⟨a0, a1, a2, a3⟩, -⟩ := box4_cells hx
  obtain ⟨⟨b0, b1, b2, b3⟩, -⟩ := box4_cells hy
  clear hx hy
  obtain ⟨W1, hW1⟩ : ∃ W1, W.alloc (.cells (madeCells #[.bool false] b.size) 4) = W1 := ⟨_, rfl⟩
  have HF1 := Lib.hid (show Flg W1 W.heap.size b.size (fun _ => false) ∧ Below W.heap.size W W1 by
    rw [← hW1]
    exact ⟨⟨fun k hk => by rw [cell_new, madeCells_get _ _ _ hk], fun k hk => free_new ..⟩, (Below.refl _ _).alloc (Nat.le_refl _) _⟩)
  go_wp2_with fail
  clear hW1 a0 a1 a2 a3 b0 b1 b2 b3
  have hpa := HPA.out.1
  go_loopw [8, 9] (fun c s wr => ∃ (i n : Nat) (U : Nat → Bool), s = .int .i64 (i : Nat) ∧ c = .int .i64 (n : Nat) ∧ i ≤ a.size ∧ n ≤ i ∧ Hid (Below W.heap.size W wr ∧ Flg wr W.heap.size b.size U ∧ Bnd (labs b) (fun k => labOf (nd (post b 0 0) k)) b.size ((labs a).take i) U n)) (fun _ s _ => a.size - (intOf s).toNat)
  case atStart => exact ⟨0, 0, _, rfl, rfl, Nat.zero_le _, Nat.le_refl _, Lib.hid ⟨HF1.out.2, HF1.out.1, Bnd.start b⟩⟩
  case round =>
    clear HF1
    obtain ⟨i, n, U, rfl, rfl, hi, hn, H⟩ := hrel
    obtain ⟨⟨hx, hy⟩, -⟩ := HCTX.out wr H.out.1
    obtain ⟨⟨a0, a1, a2, a3⟩, -⟩ := box4_cells hx
    obtain ⟨⟨b0, b1, b2, b3⟩, -⟩ := box4_cells hy
    clear hx hy
    by_cases hia : i < a.size
    · have hts : (labs a).take (i + 1) = (labs a).take i ++ [labOf (nd (post a 0 0) i)] := by
        rw [List.take_succ_eq_append_getElem (by rw [labs_len]; exact hia), labs_get a i hia]
      have HTS := Lib.hid hts
      clear hts
      go_wp2_with fail
      obtain ⟨wo, hwo⟩ : ∃ wo : World, wo = wr := ⟨_, rfl⟩
      have HWO := Lib.hid hwo
      clear hwo
      go_loopw [8, 10, 11] (fun c f s wr => ∃ (k n' : Nat) (U' : Nat → Bool) (fd : Bool), s = .int .i64 (k : Nat) ∧ f = .bool fd ∧ c = .int .i64 (n' : Nat) ∧ k ≤ b.size ∧ n' ≤ i + 1 ∧ Hid (Below W.heap.size W wr ∧ Flg wr W.heap.size b.size U' ∧
          (fd = false → U' = U ∧ n' = n ∧ ∀ k', k' < k → U k' = true ∨ labOf (nd (post b 0 0) k') ≠ labOf (nd (post a 0 0) i)) ∧ (fd = true → Bnd (labs b) (fun k => labOf (nd (post b 0 0) k)) b.size ((labs a).take (i + 1)) U' n'))) (fun _ _ s _ => b.size - (intOf s).toNat)
      case atStart => exact ⟨0, n, U, false, rfl, rfl, rfl, Nat.zero_le _, by omega, Lib.hid ⟨H.out.1, H.out.2.1, fun _ => ⟨rfl, rfl, fun k' h => by omega⟩, fun h => by cases h⟩⟩
      case round =>
        have HBN := Lib.hid H.out.2.2
        clear a0 a1 a2 a3 b0 b1 b2 b3 H HWO
        obtain ⟨k, n', U', fd, rfl, rfl, rfl, hk, hn', H⟩ := hrel
        obtain ⟨⟨hx, hy⟩, fa, fb⟩ := HCTX.out wr H.out.1
        obtain ⟨⟨a0, a1, a2, a3⟩, -⟩ := box4_cells hx
        obtain ⟨⟨b0, b1, b2, b3⟩, -⟩ := box4_cells hy
        clear hx hy
        by_cases hkb : k < b.size
        · have hin : (i : Int) < a.size := by omega
          have hkn : (k : Int) < b.size := by omega
          cases fd with
          | true =>
            clear fa fb
            go_wp2_with fail
            go_quiet (fail)
            go_wp2_with fail
            go_roundw
            case rel => exact ⟨k + 1, n', U', true, by go_num, rfl, rfl, by omega, hn', Lib.hid ⟨belN H.out.1 _, H.out.2.1, (fun h => by cases h), fun _ => H.out.2.2.2 trivial⟩⟩
            case measure => simp [intOf]; omega
          | false =>
            obtain ⟨hU, hnn, hno⟩ := H.out.2.2.1 rfl
            subst hU
            subst hnn
            have HNO := Lib.hid hno
            clear hno
            have u1 := H.out.2.1.1 k hkb
            have u2 := H.out.2.1.2 k hkb
            cases hUk : U' k with
            | true =>
              rw [hUk] at u1
              clear fa fb
              go_wp2_with fail
              go_quiet (fail)
              go_wp2_with fail
              go_roundw
              case rel =>
                refine ⟨k + 1, n', U', false, by go_num, rfl, rfl, by omega, hn', Lib.hid ⟨belN H.out.1 _, H.out.2.1, fun _ => ⟨rfl, rfl, fun k' h => ?_⟩, fun h => by cases h⟩⟩
                by_cases he : k' = k
                · subst he; exact .inl hUk
                · exact HNO.out k' (by omega)
              case measure => simp [intOf]; omega
            | false =>
              rw [hUk] at u1
              have m1 := fa.kin i hia
              have m2 := fa.txt i hia
              have m3 := fb.kin k hkb
              have m4 := fb.txt k hkb
              clear fa fb
              have hlab : (((nd (post a 0 0) i).kind == (nd (post b 0 0) k).kind) = false ∧ labOf (nd (post b 0 0) k) ≠ labOf (nd (post a 0 0) i)) ∨
                  (((nd (post a 0 0) i).kind == (nd (post b 0 0) k).kind) = true ∧ ((nd (post a 0 0) i).text.toList == (nd (post b 0 0) k).text.toList) = false ∧ labOf (nd (post b 0 0) k) ≠ labOf (nd (post a 0 0) i)) ∨
                  (((nd (post a 0 0) i).kind == (nd (post b 0 0) k).kind) = true ∧ ((nd (post a 0 0) i).text.toList == (nd (post b 0 0) k).text.toList) = true ∧ labOf (nd (post b 0 0) k) = labOf (nd (post a 0 0) i)) := by
                unfold labOf
                rw [ByteArray.toList_eq, ByteArray.toList_eq]
                by_cases h1 : (nd (post a 0 0) i).kind = (nd (post b 0 0) k).kind <;> by_cases h2 : (nd (post a 0 0) i).text.data = (nd (post b 0 0) k).text.data
                · simp [h1, h2]
                · have := Ne.symm h2; simp [h1, h2, this]
                · have := Ne.symm h1; simp [h1, h2, this]
                · have := Ne.symm h1; simp [h1, h2, this]
              rcases hlab with ⟨k1, hne⟩ | ⟨k1, t1, hne⟩ | ⟨k1, t1, heq⟩
              · go_wp2_with fail
                go_quiet (fail)
                go_wp2_with fail
                go_roundw
                case rel =>
                  refine ⟨k + 1, n', U', false, by go_num, rfl, rfl, by omega, hn', Lib.hid ⟨belN H.out.1 _, H.out.2.1, fun _ => ⟨rfl, rfl, fun k' h => ?_⟩, fun h => by cases h⟩⟩
                  by_cases he : k' = k
                  · subst he; exact .inr hne
                  · exact HNO.out k' (by omega)
                case measure => simp [intOf]; omega
              · go_wp2_with fail
                go_quiet (fail)
                go_wp2_with fail
                go_roundw
                case rel =>
                  refine ⟨k + 1, n', U', false, by go_num, rfl, rfl, by omega, hn', Lib.hid ⟨belN H.out.1 _, H.out.2.1, fun _ => ⟨rfl, rfl, fun k' h => ?_⟩, fun h => by cases h⟩⟩
                  by_cases he : k' = k
                  · subst he; exact .inr hne
                  · exact HNO.out k' (by omega)
                case measure => simp [intOf]; omega
              · have HEQ := Lib.hid heq
                have HUK := Lib.hid hUk
                clear heq hUk
                go_wp2_with fail
                go_quiet (fail)
                go_wp2_with fail
                go_roundw
                case rel =>
                  have hbn := HBN.out.hit hkb HUK.out HEQ.out
                  rw [← HTS.out] at hbn
                  exact ⟨k + 1, n' + 1, mark U' k, true, by go_num, rfl, by go_num, by omega, by omega, Lib.hid ⟨(belN H.out.1 _).setCell (p := ⟨W.heap.size, k, none⟩) (Nat.le_refl _) _, Flg.set (w := wr.drewN _) H.out.2.1 hkb, (fun h => by cases h), fun _ => hbn⟩⟩
                case measure => simp [intOf]; omega
        · obtain rfl : k = b.size := by omega
          clear fa fb
          go_wp2_with fail
          go_roundw
          case rel =>
            cases fd with
            | true => exact ⟨i + 1, n', U', by go_num, rfl, by omega, hn', Lib.hid ⟨H.out.1, H.out.2.1, H.out.2.2.2 rfl⟩⟩
            | false =>
              obtain ⟨hU, hnn, hno⟩ := H.out.2.2.1 rfl
              subst hU
              subst hnn
              have hbn := HBN.out.miss (y := labOf (nd (post a 0 0) i)) hno
              rw [← HTS.out] at hbn
              exact ⟨i + 1, n', U', by go_num, rfl, by omega, hn', Lib.hid ⟨H.out.1, H.out.2.1, hbn⟩⟩
          case measure => simp [intOf]; omega
    · obtain rfl : i = a.size := by omega
      have hcom := H.out.2.2.com
      rw [List.take_of_length_le (by rw [labs_len]; exact Nat.le_refl _), com_comm] at hcom
      have HC := Lib.hid hcom
      clear hcom
      go_wp2_with fail
      go_ret
      refine ⟨?_, HBEL.out.trans (H.out.1.mono HBEL.out.size)⟩
      unfold boundV
      show Ending.returned (.int .i64 (max (a.size : Int) (b.size : Int) - (n : Int))) = _
      rw [HC.out]
      congr 2
      omega
end Go.Proofs.Ytjijfgkmjachnaa
