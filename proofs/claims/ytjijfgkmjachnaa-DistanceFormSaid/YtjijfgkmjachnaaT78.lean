/- The reference's Subtrees, walked. -/
import Derived.Test.YtjijfgkmjachnaaT76
import Derived.Test.YtjijfgkmjachnaaT77
import Derived.Test.YtjijfgkmjachnaaC11
namespace Go.Proofs.Ytjijfgkmjachnaa
set_option linter.unusedVariables false
set_option linter.unusedSimpArgs false
open Go.RowKit

theorem Q1.col {B : Nat} {W : World} {As : Nat → Option Addr} {cs : Nat → Nat} {xs : List Ent} (h : Q1 B W As cs xs) (hn : 0 < xs.length) (j : Nat) (hj : j < 4) :
    ∃ g, As j = some ⟨g, 0, none⟩ ∧ g < W.heap.size ∧ ∀ i, i < xs.length → W.cell? ⟨g, i, none⟩ = some (fld j (ent xs i)) := by
  obtain ⟨g, c, hv, _, hlt, _, hc⟩ := own_some (h.own j hj) hn
  unfold sl at hv
  injection hv with hv
  exact ⟨g, hv, hlt, fun i hi => hc i _ (fcol_get j xs i hi)⟩
/-- a struct's lists, by their blocks -/
theorem Q1.flatR {B : Nat} {W : World} {As : Nat → Option Addr} {cs : Nat → Nat} {t : Nd} (h : Q1 B W As cs (post t 0 0)) :
    ∃ gK gT gL gN, (As 0 = some ⟨gK, 0, none⟩ ∧ As 1 = some ⟨gT, 0, none⟩ ∧ As 2 = some ⟨gL, 0, none⟩ ∧ As 3 = some ⟨gN, 0, none⟩) ∧ FlatR W (post t 0 0) t.size gK gT gL gN ∧ gK < W.heap.size ∧ gT < W.heap.size ∧ gL < W.heap.size ∧ gN < W.heap.size := by
  have hl := post_len t 0 0
  have hp := t.size_pos
  obtain ⟨gK, a0, b0, c0⟩ := h.col (by omega) 0 (by omega)
  obtain ⟨gT, a1, b1, c1⟩ := h.col (by omega) 1 (by omega)
  obtain ⟨gL, a2, b2, c2⟩ := h.col (by omega) 2 (by omega)
  obtain ⟨gN, a3, b3, c3⟩ := h.col (by omega) 3 (by omega)
  rw [hl] at c0 c1 c2 c3
  exact ⟨gK, gT, gL, gN, ⟨a0, a1, a2, a3⟩, ⟨c0, c1, c2, c3⟩, b0, b1, b2, b3⟩
/-- which pairs are done -/
def Done8 (a b : Nd) (i k : Nat) (D : Nat → Nat → Int) : Prop := ∀ s t, s < a.size → t < b.size → (s < i ∨ s = i ∧ t < k) → D s t = td (nd (post a 0 0) s) (nd (post b 0 0) t)
def Bd8 (a b : Nd) (D : Nat → Nat → Int) : Prop := ∀ s t, s < a.size → t < b.size → 0 ≤ D s t ∧ D s t ≤ 10000000
theorem forestsD (a b : Nd) (sa : a.size ≤ 900000) (sb : b.size ≤ 900000) (V : World) (top gK gT gL gN gK' gT' gL' gN' gd cK cT cL cN cK' cT' cL' cN' cd : Nat) (bs : Nat → Nat) (D : Nat → Nat → Int) (i k : Nat) (hi : i < a.size) (hk : k < b.size)
    (FA : FlatR V (post a 0 0) a.size gK gT gL gN) (FB : FlatR V (post b 0 0) b.size gK' gT' gL' gN') (TD : Tab V top gd bs a.size b.size D) (hlt : (gK < top ∧ gT < top ∧ gL < top ∧ gN < top) ∧ gK' < top ∧ gT' < top ∧ gL' < top ∧ gN' < top) (bd : Bd8 a b D) (hD : Done8 a b i k D) :
    Calls Try.prog 33 #[.agg #[.slice (some ⟨gK, 0, none⟩) a.size cK, .slice (some ⟨gT, 0, none⟩) a.size cT, .slice (some ⟨gL, 0, none⟩) a.size cL, .slice (some ⟨gN, 0, none⟩) a.size cN],
        .agg #[.slice (some ⟨gK', 0, none⟩) b.size cK', .slice (some ⟨gT', 0, none⟩) b.size cT', .slice (some ⟨gL', 0, none⟩) b.size cL', .slice (some ⟨gN', 0, none⟩) b.size cN'], .int .i64 i, .int .i64 k, .slice (some ⟨gd, 0, none⟩) a.size cd] V fun e w' => e = .returned (.tuple #[]) ∧
      ∃ D', Tab w' top gd bs a.size b.size D' ∧ Bd8 a b D' ∧ Done8 a b i (k + 1) D' ∧ Below top V w' := by
  have gx := post_good a
  have gy := post_good b
  have lx := post_len a 0 0
  have ly := post_len b 0 0
  have li := gx.lf_le i (by omega)
  have lk := gy.lf_le k (by omega)
  refine (refForests (post a 0 0) (post b 0 0) a.size b.size i k hi hk sa sb V gK gT gL gN gK' gT' gL' gN' gd top cK cT cL cN cK' cT' cL' cN' cd bs D FA FB TD bd (fun s h1 h2 => ?_) (fun t h1 h2 => ?_) (by omega) (by omega) (fun s hs => ?_)).mono ?_
  · refine ⟨?_, by have := gx.lf_le s (by omega); omega⟩
    rcases Nat.lt_or_ge s i with h | h
    · exact gx.lam h (by omega) h1
    · rw [show s = i by omega]; exact Nat.le_refl _
  · refine ⟨?_, by have := gy.lf_le t (by omega); omega⟩
    rcases Nat.lt_or_ge t k with h | h
    · exact gy.lam h (by omega) h1
    · rw [show t = k by omega]; exact Nat.le_refl _
  · have := (TD.lo s hs).1
    refine ⟨?_, ?_, ?_, ?_, ?_, ?_, ?_, ?_⟩ <;> omega
  · rintro e w' ⟨rfl, hkp, F, hrec, hF, htab⟩
    have htd := table_td gx gy (by omega) (by omega) hrec (fun s t h1 h2 h3 h4 h5 => hD s t (by omega) (by omega) (by
      by_cases hs : s = i
      · right; refine ⟨hs, ?_⟩
        by_cases ht : t = k
        · subst hs ht; rcases h5 with h | h <;> exact absurd rfl h
        · omega
      · omega))
    refine ⟨rfl, _, htab, fun s t hs ht => ?_, fun s t hs ht h => ?_, ?_⟩
    · dsimp only
      split
      · have := hF (s - lf (post a 0 0) i + 1) (t - lf (post b 0 0) k + 1)
        omega
      · exact bd s t hs ht
    · dsimp only
      split
      · rename_i hc
        exact htd s t hc.1 hc.2.1 hc.2.2.1 hc.2.2.2.1 hc.2.2.2.2.1 hc.2.2.2.2.2
      · rename_i hc
        refine hD s t hs ht ?_
        by_cases he : s = i ∧ t = k
        · obtain ⟨rfl, rfl⟩ := he
          exact absurd ⟨by omega, Nat.le_refl _, by omega, Nat.le_refl _, rfl, rfl⟩ hc
        · omega
    · have hV : top ≤ V.heap.size := by have := TD.glo; omega
      exact hkp.below hV fun q ⟨s, hs, e⟩ => by rw [e]; exact (TD.lo s hs).1

set_option maxRecDepth 100000 in
set_option maxHeartbeats 4000000 in
theorem refSubtrees (a b : Nd) (A B : Option Addr) (cA cB : Nat) (w : World) (hA : RN w a A cA) (hB : RN w b B cB) (sa : a.size ≤ 900000) (sb : b.size ≤ 900000) :
    Calls Try.prog 14 #[a.val A cA, b.val B cB] w fun e w' => (∃ g cap bs T, e = .returned (.slice (some ⟨g, 0, none⟩) a.size cap) ∧ Tab w' w.heap.size g bs a.size b.size T ∧ SubT a b T) ∧ Below w.heap.size w w' := by
  obtain ⟨w0, hw0⟩ : ∃ w0, (w.alloc (.cells (cells5 a A cA).toArray 24)).alloc (.cells (cells5 b B cB).toArray 24) = w0 := ⟨_, rfl⟩
  obtain ⟨pa, pb, hb0⟩ := heap2' w a b A B cA cB w0 hw0
  have hRA := RN.keep hb0 hA
  have hRB := RN.keep hb0 hB
  have HR := Lib.hid (And.intro hRA (And.intro hRB (And.intro pa pb)))
  have hw1 : ((w.alloc (.cells #[.int .i64 a.kind, .string a.text, .int .i64 a.pos, .int .i64 a.fin, .slice A a.kids.length cA] 24)).alloc (.cells #[.int .i64 b.kind, .string b.text, .int .i64 b.pos, .int .i64 b.fin, .slice B b.kids.length cB] 24)) = w0 := hw0
  have HB0 := Lib.hid hb0
  clear hA hB hw0 hRA hRB pa pb hb0
  unfold Nd.val
  go_enter Try.func14, Try.ntmps14
  go_wp2_with fail
  refine region77_14 a b A B cA cB sa sb w0 HR.out.1 HR.out.2.1 w.heap.size (w.heap.size + 1) HR.out.2.2.1 HR.out.2.2.2 _ (by rfl) (by rfl) (by rfl) _ w0 (Below.refl _ _) ?_
  intro L f W hall hI
  simp only [ds77_14, setAll, List.setIfInBounds_toArray, List.set_cons_zero, List.set_cons_succ, Nat.zero_add, Nat.reduceAdd]
  obtain ⟨As, cs, e2, hq2⟩ := hI.c2 (hall 2 (by omega))
  obtain ⟨As', cs', e5, hq5⟩ := hI.c5 (hall 5 (by omega))
  obtain ⟨p6, e6, lo6, _⟩ := hI.x6 (hall 6 (by omega))
  obtain ⟨p7, e7, lo7, _⟩ := hI.x7 (hall 7 (by omega))
  obtain ⟨gK, gT, gL, gN, ⟨a0, a1, a2, a3⟩, FA, lK, lT, lL, lN⟩ := hq2.flatR
  obtain ⟨gK', gT', gL', gN', ⟨b0, b1, b2, b3⟩, FB, lK', lT', lL', lN'⟩ := hq5.flatR
  unfold agg4 at e2 e5
  rw [post_len, a0, a1, a2, a3] at e2
  rw [post_len, b0, b1, b2, b3] at e5
  have h8 := (hI.s8 (hall 8 (by omega))).2.2 p6 _ _ _ _ e6 e2
  have h9 := (hI.s9 (hall 9 (by omega))).2.2 p7 _ _ _ _ e7 e5
  generalize cs 0 = cK at *
  generalize cs 1 = cT at *
  generalize cs 2 = cL at *
  generalize cs 3 = cN at *
  generalize cs' 0 = cK' at *
  generalize cs' 1 = cT' at *
  generalize cs' 2 = cL' at *
  generalize cs' 3 = cN' at *
  have HCTX := Lib.hid (show ∀ V, Below W.heap.size W V → (V.heap[p6]? = some (.cells #[.slice (some ⟨gK, 0, none⟩) a.size cK, .slice (some ⟨gT, 0, none⟩) a.size cT, .slice (some ⟨gL, 0, none⟩) a.size cL, .slice (some ⟨gN, 0, none⟩) a.size cN] 60 (0, 0)) ∧
      V.heap[p7]? = some (.cells #[.slice (some ⟨gK', 0, none⟩) b.size cK', .slice (some ⟨gT', 0, none⟩) b.size cT', .slice (some ⟨gL', 0, none⟩) b.size cL', .slice (some ⟨gN', 0, none⟩) b.size cN'] 60 (0, 0))) ∧ FlatR V (post a 0 0) a.size gK gT gL gN ∧ FlatR V (post b 0 0) b.size gK' gT' gL' gN' from fun V h =>
    ⟨⟨up_heap h h8, up_heap h h9⟩, FA.keep (S := fun _ => False) (Keeps.of_below h) (fun h => h) (fun h => h) (fun h => h) (fun h => h), FB.keep (S := fun _ => False) (Keeps.of_below h) (fun h => h) (fun h => h) (fun h => h) (fun h => h)⟩)
  have HBEL := Lib.hid (show Below w.heap.size w W from HB0.out.trans (hI.bel.mono HB0.out.size))
  have HFD := Lib.hid (fun V gd cd bs D i k hi hk (hV : Below W.heap.size W V) TD bd hD => forestsD a b sa sb V W.heap.size gK gT gL gN gK' gT' gL' gN' gd cK cT cL cN cK' cT' cL' cN' cd bs D i k hi hk (HCTX.out V hV).2.1 (HCTX.out V hV).2.2 TD ⟨⟨lK, lT, lL, lN⟩, lK', lT', lL', lN'⟩ bd hD)
  have HPA := Lib.hid (And.intro a.size_pos b.size_pos)
  rw [e6, e7]
  unfold ptr
  obtain ⟨f0, hf0⟩ : ∃ f0, f 0 = f0 := ⟨_, rfl⟩
  obtain ⟨f1, hf1⟩ : ∃ f1, f 1 = f1 := ⟨_, rfl⟩
  obtain ⟨f2, hf2⟩ : ∃ f2, f 2 = f2 := ⟨_, rfl⟩
  obtain ⟨f3, hf3⟩ : ∃ f3, f 3 = f3 := ⟨_, rfl⟩
  obtain ⟨f4, hf4⟩ : ∃ f4, f 4 = f4 := ⟨_, rfl⟩
  obtain ⟨f5, hf5⟩ : ∃ f5, f 5 = f5 := ⟨_, rfl⟩
  rw [hf0, hf1, hf2, hf3, hf4, hf5]
  clear hf0 hf1 hf2 hf3 hf4 hf5 e2 e5 e6 e7 h8 h9 hI FA FB lK lT lL lN lK' lT' lL' lN' hq2 hq5 a0 a1 a2 a3 b0 b1 b2 b3 hall lo6 lo7 hw1 HB0 HR
  obtain ⟨⟨hx, hy⟩, -⟩ := HCTX.out W (Below.refl _ _)
  obtain ⟨⟨a0, a1, a2, a3⟩, -⟩ := box4_cells hx
  obtain ⟨⟨b0, b1, b2, b3⟩, -⟩ := box4_cells hy
  clear hx hy
  go_wp2_with fail
  refine (refTable a.size b.size W HPA.out.1 (by omega) (by omega)).mono ?_
  rintro e W1 ⟨⟨gd, cd, bs, rfl, TD⟩, hb1⟩
  have HT1 := Lib.hid TD
  have HB1 := Lib.hid hb1
  clear TD hb1 a0 a1 a2 a3 b0 b1 b2 b3
  go_wp2_with fail
  go_loopw [8] (fun c wr => ∃ (i : Nat) (D : Nat → Nat → Int), c = .int .i64 (i : Nat) ∧ i ≤ a.size ∧ Hid (Below W.heap.size W wr ∧ Tab wr W.heap.size gd bs a.size b.size D ∧ Bd8 a b D ∧ Done8 a b i 0 D)) (fun c _ => a.size - (intOf c).toNat)
  case atStart => exact ⟨0, _, rfl, Nat.zero_le _, Lib.hid ⟨HB1.out, HT1.out, fun s t _ _ => ⟨Int.le_refl _, show (0 : Int) ≤ 10000000 by decide⟩, fun s t _ _ h => by omega⟩⟩
  case round =>
    clear HT1 HB1
    obtain ⟨i, D, rfl, hi, H⟩ := hrel
    obtain ⟨⟨hx, hy⟩, -⟩ := HCTX.out wr H.out.1
    obtain ⟨⟨a0, a1, a2, a3⟩, -⟩ := box4_cells hx
    obtain ⟨⟨b0, b1, b2, b3⟩, -⟩ := box4_cells hy
    clear hx hy
    by_cases hia : i < a.size
    · go_wp2_with fail
      obtain ⟨wo, hwo⟩ : ∃ wo : World, wo = wr := ⟨_, rfl⟩
      have HWO := Lib.hid hwo
      clear hwo
      go_loopw [9] (fun c wr => ∃ (k : Nat) (D : Nat → Nat → Int), c = .int .i64 (k : Nat) ∧ k ≤ b.size ∧ Hid (Below W.heap.size W wr ∧ Tab wr W.heap.size gd bs a.size b.size D ∧ Bd8 a b D ∧ Done8 a b i k D)) (fun c _ => b.size - (intOf c).toNat)
      case atStart => exact ⟨0, D, rfl, Nat.zero_le _, H⟩
      case round =>
        clear a0 a1 a2 a3 b0 b1 b2 b3 H HWO
        obtain ⟨k, D, rfl, hk, H⟩ := hrel
        obtain ⟨⟨hx, hy⟩, -⟩ := HCTX.out wr H.out.1
        obtain ⟨⟨a0, a1, a2, a3⟩, -⟩ := box4_cells hx
        obtain ⟨⟨b0, b1, b2, b3⟩, -⟩ := box4_cells hy
        clear hx hy
        by_cases hkb : k < b.size
        · go_wp2_with fail
          refine (HFD.out wr gd cd bs D i k hia hkb H.out.1 H.out.2.1 H.out.2.2.1 H.out.2.2.2).mono ?_
          rintro e w3 ⟨rfl, D', t1, t2, t3, t4⟩
          have H3 := Lib.hid (And.intro (H.out.1.trans t4) (And.intro t1 (And.intro t2 t3)))
          clear t1 t2 t3 t4 a0 a1 a2 a3 b0 b1 b2 b3 H
          go_wp2_with fail
          go_roundw
          case rel => exact ⟨k + 1, D', by go_num, by omega, H3⟩
          case measure => simp [intOf]; omega
        · obtain rfl : k = b.size := by omega
          go_wp2_with fail
          go_roundw
          case rel => exact ⟨i + 1, D, by go_num, by omega, Lib.hid ⟨H.out.1, H.out.2.1, H.out.2.2.1, fun s t hs ht h => H.out.2.2.2 s t hs ht (by omega)⟩⟩
          case measure => simp [intOf]; omega
    · obtain rfl : i = a.size := by omega
      go_wp2_with fail
      refine (refTable a.size b.size wr HPA.out.1 (by omega) (by omega)).mono ?_
      rintro e W5 ⟨⟨g2, c2, bs2, rfl, TT⟩, hb5⟩
      have hsz := H.out.1.size
      have hDone := H.out.2.2.2
      have HDN := Lib.hid (show ∀ s t, s < a.size → t < b.size → D s t = td (nd (post a 0 0) s) (nd (post b 0 0) t) from fun s t hs ht => hDone s t hs ht (by omega))
      have HT5 := Lib.hid TT
      have HTD5 := Lib.hid (H.out.2.1.keep (S := fun _ => False) (Keeps.of_below hb5) (fun h => h) (fun _ _ h => h))
      have HB5 := Lib.hid (H.out.1.trans (hb5.mono hsz))
      have HLO := Lib.hid (show (∀ z, z < a.size → bs z < wr.heap.size) ∧ gd < wr.heap.size from ⟨fun z hz => (H.out.2.1.lo z hz).2, H.out.2.1.glo.2⟩)
      obtain ⟨G, hG⟩ : ∃ G, wr.heap.size = G := ⟨_, rfl⟩
      rw [hG] at HT5 HLO hsz
      clear TT hb5 hDone H hG a0 a1 a2 a3 b0 b1 b2 b3
      go_wp2_with fail
      go_loopw [11] (fun c wz => ∃ (i : Nat) (T : Nat → Nat → Int), c = .int .i64 (i : Nat) ∧ i ≤ a.size ∧ Hid (Below W.heap.size W wz ∧ Tab wz W.heap.size gd bs a.size b.size D ∧ Tab wz G g2 bs2 a.size b.size T ∧
          ∀ i' k', i' < i → k' < b.size → T (nm (post a 0 0) i') (nm (post b 0 0) k') = D i' k')) (fun c _ => a.size - (intOf c).toNat)
      case atStart => exact ⟨0, _, rfl, Nat.zero_le _, Lib.hid ⟨HB5.out, HTD5.out, HT5.out, fun i' k' h => by omega⟩⟩
      case round =>
        clear HB5 HTD5 HT5
        obtain ⟨i, T, rfl, hi, H⟩ := hrel
        obtain ⟨⟨hx, hy⟩, -⟩ := HCTX.out wr H.out.1
        obtain ⟨⟨a0, a1, a2, a3⟩, -⟩ := box4_cells hx
        obtain ⟨⟨b0, b1, b2, b3⟩, -⟩ := box4_cells hy
        clear hx hy
        by_cases hia : i < a.size
        · go_wp2_with fail
          obtain ⟨wo, hwo⟩ : ∃ wo : World, wo = wr := ⟨_, rfl⟩
          have HWO := Lib.hid hwo
          clear hwo
          go_loopw [12] (fun c wz => ∃ (k : Nat) (T : Nat → Nat → Int), c = .int .i64 (k : Nat) ∧ k ≤ b.size ∧ Hid (Below W.heap.size W wz ∧ Tab wz W.heap.size gd bs a.size b.size D ∧ Tab wz G g2 bs2 a.size b.size T ∧
              ∀ i' k', (i' < i ∧ k' < b.size) ∨ (i' = i ∧ k' < k) → T (nm (post a 0 0) i') (nm (post b 0 0) k') = D i' k')) (fun c _ => b.size - (intOf c).toNat)
          case atStart => exact ⟨0, T, rfl, Nat.zero_le _, Lib.hid ⟨H.out.1, H.out.2.1, H.out.2.2.1, fun i' k' h => H.out.2.2.2 i' k' (by omega) (by omega)⟩⟩
          case round =>
            clear a0 a1 a2 a3 b0 b1 b2 b3 H HWO
            obtain ⟨k, T2, rfl, hk, H⟩ := hrel
            obtain ⟨⟨hx, hy⟩, fa, fb⟩ := HCTX.out wr H.out.1
            obtain ⟨⟨a0, a1, a2, a3⟩, -⟩ := box4_cells hx
            obtain ⟨⟨b0, b1, b2, b3⟩, -⟩ := box4_cells hy
            clear hx hy
            by_cases hkb : k < b.size
            · have ni := nm_lt a i hia
              have nk := nm_lt b k hkb
              have z0 := H.out.2.1.outer i hia
              have z1 := H.out.2.1.inner i k hia hkb
              have z3 := fa.num i hia
              have z4 := fb.num k hkb
              have z5 := H.out.2.2.1.outer _ ni
              have z6 := H.out.2.2.1.inner _ _ ni nk
              have z7 := H.out.2.2.1.free _ _ ni nk
              have hlo2 := (H.out.2.2.1.lo _ ni).1
              obtain ⟨ii, hii⟩ : ∃ ii, nm (post a 0 0) i = ii := ⟨_, rfl⟩
              obtain ⟨kk, hkk⟩ : ∃ kk, nm (post b 0 0) k = kk := ⟨_, rfl⟩
              rw [hii] at z3 z5 z6 z7 ni hlo2
              rw [hkk] at z4 z6 z7 nk
              have hin : (i : Int) < a.size := by omega
              have hkn : (k : Int) < b.size := by omega
              have ni' : (ii : Int) < a.size := by omega
              have nk' : (kk : Int) < b.size := by omega
              have HII := Lib.hid hii
              have HKK := Lib.hid hkk
              clear fa fb hii hkk
              go_wp2_with fail
              go_still_tail 20, (by kernel_rfl)
              go_wp2_with fail
              go_roundw
              case rel =>
                have hii := HII.out
                have hkk := HKK.out
                refine ⟨k + 1, upd T2 ii kk (D i k), by go_num, by omega, Lib.hid ⟨?_, ?_, ?_, fun i' k' h => ?_⟩⟩
                · exact H.out.1.drew.setCell (p := ⟨bs2 ii, kk, none⟩) (by show W.heap.size ≤ bs2 ii; omega) _
                · refine H.out.2.1.keep (S := fun b => b = bs2 ii) ((Keeps.refl (fun b => b = bs2 ii) _).drew.setCell (p := ⟨bs2 ii, kk, none⟩) (.inl rfl) _) (fun h => ?_) (fun z hz h => ?_)
                  · have := HLO.out.2; omega
                  · have := HLO.out.1 z hz; omega
                · exact Tab.set (w := wr.drew) (H.out.2.2.1.drewN 1) ni nk (D i k)
                · by_cases he : i' = i ∧ k' = k
                  · obtain ⟨rfl, rfl⟩ := he
                    rw [hii, hkk]
                    exact upd_same _ _ _ _
                  · have hlt : i' < a.size ∧ k' < b.size := by rcases h with h | h <;> exact ⟨by omega, by omega⟩
                    rw [upd_other]
                    · exact H.out.2.2.2 i' k' (by omega)
                    · rintro ⟨h1, h2⟩
                      rw [← hii] at h1
                      rw [← hkk] at h2
                      exact he ⟨nm_inj a _ _ hlt.1 hia h1, nm_inj b _ _ hlt.2 hkb h2⟩
              case measure => simp [intOf]; omega
            · obtain rfl : k = b.size := by omega
              go_wp2_with fail
              go_roundw
              case rel => exact ⟨i + 1, T2, by go_num, by omega, Lib.hid ⟨H.out.1, H.out.2.1, H.out.2.2.1, fun i' k' h1 h2 => H.out.2.2.2 i' k' (by omega)⟩⟩
              case measure => simp [intOf]; omega
        · obtain rfl : i = a.size := by omega
          go_wp2_with fail
          go_ret
          have hwW := HBEL.out.size
          have h := H.out.2.2.1
          refine ⟨⟨g2, c2, bs2, T, rfl, ⟨h.outer, h.inner, h.free, h.inj, h.ne, fun i hi => ⟨by have := (h.lo i hi).1; omega, (h.lo i hi).2⟩, ⟨by have := h.glo.1; omega, h.glo.2⟩⟩, fun i k hi hk => ?_⟩, HBEL.out.trans (H.out.1.mono hwW)⟩
          rw [H.out.2.2.2 i k hi hk, HDN.out i k hi hk]
end Go.Proofs.Ytjijfgkmjachnaa
