/- The reference's Symbols, walked. -/
import Derived.Test.YtpkjiimcoepjpaaDoorT43
namespace Go.Proofs.YtpkjiimcoepjpaaDoor
set_option linter.unusedVariables false
set_option linter.unusedSimpArgs false
open Go.RowKit Go.Proofs.YtpkjiimcoepjpaaDoorW.PrintWords
open PFingerprintSymbols (S24 z24 rd_T24 k24 k24_mk)

def P64 (k : Int) : Prop := -9223372036854775808 ≤ k ∧ k ≤ 9223372036854775807
set_option maxRecDepth 100000 in
set_option maxHeartbeats 4000000 in
theorem RefSymbolsW (w0 : World) (n : Nat) : ∀ (t : Nd) (A : Option Addr) (c : Nat) (w : World), t.size ≤ n → t.size ≤ 1000000 → AllK P64 t → RN w0 t A c → Below w0.heap.size w0 w →
    Calls Tryd.prog 16 #[t.val A c] w fun e w' => (∃ g cap, e = .returned (.slice (some ⟨g, 0, none⟩) (syms t).length cap) ∧ OwR w' w.heap.size (.slice (some ⟨g, 0, none⟩) (syms t).length cap) (syms t)) ∧ Below w.heap.size w w' := by
  induction n with
  | zero => intro t A c w h; have := t.size_pos; omega
  | succ n ih =>
    intro t A c w hn hsz hall hR0 hB0
    have IH := Lib.hid ih
    have HR0 := Lib.hid hR0
    have HB0 := Lib.hid hB0
    have HALL := Lib.hid hall.top
    have hse := Lib.hid t.size_eq
    have hkl : t.kids.length ≤ 1000000 := by
      have : ∀ l : List Nd, l.length ≤ Nd.sizes l := by
        intro l
        induction l with
        | nil => simp
        | cons a l ih => rw [Nd.sizes_cons, List.length_cons]; have := a.size_pos; omega
      have := this t.kids
      have := t.size_eq
      omega
    obtain ⟨i3, hi3, hz0, hz1, hz2⟩ := info_parts inf3
    have hallT := hall.top
    clear ih hR0 hB0 hall
    unfold Nd.val
    go_enter Tryd.func16, Tryd.ntmps16
    go_wp2_with fail
    obtain ⟨w1, hw1⟩ : ∃ w1, w.alloc (.cells #[.int .i64 t.kind, .string t.text, .int .i64 t.pos, .int .i64 t.fin, .slice A t.kids.length c] 24) = w1 := ⟨_, rfl⟩
    rw [hw1]
    have hh : w1.heap[w.heap.size]? = some (.cells (cells5 t A c).toArray 24 (0, 0)) := by rw [← hw1]; exact heap_alloc_new _ _
    have hb1 : Below w.heap.size w w1 := by rw [← hw1]; exact (Below.refl _ _).alloc (Nat.le_refl _) _
    have hwz1 : w1.heap.size = w.heap.size + 1 := by rw [← hw1]; simp
    have HB1 := Lib.hid hb1
    have HH := Lib.hid (show ∀ W, Below w1.heap.size w1 W → At5 W w.heap.size 0 t A c from fun W h => At5.of ((h.block _ (hltW hh)).trans hh))
    clear hw1 hh hb1
    have htop := hallT
    refine regionR t.kind t.text w.heap.size w1 htop.1.1 htop.1.2 (by have := htop.2.1; omega) htop.2.1 (HH.out w1 (Below.refl _ _)).c0 (by have := (HH.out w1 (Below.refl _ _)).c1; simpa using this) _ (by rfl) (by rfl) _ ?_
    intro f w3 q e9 hn3 hq3 hb13
    simp only [dsR, setAll, List.setIfInBounds_toArray, List.set_cons_zero, List.set_cons_succ, Nat.zero_add, Nat.reduceAdd]
    rw [e9]
    have HN3 := Lib.hid (And.intro hn3 (And.intro hb13 hq3))
    obtain ⟨d0', d1', d2', d3', d4'⟩ := HH.out w3 hb13
    clear hn3 hb13 hq3 htop e9
    go_wp2_with fail
    go_loopw [3, 4] (fun v s wr => ∃ (i m g cap : Nat), s = .int .i64 (i : Nat) ∧ v = .slice (some ⟨g, 0, none⟩) m cap ∧ i ≤ t.kids.length ∧ m ≤ 2 * t.size ∧ Hid (m = (symN t :: (t.kids.take i).flatMap syms).length) ∧ Hid (wr.ownsRow w.heap.size 3 1 (.slice (some ⟨g, 0, none⟩) m cap) m (ints (symN t :: (t.kids.take i).flatMap syms)) ∧ Below w.heap.size w wr ∧ At5 wr w.heap.size 0 t A c ∧ g ≠ w.heap.size)) (fun _ s _ => t.kids.length - (intOf s).toNat)
    case atStart =>
      have hp := t.size_pos
      refine ⟨0, 1, q, 1, rfl, rfl, Nat.zero_le _, by omega, Lib.hid (by simp), Lib.hid ⟨⟨rfl, .inr ⟨q, 1, _, rfl, by have := HN3.out.2.2; omega, HN3.out.1, Nat.le_refl _, by simp [maxLen], rfl, rfl⟩⟩, HB1.out.trans (HN3.out.2.1.mono HB1.out.size), HH.out w3 HN3.out.2.1, by have := HN3.out.2.2; omega⟩⟩
    case round =>
      clear d0' d1' d2' d3' d4' HN3
      obtain ⟨i, m, g, cap, rfl, rfl, hi, hm, HM, H⟩ := hrel
      obtain ⟨d0, d1, d2, d3, d4⟩ := H.out.2.2.1
      have hbw : Below w0.heap.size w0 wr := HB0.out.trans (H.out.2.1.mono HB0.out.size)
      by_cases hlt : i < t.kids.length
      · obtain ⟨b, o, A', c', rfl, hcell, hrk⟩ := HR0.out.get i hlt
        obtain ⟨r0, r1, r2, r3, r4⟩ := hcell.keep hbw hcell.lt
        obtain ⟨k, hk⟩ : ∃ k, t.kids[i] = k := ⟨_, rfl⟩
        have hkm : k ∈ t.kids := by rw [← hk]; exact List.getElem_mem _
        have hks := Nd.size_kid hkm
        have hts := sizes_take_succ t.kids i hlt
        have htl := sizes_take_le t.kids (i + 1)
        rw [hk] at r0 r1 r2 r3 r4 hrk hts
        have hse2 := hse.out
        have hfl := flat_len (t.kids.take i) (fun k _ => syms_len _ k (Nat.le_refl _))
        have hkl2 := syms_len _ k (Nat.le_refl _)
        have hkp := syms_pos k
        have hmv := HM.out
        rw [List.length_cons] at hmv
        have hmk : m + (syms k).length ≤ 2 * t.size := by omega
        have hb24 : Below wr.heap.size wr wr := Below.refl _ _
        have HC := Lib.hid (IH.out k A' c' _ (by omega) (by omega) (HALL.out.2.2 k hkm) hrk (hbw.trans (hb24.mono hbw.size)))
        have HB24 := Lib.hid hb24
        have HKI := Lib.hid hk
        have hwz := H.out.2.1.size
        unfold Nd.val at HC
        clear hcell hrk hts htl hse2 hfl hkl2 hmv hbw hb24 hk hkm hks
        have hm9 : m ≤ 2000000 := by omega
        have hmk9 : m + (syms k).length ≤ 2000000 := by omega
        go_wp2_with fail
        refine HC.out.mono ?_
        rintro e w5 ⟨⟨g2, cap2, rfl, hown2⟩, hb5⟩
        have hb05 : Below wr.heap.size wr w5 := HB24.out.trans (hb5.mono HB24.out.size)
        have ho5 := ownKeep H.out.1 hb05
        have hc5 := fun j (hj : j < (syms k).length) => hown2.cellAt j (by omega)
        have H5 := Lib.hid (And.intro ho5 (And.intro hc5 hb05))
        have hsz5 : w.heap.size ≤ w5.heap.size := Nat.le_trans hwz hb05.size
        clear hb5 hb05 ho5 hc5 hown2 r0 r1 r2 r3 r4 d0 d1 d2 d3 d4 HC
        go_wp2_with (at_builtin; refine wpList_append_lies _ rfl _ _ 25 rfl w.heap.size 3 i3 _ 1 8 Tryd.underlying25 hi3 hz0 hz1 hz2 rfl (by decide) (.slice (some ⟨g, 0, none⟩) m cap) m (ints (symN t :: (t.kids.take i).flatMap syms)) (by rfl) ?hown ⟨g2, 0, none⟩ (syms k).length cap2 (ints (syms k)) (by rfl) ?hlen ?hnews ?hone hkp ?h63 ?hby ?hbase w5.heap.size rfl ?_)
        case hown => exact H5.out.1
        case hlen => simp [ints]
        case hnews =>
          intro j u hu
          have hj : j < (syms k).length := by have := (List.getElem?_eq_some_iff.1 hu).1; simpa [ints] using this
          rw [Go.WideShapes.add_plain, Nat.zero_add]
          exact (H5.out.2.1 j hj).trans hu
        case hone =>
          intro u hu
          unfold ints at hu
          obtain ⟨x, _, rfl⟩ := List.mem_map.1 hu
          rfl
        case h63 => unfold maxLen; omega
        case hby => omega
        case hbase => exact hsz5
        intro g' cap' w6 hown6 hgrow hat hglt
        have HX := Lib.hid (And.intro hown6 (And.intro hgrow hat))
        clear hown6 hgrow hat
        go_wp2_with fail
        go_roundw
        case rel =>
          obtain ⟨hown6, hgrow, hat⟩ := HX.out
          have hl : symN t :: (t.kids.take (i + 1)).flatMap syms = (symN t :: (t.kids.take i).flatMap syms) ++ syms k := by
            rw [List.take_succ_eq_append_getElem hlt, List.flatMap_append, HKI.out]; simp
          have hgl := H5.out.1.lt g rfl
          have hb6 : Below w.heap.size w w6 := (H.out.2.1.trans (H5.out.2.2.mono hwz)).grown hgrow hsz5 (fun q hq => (H5.out.1.lt q hq).1)
          have hbox : w6.heap[w.heap.size]? = wr.heap[w.heap.size]? := by
            have hlt0 := World.block_lt_of_cell? wr _ H.out.2.2.1.1
            rw [hgrow.block _ (Nat.lt_of_lt_of_le hlt0 H5.out.2.2.size) (fun e => H.out.2.2.2 (by injection e with e; exact e.symm)), H5.out.2.2.block _ hlt0]
          refine ⟨i + 1, m + (syms k).length, g', cap', by go_num, rfl, by omega, by omega, Lib.hid (by rw [hl, List.length_append, ← HM.out]), Lib.hid ⟨?_, hb6, ?_, ?_⟩⟩
          · rw [hl]; unfold ints; rw [List.map_append]; exact hown6
          · obtain ⟨x0, x1, x2, x3, x4⟩ := H.out.2.2.1
            exact ⟨(World.cell?_of_block hbox).trans x0, (World.cell?_of_block hbox).trans x1, (World.cell?_of_block hbox).trans x2, (World.cell?_of_block hbox).trans x3, (World.cell?_of_block hbox).trans x4⟩
          · have hlt0 := World.block_lt_of_cell? wr _ H.out.2.2.1.1
            rcases hat with e | e
            · have e2 : g = g' := by simpa [Value.ownBlock] using e
              intro h; exact H.out.2.2.2 (e2.trans h)
            · have h3 := H5.out.2.2.size
              have h4 : w.heap.size < wr.heap.size := hlt0
              omega
        case measure => simp [intOf]; omega
      · obtain rfl : i = t.kids.length := by omega
        rw [List.take_length] at HM H
        have hwz := H.out.2.1.size
        have hlt0 := World.block_lt_of_cell? wr _ H.out.2.2.1.1
        have hm9 : m ≤ 2000000 := by omega
        by_cases hk0 : t.kids.length = 0
        · have hs : syms t = symN t :: t.kids.flatMap syms := by rw [syms_eq, if_pos hk0, List.append_nil]
          have HS := Lib.hid hs
          have hkI : ((t.kids.length : Nat) : Int) = 0 := by omega
          have hd : decide (((t.kids.length : Nat) : Int) > 0) = false := by rw [decide_eq_false_iff_not]; omega
          clear hs hlt
          go_wp2_with fail
          go_ret
          have hl : (syms t).length = m := by rw [HS.out, HM.out]
          refine ⟨⟨g, cap, by rw [hl]; rfl, ?_⟩, H.out.2.1⟩
          unfold OwR
          rw [hl, HS.out]
          exact H.out.1
        · have hs : syms t = (symN t :: t.kids.flatMap syms) ++ [0] := by rw [syms_eq, if_neg hk0]
          have HS := Lib.hid hs
          have hd : decide (((t.kids.length : Nat) : Int) > 0) = true := by rw [decide_eq_true_iff]; omega
          have hkI : (0 : Int) < ((t.kids.length : Nat) : Int) := by omega
          obtain ⟨w7, hw7⟩ : ∃ w7, wr.alloc (.cells #[.int .i64 0] 3) = w7 := ⟨_, rfl⟩
          have hn7 : w7.heap[wr.heap.size]? = some (.cells #[.int .i64 0] 3 (0, 0)) := by rw [← hw7]; exact heap_alloc_new _ _
          have hb7 : Below wr.heap.size wr w7 := by rw [← hw7]; exact (Below.refl _ _).alloc (Nat.le_refl _) _
          have H7 := Lib.hid (And.intro hn7 (And.intro hb7 (ownKeep H.out.1 hb7)))
          have hs7 := hb7.size
          clear hs hlt hn7 hb7
          go_wp2_with (at_builtin; refine wpList_append_lies _ rfl _ _ 25 rfl w.heap.size 3 i3 _ 1 8 Tryd.underlying25 hi3 hz0 hz1 hz2 rfl (by decide) (.slice (some ⟨g, 0, none⟩) m cap) m (ints (symN t :: t.kids.flatMap syms)) (by rfl) ?hown ⟨wr.heap.size, 0, none⟩ 1 1 [.int .i64 0] (by rfl) rfl ?hnews (by simp [Value.oneCell']) (by omega) ?h63 ?hby ?hbase w7.heap.size rfl ?_)
          case hown => exact H7.out.2.2
          case hnews =>
            intro j u hu
            have hj : j = 0 := by have := (List.getElem?_eq_some_iff.1 hu).1; simp at this; exact this
            subst hj
            try rw [Go.WideShapes.add_plain]
            have := H7.out.1
            simp [World.cell?, this] at hu ⊢
            exact hu
          case h63 => unfold maxLen; omega
          case hby => omega
          case hbase => omega
          intro g' cap' w8 hown8 hgrow hat hglt
          have HX := Lib.hid (And.intro hown8 hgrow)
          clear hown8 hgrow hat
          go_wp2_with fail
          go_ret
          have hl : (syms t).length = m + 1 := by rw [HS.out, HM.out, List.length_append]; rfl
          refine ⟨⟨g', cap', by rw [hl]; rfl, ?_⟩, (H.out.2.1.trans (H7.out.2.1.mono hwz)).grown HX.out.2 (by omega) (fun q hq => (H.out.1.lt q hq).1)⟩
          unfold OwR
          rw [hl, HS.out]
          have := HX.out.1
          unfold ints at this ⊢
          rw [List.map_append]
          exact this
end Go.Proofs.YtpkjiimcoepjpaaDoor
