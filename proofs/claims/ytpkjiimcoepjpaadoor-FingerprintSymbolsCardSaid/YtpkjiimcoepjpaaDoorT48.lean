/- The law FingerprintSymbols. -/
import Derived.Test.YtpkjiimcoepjpaaDoorT47
import Derived.WalkSmall
import Derived.Lib.LaidTab
import Derived.Stop.LaidErr
namespace Go.Proofs.YtpkjiimcoepjpaaDoor
set_option linter.unusedVariables false
set_option linter.unusedSimpArgs false
open Go.RowKit Go.Proofs.YtpkjiimcoepjpaaDoorW.PrintWords
open PFingerprintSymbols (S48)

theorem gN : Tryd.prog.globalNamed "internal/strconv.uint64pow10" = some 0 := by kernel_rfl
theorem grow_below' (w : World) (k : Nat) (os : Array Obj) : Below w.heap.size w (Go.Sort.grow (w.drewN k) os) := by
  refine ⟨rfl, rfl, rfl, ?_, fun i hi => ?_⟩
  · show w.heap.size ≤ (w.heap ++ os).size
    rw [Array.size_append]; omega
  · show (w.heap ++ os)[i]? = w.heap[i]?
    rw [Array.getElem?_append_left hi]
theorem itOk64 (w : World) (htab : Lib.TabIs Tryd.prog w "internal/strconv.uint64pow10" .u64 Lib.pow10Tab) : ItOk P64 w := by
  intro k hk W hW
  have hlt : 0 < w.heap.size := by
    unfold Lib.TabIs World.var? at htab
    rw [gN, Option.bind_some] at htab
    split at htab
    · rename_i h; exact hltW h
    · cases htab
  have htab2 : Lib.TabIs Tryd.prog W "internal/strconv.uint64pow10" .u64 Lib.pow10Tab := var?_below hW gN hlt htab
  refine (Tryd.strconv_Itoa k hk.1 hk.2 W htab2).mono ?_
  rintro e w' ⟨rfl, n, os, rfl⟩
  exact ⟨rfl, grow_below' _ _ _⟩

theorem IntWalkBd {k : Int} (h : (Lit.int .i64 k).wf = true) : P64 k := by
  have := bounds_i64 h
  exact this
theorem itB_size (k : Int) (h : P64 k) : (itB k).size + 1 + 40 ≤ 9223372036854775807 := by
  have e : (itB k).size = (Lib.itoa k).length := by unfold itB; exact List.size_toArray
  have h1 := h.1
  have h2 := h.2
  rw [e]
  unfold Lib.itoa
  split
  · have := decDigits_len k.natAbs
    rw [List.length_cons]; omega
  · have := decDigits_len k.toNat
    omega
theorem allK_few (n : Nat) : ∀ (t : Nd) (left : Int), OkN t → 0 ≤ fewN n t left → AllK P64 t := by
  induction n with
  | zero => intro t left _ h; simp [fewN] at h
  | succ n ih =>
    intro t left hok h
    have key : ∀ (l : List Nd) (x : Int), 0 ≤ l.foldl (fun l k => if 0 ≤ l then fewN n k l else l) x → ∀ k ∈ l, ∃ y, 0 ≤ fewN n k y := by
      intro l
      induction l with
      | nil => intro x _ k hk; simp at hk
      | cons a l ihl =>
        intro x hx k hk
        rw [List.foldl_cons] at hx
        by_cases h0 : 0 ≤ x
        · rw [if_pos h0] at hx
          by_cases h2 : 0 ≤ fewN n a x
          · rcases List.mem_cons.1 hk with rfl | hk
            · exact ⟨x, h2⟩
            · exact ihl _ hx k hk
          · exfalso
            have := foldl_stuck n l (fewN n a x) (by omega)
            omega
        · exfalso
          rw [if_neg h0] at hx
          have := foldl_stuck n l x (by omega)
          omega
    cases hok with
    | mk _ hk ht hs =>
      have hb : P64 t.kind := IntWalkBd hk
      simp only [fewN] at h
      by_cases hc : left < 1 ∨ 40 < t.text.size
      · rw [if_pos hc] at h; omega
      · rw [if_neg hc] at h
        have hz := itB_size t.kind hb
        refine .mk t hb (by omega) (fun k hk => ?_)
        obtain ⟨y, hy⟩ := key t.kids _ h k hk
        exact ih k y (hs k hk) hy

set_option maxRecDepth 100000 in
set_option maxHeartbeats 4000000 in
theorem lawSymbols (t : Nd) (A : Option Addr) (c : Nat) (l : List Int) (B : Option Addr) (d : Nat) (k wd : Int) (w : World) (hR : RN w t A c) (hok : OkN t) (hI : InR w B d l) (htab : Lib.TabIs Tryd.prog w "internal/strconv.uint64pow10" .u64 Lib.pow10Tab) :
    Calls Tryd.prog 3 #[t.val A c, .slice B l.length d, .int .i64 k, .int .i64 wd] w fun e w' => e = .returned (.bool true) ∧ Below w.heap.size w w' := by
  have HI := Lib.hid hI
  have hlen := hI.2.1
  have hIT := itOk64 w htab
  have HF := Lib.hid (fun W (hW : Below w.heap.size w W) => refFew t 60 A c W (hR.keep hW) (by omega) (by omega))
  obtain ⟨w1, hw1⟩ : ∃ w1, w.alloc (.cells #[.int .i64 t.kind, .string t.text, .int .i64 t.pos, .int .i64 t.fin, .slice A t.kids.length c] 24) = w1 := ⟨_, rfl⟩
  have hh : w1.heap[w.heap.size]? = some (.cells (cells5 t A c).toArray 24 (0, 0)) := by rw [← hw1]; exact heap_alloc_new _ _
  have hb1 : Below w.heap.size w w1 := by rw [← hw1]; exact (Below.refl _ _).alloc (Nat.le_refl _) _
  have HB1 := Lib.hid hb1
  have HH := Lib.hid (show ∀ W, Below w1.heap.size w1 W → At5 W w.heap.size 0 t A c from fun W h => At5.of ((h.block _ (hltW hh)).trans hh))
  clear hh hb1 hI htab
  cases hf : FewB t 60 with
  | false =>
    rw [hf] at HF
    unfold Nd.val at HF ⊢
    clear hf
    go_enter Tryd.func3, Tryd.ntmps3
    go_wp2_with fail
    refine (awake w1).mono ?_
    rintro e w2 ⟨rfl, h2⟩
    have H2 := Lib.hid (HB1.out.trans (h2.mono HB1.out.size))
    obtain ⟨d0, d1, d2, d3, d4⟩ := HH.out w2 h2
    clear h2 hw1
    go_wp2_with fail
    refine (HF.out w2 H2.out).mono ?_
    rintro e w3 ⟨rfl, h3⟩
    have H3 := Lib.hid (H2.out.trans (h3.mono H2.out.size))
    clear h3 d0 d1 d2 d3 d4
    go_wp2_with fail
    go_ret
    exact ⟨rfl, H3.out⟩
  | true =>
    have hsz : t.size ≤ 60 := by have := FewB_size hf; omega
    have hall : AllK P64 t := allK_few t.size t 60 hok (by simpa [FewB] using hf)
    rw [hf] at HF
    clear hf
    by_cases hl : 70 < l.length
    · have e1 : decide ((l.length : Int) > 70) = true := decide_eq_true (by omega)
      unfold Nd.val at HF ⊢
      go_enter Tryd.func3, Tryd.ntmps3
      go_wp2_with fail
      refine (awake w1).mono ?_
      rintro e w2 ⟨rfl, h2⟩
      have H2 := Lib.hid (HB1.out.trans (h2.mono HB1.out.size))
      obtain ⟨d0, d1, d2, d3, d4⟩ := HH.out w2 h2
      clear h2 hw1
      go_wp2_with fail
      refine (HF.out w2 H2.out).mono ?_
      rintro e w3 ⟨rfl, h3⟩
      have H3 := Lib.hid (H2.out.trans (h3.mono H2.out.size))
      clear h3 d0 d1 d2 d3 d4
      go_wp2_with fail
      go_ret
      exact ⟨rfl, H3.out⟩
    · have e1 : decide ((l.length : Int) > 70) = false := decide_eq_false (by omega)
      have H15 := Lib.hid (fun W (hW : Below w.heap.size w W) => SymbolsW P64 w hIT t.size t A c W (Nat.le_refl _) (by omega) hall hR hW)
      have H16 := Lib.hid (fun W (hW : Below w.heap.size w W) => RefSymbolsW w t.size t A c W (Nat.le_refl _) (by omega) hall hR hW)
      have H12 := Lib.hid (fun W (hW : Below w.heap.size w W) => MarksW P64 t A c k wd W (fun k' hk' W' hW' => hIT k' hk' W' (hW.trans (hW'.mono hW.size))) (by omega) hall (hR.keep hW))
      have H13 := Lib.hid (fun W (hW : Below w.heap.size w W) => RefMarksW t A c k wd W (by omega) hall (hR.keep hW))
      have hsl := syms_len _ t (Nat.le_refl _)
      have hml : (marksV t k wd).length ≤ 3000 := by
        unfold marksV
        split
        · split
          · exact winV_len _ _
          · simp
        · simp
      obtain ⟨mv, hmv⟩ : ∃ mv, marksV t k wd = mv := ⟨_, rfl⟩
      obtain ⟨mc, hmc⟩ : ∃ mc, marksC t k wd = mc := ⟨_, rfl⟩
      rw [hmv, hmc] at H12 H13
      rw [hmv] at hml
      clear hmv hmc hall hIT hok
      have tv : t.val A c = .agg #[.int .i64 t.kind, .string t.text, .int .i64 t.pos, .int .i64 t.fin, .slice A t.kids.length c] := rfl
      rw [tv] at HF H12 H13 ⊢
      clear tv
      go_enter Tryd.func3, Tryd.ntmps3
      go_wp2_with fail
      refine (awake w1).mono ?_
      rintro e w2 ⟨rfl, h2⟩
      have H2 := Lib.hid (And.intro (HB1.out.trans (h2.mono HB1.out.size)) h2)
      obtain ⟨d0, d1, d2, d3, d4⟩ := HH.out w2 h2
      clear h2 hw1
      go_wp2_with fail
      refine (HF.out w2 H2.out.1).mono ?_
      rintro e w3 ⟨rfl, h3⟩
      have H3 := Lib.hid (And.intro (H2.out.1.trans (h3.mono H2.out.1.size)) (H2.out.2.trans (h3.mono H2.out.2.size)))
      clear h3 d0 d1 d2 d3 d4
      obtain ⟨d0, d1, d2, d3, d4⟩ := HH.out w3 H3.out.2
      go_wp2_with fail
      refine (H12.out w3 H3.out.1).mono ?_
      rintro e w4 ⟨⟨v4, rfl, hm4⟩, h4⟩
      obtain ⟨A4, c4, rfl, i4⟩ := hm4.mkI
      have H4 := Lib.hid (And.intro (H3.out.1.trans (h4.mono H3.out.1.size)) (H3.out.2.trans (h4.mono H3.out.2.size)))
      have I4 := Lib.hid i4
      clear h4 d0 d1 d2 d3 d4 hm4 i4
      obtain ⟨d0, d1, d2, d3, d4⟩ := HH.out w4 H4.out.2
      go_wp2_with fail
      refine (H13.out w4 H4.out.1).mono ?_
      rintro e w5 ⟨⟨A5, c5, rfl, i5⟩, h5⟩
      have H5 := Lib.hid (And.intro (H4.out.1.trans (h5.mono H4.out.1.size)) (H4.out.2.trans (h5.mono H4.out.2.size)))
      have I4 := Lib.hid (I4.out.below h5)
      have I5 := Lib.hid i5
      clear h5 d0 d1 d2 d3 d4 i5
      go_wp2_with fail
      refine regionS ⟨w5, t, A, c, w.heap.size, l, B, d, mc, mv, A4, c4, A5, c5⟩ ⟨HH.out w5 H5.out.2, fun W hW => ?_, fun W hW => ?_, HI.out.below H5.out.1, by show l.length ≤ 1000000; omega, by show (syms t).length ≤ 1000000; omega, by show mv.length ≤ 1000000; omega, I4.out, I5.out⟩ _ (by rfl) (by rfl) (by rfl) (by rfl) (by rfl) (by rfl) (by rfl) _ ?_
      · refine (H15.out W (H5.out.1.trans (hW.mono H5.out.1.size))).mono ?_
        rintro e w' ⟨⟨g, cap, rfl, ho⟩, hb⟩
        obtain ⟨A', c', ev, hi⟩ := ho.inR
        exact ⟨⟨A', c', by rw [ev], hi⟩, hb⟩
      · refine (H16.out W (H5.out.1.trans (hW.mono H5.out.1.size))).mono ?_
        rintro e w' ⟨⟨g, cap, rfl, ho⟩, hb⟩
        obtain ⟨A', c', ev, hi⟩ := ho.inR
        exact ⟨⟨A', c', by rw [ev], hi⟩, hb⟩
      · intro f W ef hb
        simp only [dsS, setAll, List.setIfInBounds_toArray, List.set_cons_zero, List.set_cons_succ, Nat.zero_add, Nat.reduceAdd]
        rw [ef]
        have HW := Lib.hid (H5.out.1.trans (hb.mono H5.out.1.size))
        clear hb ef
        go_wp2_with fail
        go_ret
        exact ⟨rfl, HW.out⟩
end Go.Proofs.YtpkjiimcoepjpaaDoor
