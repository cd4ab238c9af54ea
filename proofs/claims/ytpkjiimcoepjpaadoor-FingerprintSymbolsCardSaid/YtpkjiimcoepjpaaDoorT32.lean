/- The reference's Shared, and the law FingerprintWinnows. -/
import Derived.Test.YtpkjiimcoepjpaaDoorT31
namespace Go.Proofs.YtpkjiimcoepjpaaDoor
set_option linter.unusedVariables false
set_option linter.unusedSimpArgs false
open Go.RowKit Go.Proofs.YtpkjiimcoepjpaaDoorW.PrintWords
open PFingerprintSymbols (S48)

set_option maxRecDepth 100000 in
set_option maxHeartbeats 4000000 in
theorem RefSharedW (a b : List S48) (A B : Option Addr) (cA cB : Nat) (w : World) (la : a.length ≤ 100000) (lb : b.length ≤ 100000) (hA : MkI w A cA a) (hB : MkI w B cB b) :
    Calls Tryd.prog 27 #[.slice A a.length cA, .slice B b.length cB] w fun e w' => (∃ A' c' L, e = .returned (.slice A' (List.length L) c') ∧ InR w' A' c' L ∧ L.length ≤ a.length ∧ L.Pairwise (· < ·) ∧ ∀ x, x ∈ L ↔ Both a b x) ∧ Below w.heap.size w w' := by
  have HA := Lib.hid hA
  have HB := Lib.hid hB
  have hacc := hA.1
  have hbcc := hB.1
  clear hA hB
  go_enter Tryd.func27, Tryd.ntmps27
  go_wp2_with fail
  obtain ⟨w1, hw1⟩ : ∃ w1, w.alloc (.cells #[] 3) = w1 := ⟨_, rfl⟩
  have hb1 : Below w.heap.size w w1 := by rw [← hw1]; exact (Below.refl _ _).alloc (Nat.le_refl _) _
  rw [hw1]
  have H1 := Lib.hid hb1
  clear hw1 hb1
  go_loopw [5, 6] (fun v s wr => ∃ (i : Nat) (L : List Int) (A' : Option Addr) (c' n' : Nat), s = .int .i64 (i : Nat) ∧ v = .slice A' n' c' ∧ i ≤ a.length ∧ n' ≤ i ∧ Hid (n' = L.length ∧ InR wr A' c' L ∧ L.Pairwise (· < ·) ∧ (∀ x, x ∈ L ↔ (∃ m ∈ a.take i, m.f0 = x) ∧ ∃ m ∈ b, m.f0 = x) ∧ Below w.heap.size w wr)) (fun _ s _ => a.length - (intOf s).toNat)
  case atStart => exact ⟨0, [], _, _, _, rfl, rfl, Nat.zero_le _, Nat.le_refl _, Lib.hid ⟨rfl, ⟨Nat.le_refl _, by simp, fun h => by simp at h⟩, List.Pairwise.nil, fun x => by simp, H1.out⟩⟩
  case round =>
    clear H1
    obtain ⟨i, L, A', c', n', rfl, rfl, hi, hni, H⟩ := hrel
    by_cases hlt : i < a.length
    · obtain ⟨ba, oa, rfl, hc⟩ := (HA.out.below H.out.2.2.2.2).2.2 (by omega)
      obtain ⟨q0, q1⟩ := hc i hlt
      have hiI : (i : Int) < (a.length : Int) := by omega
      obtain ⟨x, hx⟩ : ∃ x, a[i].f0 = x := ⟨_, rfl⟩
      rw [hx] at q0
      have HX := Lib.hid hx
      have HTA := Lib.hid (take_ex a i hlt)
      have hh := HasW b x B cB wr (HB.out.below H.out.2.2.2.2) (by omega)
      have HH := Lib.hid hh
      clear hc hx hh q1
      go_wp2_with fail
      refine HH.out.mono ?_
      rintro e w2 ⟨⟨r, rfl, hr⟩, h2⟩
      have H2 := Lib.hid (H.out.2.2.2.2.trans (h2.below.mono H.out.2.2.2.2.size))
      have HL2 := Lib.hid (H.out.2.1.below h2.below)
      obtain ⟨q0', q1'⟩ := ((HA.out.below H2.out).2.2 (by omega)).choose_spec.choose_spec.2 i hlt
      cases r with
      | false =>
        have HR := Lib.hid (show ¬ ∃ p ∈ b, p.f0 = x from fun h => by have := hr.2 h; cases this)
        clear hr h2 q0' q1'
        go_wp2_with fail
        go_roundw
        case rel =>
          refine ⟨i + 1, L, A', c', n', by go_num, rfl, by omega, by omega, Lib.hid ⟨H.out.1, HL2.out, H.out.2.2.1, fun z => ?_, H2.out⟩⟩
          rw [H.out.2.2.2.1 z, HTA.out z, HX.out]
          constructor
          · rintro ⟨h1, h2⟩; exact ⟨.inl h1, h2⟩
          · rintro ⟨h1 | h1, h2⟩
            · exact ⟨h1, h2⟩
            · exact absurd (by rw [← h1]; exact h2) HR.out
        case measure => simp [intOf]; omega
      | true =>
        have HR := Lib.hid (hr.1 rfl)
        have q0 : w2.cell? ⟨ba, oa + i * 2, none⟩ = some (.int .i64 x) := (h2.below.cell (p := ⟨ba, oa + i * 2, none⟩) (World.block_lt_of_cell? wr _ q0)).trans q0
        have hadd := AddW L x A' c' w2 (by rw [← H.out.1]; omega) HL2.out
        rw [← H.out.1] at hadd
        have HAD := Lib.hid hadd
        clear hr h2 q0' q1' hadd
        go_wp2_with fail
        refine HAD.out.mono ?_
        rintro e w3 ⟨⟨A3, c3, rfl, i3⟩, h3⟩
        have hlen : (addL L x).length ≤ i + 1 := by have := addL_len L x; rw [← H.out.1] at this; omega
        obtain ⟨n3, hn3⟩ : ∃ n3, (addL L x).length = n3 := ⟨_, rfl⟩
        rw [hn3] at hlen ⊢
        have H3 := Lib.hid (And.intro hn3.symm (And.intro i3 (H2.out.trans (h3.mono H2.out.size))))
        clear hn3 i3 h3
        go_wp2_with fail
        go_roundw
        case rel =>
          refine ⟨i + 1, addL L x, A3, c3, n3, by go_num, rfl, by omega, by omega, Lib.hid ⟨H3.out.1, H3.out.2.1, addL_up L x H.out.2.2.1, fun z => ?_, H3.out.2.2⟩⟩
          rw [addL_mem, H.out.2.2.2.1 z, HTA.out z, HX.out]
          constructor
          · rintro (⟨h1, h2⟩ | h1)
            · exact ⟨.inl h1, h2⟩
            · exact ⟨.inr h1, by rw [h1]; exact HR.out⟩
          · rintro ⟨h1 | h1, h2⟩
            · exact .inl ⟨h1, h2⟩
            · exact .inr h1
        case measure => simp [intOf]; omega
    · obtain rfl : i = a.length := by omega
      go_wp2_with fail
      go_ret
      have hn := H.out.1
      refine ⟨⟨A', c', L, by rw [hn]; rfl, H.out.2.1, by omega, H.out.2.2.1, fun x => ?_⟩, H.out.2.2.2.2⟩
      have := H.out.2.2.2.1 x
      rw [List.take_length] at this
      exact this

theorem winV_len (h : List Int) (w : Int) : (winV h w).length ≤ 3000 := by
  unfold winV
  split
  · rw [List.length_map]
    have := outP_len h (min w.toNat h.length) h.length
    omega
  · simp
theorem WinnowW' (l : List Int) (A : Option Addr) (c : Nat) (k : Int) (w : World) (h : InR w A c l) :
    Calls Tryd.prog 24 #[.slice A l.length c, .int .i64 k] w fun e w' => (∃ A' c', e = .returned (.tuple #[.slice A' (winV l k).length c', .int .i64 (winC l k)]) ∧ MkI w' A' c' (winV l k)) ∧ Below w.heap.size w w' := by
  refine (WinnowW l A c k w h).mono ?_
  rintro e w' ⟨⟨v, rfl, ho⟩, hb⟩
  obtain ⟨A', c', rfl, hi⟩ := ho.mkI
  exact ⟨⟨A', c', rfl, hi⟩, hb⟩
theorem RefWinnowW' (l : List Int) (A : Option Addr) (c : Nat) (k : Int) (w : World) (h : InR w A c l) :
    Calls Tryd.prog 25 #[.slice A l.length c, .int .i64 k] w fun e w' => (∃ A' c', e = .returned (.tuple #[.slice A' (winV l k).length c', .int .i64 (winC l k)]) ∧ MkI w' A' c' (winV l k)) ∧ Below w.heap.size w w' := by
  refine (RefWinnowW l A c k w h).mono ?_
  rintro e w' ⟨⟨v, rfl, ho⟩, hb⟩
  obtain ⟨A', c', rfl, hi⟩ := ho.mkI
  exact ⟨⟨A', c', rfl, hi⟩, hb⟩
theorem SharedW' (a b : List S48) (A B : Option Addr) (cA cB : Nat) (w : World) (hA : MkI w A cA a) (hB : MkI w B cB b) (la : a.length ≤ 100000) (lb : b.length ≤ 100000) (wa : ∀ m ∈ a, (Lit.int .i64 m.f0).wf = true) (wb : ∀ m ∈ b, (Lit.int .i64 m.f0).wf = true) :
    Calls Tryd.prog 26 #[.slice A a.length cA, .slice B b.length cB] w fun e w' => (∃ A' c' L, e = .returned (.slice A' (List.length L) c') ∧ InR w' A' c' L ∧ L.Pairwise (· < ·) ∧ ∀ x, x ∈ L ↔ Both a b x) ∧ Below w.heap.size w w' := by
  refine (SharedW a b A B cA cB w hA hB la lb wa wb).mono ?_
  rintro e w' ⟨⟨v, L, rfl, ho, h1, h2⟩, hb⟩
  obtain ⟨A', c', rfl, hi⟩ := ho.inR
  exact ⟨⟨A', c', L, rfl, hi, h1, h2⟩, hb⟩
set_option maxRecDepth 100000 in
set_option maxHeartbeats 4000000 in
theorem lawWinnows (l : List Int) (A : Option Addr) (c : Nat) (k : Int) (a b : List S48) (Aa Ab : Option Addr) (ca cb : Nat) (w : World) (hI : InR w A c l) (ha : MkI w Aa ca a) (hb : MkI w Ab cb b) (wa : ∀ m ∈ a, (Lit.int .i64 m.f0).wf = true) (wb : ∀ m ∈ b, (Lit.int .i64 m.f0).wf = true) :
    Calls Tryd.prog 6 #[.slice A l.length c, .int .i64 k, .slice Aa a.length ca, .slice Ab b.length cb] w fun e w' => e = .returned (.bool true) ∧ Below w.heap.size w w' := by
  have HI := Lib.hid hI
  have HA := Lib.hid ha
  have HB := Lib.hid hb
  have hlen := hI.2.1
  have hlena := ha.2.1
  have hlenb := hb.2.1
  have HWA := Lib.hid wa
  have HWB := Lib.hid wb
  clear hI ha hb wa wb
  by_cases hg : 150 < l.length ∧ l.length ≤ 2048
  · obtain ⟨g1, g2⟩ := hg
    have d1 : decide ((l.length : Int) > 150) = true := decide_eq_true (by omega)
    have d2 : decide ((l.length : Int) ≤ 2048) = true := decide_eq_true (by omega)
    go_enter Tryd.func6, Tryd.ntmps6
    go_wp2_with fail
    refine (awake w).mono ?_
    rintro e w1 ⟨rfl, h1⟩
    have H1 := Lib.hid h1
    clear h1
    go_wp2_with fail
    go_ret
    exact ⟨rfl, H1.out⟩
  · have hg' : l.length ≤ 150 ∨ 2048 < l.length := by omega
    by_cases hla : 60 < a.length
    · have d3 : decide ((a.length : Int) > 60) = true := decide_eq_true (by omega)
      rcases hg' with g | g
      all_goals
        first
          | have d1 : decide ((l.length : Int) > 150) = false := decide_eq_false (by omega)
          | (have d1 : decide ((l.length : Int) > 150) = true := decide_eq_true (by omega)
             have d2 : decide ((l.length : Int) ≤ 2048) = false := decide_eq_false (by omega))
        go_enter Tryd.func6, Tryd.ntmps6
        go_wp2_with fail
        refine (awake w).mono ?_
        rintro e w1 ⟨rfl, h1⟩
        have H1 := Lib.hid h1
        clear h1
        go_wp2_with fail
        go_ret
        exact ⟨rfl, H1.out⟩
    · have d3 : decide ((a.length : Int) > 60) = false := decide_eq_false (by omega)
      by_cases hlb : 60 < b.length
      · have d4 : decide ((b.length : Int) > 60) = true := decide_eq_true (by omega)
        rcases hg' with g | g
        all_goals
          first
            | have d1 : decide ((l.length : Int) > 150) = false := decide_eq_false (by omega)
            | (have d1 : decide ((l.length : Int) > 150) = true := decide_eq_true (by omega)
               have d2 : decide ((l.length : Int) ≤ 2048) = false := decide_eq_false (by omega))
          go_enter Tryd.func6, Tryd.ntmps6
          go_wp2_with fail
          refine (awake w).mono ?_
          rintro e w1 ⟨rfl, h1⟩
          have H1 := Lib.hid h1
          clear h1
          go_wp2_with fail
          go_ret
          exact ⟨rfl, H1.out⟩
      · have d4 : decide ((b.length : Int) > 60) = false := decide_eq_false (by omega)
        obtain ⟨vl, hvl⟩ : ∃ x, winV l k = x := ⟨_, rfl⟩
        obtain ⟨vc, hvc⟩ : ∃ x, winC l k = x := ⟨_, rfl⟩
        have hvl3 : vl.length ≤ 3000 := by rw [← hvl]; exact winV_len l k
        have H1A := Lib.hid (fun W (hI : InR W A c l) => WinnowW' l A c k W hI)
        have H1B := Lib.hid (fun W (hI : InR W A c l) => RefWinnowW' l A c k W hI)
        rw [hvl, hvc] at H1A H1B
        clear hvl hvc
        have la5 : a.length ≤ 100000 := by omega
        have lb5 : b.length ≤ 100000 := by omega
        rcases hg' with g | g
        all_goals
          first
            | have d1 : decide ((l.length : Int) > 150) = false := decide_eq_false (by omega)
            | (have d1 : decide ((l.length : Int) > 150) = true := decide_eq_true (by omega)
               have d2 : decide ((l.length : Int) ≤ 2048) = false := decide_eq_false (by omega))
          go_enter Tryd.func6, Tryd.ntmps6
          go_wp2_with fail
          refine (awake w).mono ?_
          rintro e w1 ⟨rfl, h1⟩
          have H1 := Lib.hid h1
          clear h1
          go_wp2_with fail
          refine (H1A.out w1 (HI.out.below H1.out)).mono ?_
          rintro e w2 ⟨⟨A2, c2, rfl, i2⟩, h2⟩
          have H2 := Lib.hid (H1.out.trans (h2.mono H1.out.size))
          have I2 := Lib.hid i2
          clear h2 i2
          go_wp2_with fail
          refine (H1B.out w2 (HI.out.below H2.out)).mono ?_
          rintro e w3 ⟨⟨A3, c3, rfl, i3⟩, h3⟩
          have H3 := Lib.hid (H2.out.trans (h3.mono H2.out.size))
          have I2 := Lib.hid (I2.out.below h3)
          have I3 := Lib.hid i3
          clear h3 i3
          go_wp2_with fail
          refine (SameM vl vl A2 A3 c2 c3 w3 I2.out I3.out (by omega)).mono ?_
          rintro e w4 ⟨⟨r, rfl, hr⟩, h4⟩
          obtain rfl : r = true := hr.2 rfl
          have H4 := Lib.hid (H3.out.trans (h4.below.mono H3.out.size))
          clear h4 hr
          go_wp2_with fail
          refine (SharedW' a b Aa Ab ca cb w4 (HA.out.below H4.out) (HB.out.below H4.out) la5 lb5 HWA.out HWB.out).mono ?_
          rintro e w5 ⟨⟨A5, c5, L, rfl, i5, s5, m5⟩, h5⟩
          have H5 := Lib.hid (H4.out.trans (h5.mono H4.out.size))
          have I5 := Lib.hid i5
          have S5 := Lib.hid (And.intro s5 m5)
          clear h5 i5 s5 m5
          go_wp2_with fail
          refine (RefSharedW a b Aa Ab ca cb w5 la5 lb5 (HA.out.below H5.out) (HB.out.below H5.out)).mono ?_
          rintro e w6 ⟨⟨A6, c6, M, rfl, i6, l6, s6, m6⟩, h6⟩
          obtain rfl : L = M := up_ext S5.out.1 s6 (fun x => (S5.out.2 x).trans (m6 x).symm)
          have H6 := Lib.hid (H5.out.trans (h6.mono H5.out.size))
          have I5 := Lib.hid (I5.out.below h6)
          have I6 := Lib.hid i6
          have hL6 : L.length ≤ 1000000 := by omega
          clear h6 i6 s6 m6
          go_wp2_with fail
          refine (SameI L L A5 A6 c5 c6 w6 I5.out I6.out hL6).mono ?_
          rintro e w7 ⟨⟨r, rfl, hr⟩, h7⟩
          obtain rfl : r = true := hr.2 rfl
          have H7 := Lib.hid (H6.out.trans (h7.below.mono H6.out.size))
          clear h7 hr
          go_wp2_with fail
          go_ret
          exact ⟨rfl, H7.out⟩
end Go.Proofs.YtpkjiimcoepjpaaDoor
