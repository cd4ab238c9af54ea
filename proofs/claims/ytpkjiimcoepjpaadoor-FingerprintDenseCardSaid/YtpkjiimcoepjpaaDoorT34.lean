/- The law FingerprintDense. -/
import Derived.Test.YtpkjiimcoepjpaaDoorT32
import Derived.Deep.QuietTactic
import Derived.BigQuiet
namespace Go.Proofs.YtpkjiimcoepjpaaDoor
set_option linter.unusedVariables false
set_option linter.unusedSimpArgs false
open Go.RowKit Go.Proofs.YtpkjiimcoepjpaaDoorW.PrintWords Go.Proofs.YtpkjiimcoepjpaaDoorW.PrintMore
open PFingerprintSymbols (S48)
attribute [local go_sem] max2_int min2_int

/-- chosen places: rising, in range, one in each window -/
structure Chosen (n m : Nat) (P : List Nat) : Prop where
  up : P.Pairwise (· < ·)
  lt : ∀ p ∈ P, p < n
  dense : ∀ a, a + m ≤ n → ∃ p ∈ P, a ≤ p ∧ p < a + m
theorem chosen_outP (h : List Int) (m : Nat) (hm : 1 ≤ m) : Chosen h.length m (outP h m h.length) := by
  obtain ⟨h1, h2, _⟩ := outP_spec h hm h.length
  refine ⟨h1, fun p hp => ?_, fun a ha => ?_⟩
  · obtain ⟨j, hj1, hj2, rfl⟩ := (h2 p).1 hp
    have := (atW_ok h (j := j) hm).hi
    omega
  · have hok := atW_ok h (j := a + m - 1) hm
    refine ⟨atW h m (a + m - 1), (h2 _).2 ⟨a + m - 1, by omega, by omega, rfl⟩, ?_, ?_⟩
    · have := hok.lo; omega
    · have := hok.hi; omega
theorem Chosen.next {n m : Nat} {P : List Nat} (h : Chosen n m P) (i : Nat) (hi : i + 1 < P.length) : P[i] < P[i + 1] ∧ P[i + 1] ≤ P[i] + m := by
  have hlt : P[i] < P[i + 1] := List.pairwise_iff_getElem.1 h.up i (i + 1) (by omega) hi (by omega)
  refine ⟨hlt, ?_⟩
  by_cases hn : P[i] + 1 + m ≤ n
  · obtain ⟨c, hc, h1, h2⟩ := h.dense (P[i] + 1) hn
    obtain ⟨t, ht, rfl⟩ := List.mem_iff_getElem.1 hc
    have : i < t := by
      rcases Nat.lt_or_ge i t with hit | hit
      · exact hit
      · rcases Nat.eq_or_lt_of_le hit with he | he
        · subst he; omega
        · have := List.pairwise_iff_getElem.1 h.up t i ht (by omega) he; omega
    have hle : P[i + 1] ≤ P[t] := by
      rcases Nat.eq_or_lt_of_le (show i + 1 ≤ t by omega) with he | he
      · subst he; exact Nat.le_refl _
      · exact Nat.le_of_lt (List.pairwise_iff_getElem.1 h.up (i + 1) t hi ht he)
    omega
  · have := h.lt _ (List.getElem_mem hi); omega
theorem Chosen.first {n m : Nat} {P : List Nat} (h : Chosen n m P) (hm : m ≤ n) (h0 : 0 < P.length) : P[0] < m := by
  obtain ⟨c, hc, h1, h2⟩ := h.dense 0 (by omega)
  obtain ⟨t, ht, rfl⟩ := List.mem_iff_getElem.1 hc
  rcases Nat.eq_zero_or_pos t with he | he
  · subst he; omega
  · have := List.pairwise_iff_getElem.1 h.up 0 t h0 ht he; omega
theorem Chosen.last {n m : Nat} {P : List Nat} (h : Chosen n m P) (hm : m ≤ n) (l : Nat) (hl : l + 1 = P.length) : n ≤ P[l] + m := by
  obtain ⟨c, hc, h1, h2⟩ := h.dense (n - m) (by omega)
  obtain ⟨t, ht, rfl⟩ := List.mem_iff_getElem.1 hc
  have : P[t] ≤ P[l] := by
    rcases Nat.eq_or_lt_of_le (show t ≤ l by omega) with he | he
    · subst he; exact Nat.le_refl _
    · exact Nat.le_of_lt (List.pairwise_iff_getElem.1 h.up t l ht (by omega) he)
  omega
theorem Chosen.pos {n m : Nat} {P : List Nat} (h : Chosen n m P) (hm : m ≤ n) : 0 < P.length := by
  obtain ⟨c, hc, _⟩ := h.dense 0 (by omega)
  exact List.length_pos_of_mem hc

set_option maxRecDepth 100000 in
set_option maxHeartbeats 4000000 in
theorem lawDense (l : List Int) (A : Option Addr) (c : Nat) (k : Int) (w : World) (hI : InR w A c l) :
    Calls Tryd.prog 7 #[.slice A l.length c, .int .i64 k] w fun e w' => e = .returned (.bool true) ∧ Below w.heap.size w w' := by
  have HI := Lib.hid hI
  have hlen := hI.2.1
  have hlc := hI.1
  clear hI
  by_cases hg : l.length ≤ 150 ∧ 1 ≤ k ∧ k ≤ 64
  · obtain ⟨g1, g2, g3⟩ := hg
    obtain ⟨K, rfl⟩ : ∃ K : Nat, k = ((K : Nat) : Int) := ⟨k.toNat, by omega⟩
    have d1 : decide ((l.length : Int) > 150) = false := decide_eq_false (by omega)
    have d2 : decide ((K : Int) < 1) = false := decide_eq_false (by omega)
    have d3 : decide ((K : Int) > 64) = false := decide_eq_false (by omega)
    have hvc : winC l (K : Nat) = 0 := by unfold winC; rw [if_pos ⟨g2, g3⟩, if_neg (by omega)]
    have hvl : winV l (K : Nat) = (outP l (min K l.length) l.length).map (mkS l) := by unfold winV; rw [if_pos ⟨g2, g3, by omega⟩, Int.toNat_natCast]
    have HA := Lib.hid (fun W (hI : InR W A c l) => WinnowW' l A c (K : Nat) W hI)
    rw [hvl, hvc] at HA
    by_cases hl0 : l.length = 0
    · obtain rfl := List.eq_nil_of_length_eq_zero hl0
      clear hvc hvl
      simp only [List.length_nil, Nat.min_zero, outP, List.map_nil] at HA
      go_enter Tryd.func7, Tryd.ntmps7
      go_wp2_with fail
      refine (awake w).mono ?_
      rintro e w1 ⟨rfl, h1⟩
      have H1 := Lib.hid h1
      clear h1
      go_wp2_with fail
      refine (HA.out w1 (HI.out.below H1.out)).mono ?_
      rintro e w2 ⟨⟨A2, c2, rfl, i2⟩, h2⟩
      have H2 := Lib.hid (H1.out.trans (h2.mono H1.out.size))
      clear h2 i2
      go_wp2_with fail
      go_loopw [43, 7] (fun s v wr => s = .int .i64 0 ∧ v = .int .i64 (-1) ∧ Hid (Below w2.heap.size w2 wr)) (fun _ _ _ => 0)
      case atStart => exact ⟨rfl, rfl, Lib.hid (Below.refl _ _)⟩
      case round =>
        obtain ⟨rfl, rfl, H⟩ := hrel
        go_wp2_with fail
        go_ret
        exact ⟨rfl, H2.out.trans (H.out.mono H2.out.size)⟩
    · obtain ⟨P, m, hP, hch, hmK, hmn⟩ : ∃ P m, outP l (min K l.length) l.length = P ∧ Chosen l.length m P ∧ m ≤ K ∧ m ≤ l.length := ⟨_, _, rfl, chosen_outP l (min K l.length) (by omega), Nat.min_le_left _ _, Nat.min_le_right _ _⟩
      rw [hP, List.length_map] at HA
      have hcp := hch.pos hmn
      have hcf := hch.first hmn hcp
      have hPlen : P.length ≤ 1000 := by rw [← hP]; have := outP_len l (min K l.length) l.length; omega
      have HCH := Lib.hid hch
      have d4 : decide ((l.length : Int) > 0) = true := decide_eq_true (by omega)
      have d4' : ((l.length : Int) == 0) = false := by rw [beq_eq_false_iff_ne]; omega
      have d5 : ((P.length : Int) == 0) = false := by rw [beq_eq_false_iff_ne]; omega
      clear hvc hvl hP hch
      obtain ⟨p0, hp0⟩ : ∃ p0, P[0] = p0 := ⟨_, rfl⟩
      have HP0 := Lib.hid hp0
      have HCF := Lib.hid (show p0 < K by omega)
      clear hp0 hcf
      go_enter Tryd.func7, Tryd.ntmps7
      go_wp2_with fail
      refine (awake w).mono ?_
      rintro e w1 ⟨rfl, h1⟩
      have H1 := Lib.hid h1
      clear h1
      go_wp2_with fail
      refine (HA.out w1 (HI.out.below H1.out)).mono ?_
      rintro e w2 ⟨⟨A2, c2, rfl, i2⟩, h2⟩
      have H2 := Lib.hid (H1.out.trans (h2.mono H1.out.size))
      have I2 := Lib.hid i2
      clear h2 i2
      go_wp2_with fail
      go_loopw [43, 7] (fun s v wr => ∃ (i : Nat) (bf : Int), s = .int .i64 (i : Nat) ∧ v = .int .i64 bf ∧ i ≤ P.length ∧ Hid ((i = 0 → bf = -1) ∧ (∀ j, i = j + 1 → ∀ h : j < P.length, bf = (P[j] : Nat)) ∧ Below w2.heap.size w2 wr)) (fun s _ _ => P.length - (intOf s).toNat)
      case atStart => exact ⟨0, -1, rfl, rfl, Nat.zero_le _, Lib.hid ⟨fun _ => rfl, fun j h => by omega, Below.refl _ _⟩⟩
      case round =>
        obtain ⟨i, bf, rfl, rfl, hi, H⟩ := hrel
        obtain ⟨wq, rfl⟩ : ∃ wq : World, wq = wr := ⟨_, rfl⟩
        by_cases hlt : i < P.length
        · have hiI : (i : Int) < (P.length : Int) := by omega
          obtain ⟨p, hp⟩ : ∃ p, P[i] = p := ⟨_, rfl⟩
          have hpn : p < l.length := by rw [← hp]; exact HCH.out.lt _ (List.getElem_mem _)
          have hbf : bf < (p : Int) ∧ (0 < i → (p : Int) - bf ≤ (K : Int)) := by
            rcases Nat.eq_zero_or_pos i with h0 | h0
            · rw [H.out.1 h0]; exact ⟨by omega, fun h => by omega⟩
            · obtain ⟨j, rfl⟩ : ∃ j, i = j + 1 := ⟨i - 1, by omega⟩
              have hn := HCH.out.next j hlt
              rw [H.out.2.1 j rfl (by omega)]
              rw [hp] at hn
              exact ⟨by omega, fun _ => by omega⟩
          have hInW : InR wq A c l := HI.out.below (H2.out.trans (H.out.2.2.mono H2.out.size))
          obtain ⟨b, o, rfl, hc⟩ := hInW.2.2 (by omega)
          have q1 := hc p hpn
          obtain ⟨b2, o2, rfl, hc2⟩ := (I2.out.below H.out.2.2).2.2 (by rw [List.length_map]; omega)
          obtain ⟨r0, r1⟩ := hc2 i (by rw [List.length_map]; exact hlt)
          obtain ⟨x, hx⟩ : ∃ x, l[p] = x := ⟨_, rfl⟩
          rw [hx] at q1
          have e0 : ((P.map (mkS l))[i]'(by rw [List.length_map]; exact hlt)) = ⟨x, (p : Nat)⟩ := by
            rw [List.getElem_map, hp, ← hx]
            unfold mkS hv
            rw [List.getD_eq_getElem?_getD, List.getElem?_eq_getElem hpn]; rfl
          rw [e0] at r0 r1
          have HPP := Lib.hid hp
          have HBF := Lib.hid hbf
          have HQ1 := Lib.hid q1
          clear hc hc2 hx e0 hp hInW hbf q1
          go_wp2_with fail
          obtain ⟨wv, hwv⟩ : ∃ wv, wq.alloc (.cells #[.int .i64 x, .int .i64 (p : Nat)] 48) = wv := ⟨_, rfl⟩
          have hbv : Below wq.heap.size wq wv := by rw [← hwv]; exact allocB wq _
          have hnew := heap_alloc_new wq (.cells #[.int .i64 x, .int .i64 (p : Nat)] 48)
          rw [hwv] at hnew
          have f0 : wv.cell? ⟨wq.heap.size, 0, none⟩ = some (.int .i64 x) := by unfold World.cell?; rw [hnew]; rfl
          have f1 : wv.cell? ⟨wq.heap.size, 1, none⟩ = some (.int .i64 (p : Nat)) := by unfold World.cell?; rw [hnew]; rfl
          have f2 : wv.cell? ⟨b, o + p, none⟩ = some (.int .i64 x) := (hbv.cell (p := ⟨b, o + p, none⟩) (World.block_lt_of_cell? wq _ HQ1.out)).trans HQ1.out
          have HV := Lib.hid hbv
          rw [hwv]
          clear hwv hbv hnew r0 r1
          have g1 : decide ((p : Int) ≤ bf) = false := decide_eq_false (by have := HBF.out; omega)
          have g2 : decide (l.length ≤ p) = false := decide_eq_false (by omega)
          have g3 : (p : Int) < (l.length : Int) := by omega
          have g6 : IntKind.i64.wrap ((p : Int) - bf) = (p : Int) - bf := IntWalk.i64_in _ (by
            rcases Nat.eq_zero_or_pos i with h0 | h0
            · have := H.out.1 h0; omega
            · have := HBF.out.2 h0; have := HBF.out.1; omega)
          by_cases hi0 : 0 < i
          · have g4 : decide ((i : Int) > 0) = true := decide_eq_true (by omega)
            have g5 : decide ((p : Int) - bf > (K : Int)) = false := decide_eq_false (by have := HBF.out.2 hi0; omega)
            go_quiet (fail)
            go_wp2_with fail
            go_roundw
            case rel =>
              refine ⟨i + 1, (p : Nat), by go_num, rfl, by omega, Lib.hid ⟨fun h => by omega, fun j hj h => ?_, H.out.2.2.trans ((pw_below_drewN HV.out _).mono H.out.2.2.size)⟩⟩
              obtain rfl : i = j := by omega
              rw [HPP.out]
            case measure => simp [intOf]; omega
          · have g4 : decide ((i : Int) > 0) = false := decide_eq_false (by omega)
            go_quiet (fail)
            go_wp2_with fail
            go_roundw
            case rel =>
              refine ⟨i + 1, (p : Nat), by go_num, rfl, by omega, Lib.hid ⟨fun h => by omega, fun j hj h => ?_, H.out.2.2.trans ((pw_below_drewN HV.out _).mono H.out.2.2.size)⟩⟩
              obtain rfl : i = j := by omega
              rw [HPP.out]
            case measure => simp [intOf]; omega
        · obtain rfl : i = P.length := by omega
          obtain ⟨lp, hlp⟩ : ∃ lp, P.length = lp + 1 := ⟨P.length - 1, by omega⟩
          have hlast := HCH.out.last hmn lp hlp.symm
          have hbf := H.out.2.1 lp hlp (by omega)
          have hb1 : (l.length : Int) - bf ≤ (K : Int) := by omega
          have hb2 : 0 ≤ bf ∧ bf ≤ 1000000 := by have := HCH.out.lt _ (List.getElem_mem (show lp < P.length by omega)); omega
          obtain ⟨b2, o2, rfl, hc2⟩ := (I2.out.below H.out.2.2).2.2 (by rw [List.length_map]; omega)
          obtain ⟨r0, r1⟩ := hc2 0 (by rw [List.length_map]; omega)
          have e0 : ((P.map (mkS l))[0]'(by rw [List.length_map]; omega)).f1 = ((p0 : Nat) : Int) := by
            rw [List.getElem_map, HP0.out]; rfl
          rw [e0] at r1
          have hpk : (p0 : Int) < (K : Int) := by have := HCF.out; omega
          clear hlp hlast hbf hc2 r0 e0 hlt
          obtain ⟨hb2, hb3⟩ := hb2
          by_cases hlk : l.length < K
          · have d6 : decide ((l.length : Int) < (K : Int)) = true := decide_eq_true (by omega)
            go_wp2_with fail
            go_ret
            exact ⟨rfl, H2.out.trans (H.out.2.2.mono H2.out.size)⟩
          · have d6 : decide ((l.length : Int) < (K : Int)) = false := decide_eq_false (by omega)
            have d7 : decide ((p0 : Int) < (K : Int)) = true := decide_eq_true hpk
            have d8 : decide ((l.length : Int) - bf ≤ (K : Int)) = true := decide_eq_true hb1
            go_wp2_with fail
            go_ret
            exact ⟨rfl, H2.out.trans (H.out.2.2.mono H2.out.size)⟩
  · by_cases g1 : 150 < l.length
    · have d1 : decide ((l.length : Int) > 150) = true := decide_eq_true (by omega)
      go_enter Tryd.func7, Tryd.ntmps7
      go_wp2_with fail
      refine (awake w).mono ?_
      rintro e w1 ⟨rfl, h1⟩
      have H1 := Lib.hid h1
      clear h1
      go_wp2_with fail
      go_ret
      exact ⟨rfl, H1.out⟩
    · have d1 : decide ((l.length : Int) > 150) = false := decide_eq_false (by omega)
      by_cases g2 : k < 1
      · have d2 : decide (k < 1) = true := decide_eq_true g2
        go_enter Tryd.func7, Tryd.ntmps7
        go_wp2_with fail
        refine (awake w).mono ?_
        rintro e w1 ⟨rfl, h1⟩
        have H1 := Lib.hid h1
        clear h1
        go_wp2_with fail
        go_ret
        exact ⟨rfl, H1.out⟩
      · have d2 : decide (k < 1) = false := decide_eq_false g2
        have d3 : decide (k > 64) = true := decide_eq_true (by omega)
        go_enter Tryd.func7, Tryd.ntmps7
        go_wp2_with fail
        refine (awake w).mono ?_
        rintro e w1 ⟨rfl, h1⟩
        have H1 := Lib.hid h1
        clear h1
        go_wp2_with fail
        go_ret
        exact ⟨rfl, H1.out⟩
end Go.Proofs.YtpkjiimcoepjpaaDoor
