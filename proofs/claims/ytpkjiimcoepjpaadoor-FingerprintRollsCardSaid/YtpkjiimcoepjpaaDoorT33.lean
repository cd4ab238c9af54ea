/- The law FingerprintRolls. -/
import Derived.Test.YtpkjiimcoepjpaaDoorC7
import Derived.Deep.QuietTactic
import Derived.BigQuiet
import Derived.StillTailTactics
import Derived.IntWalk
namespace Go.Proofs.YtpkjiimcoepjpaaDoor
set_option linter.unusedVariables false
set_option linter.unusedSimpArgs false
open Go.RowKit Go.Proofs.YtpkjiimcoepjpaaDoorW.PrintWords Go.Proofs.YtpkjiimcoepjpaaDoorW.PrintMore
attribute [local go_sem] max2_int min2_int

theorem InR.sub {w : World} {A : Option Addr} {c : Nat} {l : List Int} (h : InR w A c l) (b o : Nat) (hA : A = some ⟨b, o, none⟩) (i k : Nat) (hi : i + k ≤ l.length) : InR w (some ⟨b, o + i, none⟩) (c - i) ((l.drop i).take k) := by
  have hl : ((l.drop i).take k).length = k := by rw [List.length_take, List.length_drop]; omega
  have h1 := h.1
  have h2 := h.2.1
  refine ⟨by omega, by omega, fun hp => ?_⟩
  obtain ⟨b', o', e, hc⟩ := h.2.2 (by omega)
  rw [hA] at e
  obtain ⟨rfl, rfl⟩ : b = b' ∧ o = o' := by simpa using e
  refine ⟨b, o + i, rfl, fun j hj => ?_⟩
  have := hc (i + j) (by omega)
  rw [Nat.add_assoc, this]
  simp [List.getElem_take, List.getElem_drop]

set_option maxRecDepth 100000 in
set_option maxHeartbeats 4000000 in
theorem lawRolls (l : List Int) (A : Option Addr) (c : Nat) (k : Int) (w : World) (hI : InR w A c l) :
    Calls Tryd.prog 5 #[.slice A l.length c, .int .i64 k] w fun e w' => e = .returned (.bool true) ∧ Below w.heap.size w w' := by
  have HI := Lib.hid hI
  have hlen := hI.2.1
  have hlc := hI.1
  clear hI
  by_cases hg : l.length ≤ 100 ∧ 1 ≤ k ∧ k ≤ 64
  · obtain ⟨g1, g2, g3⟩ := hg
    obtain ⟨K, rfl⟩ : ∃ K : Nat, k = ((K : Nat) : Int) := ⟨k.toNat, by omega⟩
    have d1 : decide ((l.length : Int) > 100) = false := decide_eq_false (by omega)
    have d2 : decide ((K : Int) < 1) = false := decide_eq_false (by omega)
    have d3 : decide ((K : Int) > 64) = false := decide_eq_false (by omega)
    have hvc : hashesC l (K : Nat) = 0 := by unfold hashesC; rw [if_pos ⟨g2, g3⟩, if_neg (by omega)]
    have hvl : hashesV l (K : Nat) = runs l K := by unfold hashesV; rw [if_pos ⟨g2, g3, by omega⟩, Int.toNat_natCast]
    obtain ⟨n, hn⟩ : ∃ n, (runs l K).length = n := ⟨_, rfl⟩
    have hn2 : n = l.length + 1 - K := by rw [← hn, runs_len]
    have HA := Lib.hid (fun W (hI : InR W A c l) => HashesW' l A c (K : Nat) W hI)
    rw [hvl, hvc, hn] at HA
    have HN := Lib.hid hn
    have d4 : (((n : Nat) : Int) != max 0 ((l.length : Int) - (K : Int) + 1)) = false := by rw [bne_eq_false_iff_eq]; omega
    have hnl : n ≤ l.length := by omega
    have HN2 := Lib.hid (show ∀ i, i < n → i + K ≤ l.length from fun i hi => by omega)
    clear hvc hvl hn hn2
    go_enter Tryd.func5, Tryd.ntmps5
    go_wp2_with fail
    refine (awake w).mono ?_
    rintro e w1 ⟨rfl, h1⟩
    have H1 := Lib.hid h1
    clear h1
    go_wp2_with fail
    refine (HA.out w1 (HI.out.below H1.out)).mono ?_
    rintro e w2 ⟨⟨A2, c2, rfl, i2⟩, h2⟩
    have H2 := Lib.hid (H1.out.trans (h2.mono H1.out.size))
    have I2 := Lib.hid i2
    clear h2 i2
    go_wp2_with fail
    go_loopw [44] (fun s wr => ∃ (i : Nat), s = .int .i64 (i : Nat) ∧ i ≤ n ∧ Hid (Below w2.heap.size w2 wr)) (fun s _ => n - (intOf s).toNat)
    case atStart => exact ⟨0, rfl, Nat.zero_le _, Lib.hid (Below.refl _ _)⟩
    case round =>
      obtain ⟨i, rfl, hi, H⟩ := hrel
      obtain ⟨wq, rfl⟩ : ∃ wq : World, wq = wr := ⟨_, rfl⟩
      by_cases hlt : i < n
      · have hiI : (i : Int) < (n : Int) := by omega
        have hiK := HN2.out i hlt
        have hInW : InR wq A c l := HI.out.below (H2.out.trans (H.out.mono H2.out.size))
        obtain ⟨b, o, rfl, hc⟩ := hInW.2.2 (by omega)
        have hR := (I2.out.below H.out)
        obtain ⟨b2, o2, rfl, hc2⟩ := hR.2.2 (by rw [HN.out]; omega)
        have q2 := hc2 i (by rw [HN.out]; exact hlt)
        obtain ⟨x, hx⟩ : ∃ x, (runs l K)[i]'(by rw [HN.out]; exact hlt) = x := ⟨_, rfl⟩
        rw [hx] at q2
        have hxh : hashS ((l.drop i).take K) = x := by rw [← hx, runs_get]
        have hbd := hashS_bd ((l.drop i).take K)
        rw [hxh] at hbd
        have x0 : decide (x < 0) = false := decide_eq_false (by omega)
        have x1 : decide (x ≥ 2147483647) = false := decide_eq_false (by omega)
        have hs1 : IntKind.i64.wrap ((i : Int) + (K : Int)) = (i : Int) + (K : Int) := IntWalk.i64_in _ (by omega)
        have hs2 : ((i : Int) + (K : Int)).toNat = i + K := by omega
        have hs3 : 0 ≤ (i : Int) + (K : Int) := by omega
        have hci : ¬ c = i := by omega
        have hsub := hInW.sub b o rfl i K hiK
        have hq := fun n => hashW ((l.drop i).take K) (by rw [List.length_take]; omega) (some ⟨b, o + i, none⟩) (c - i) (wq.drewN n) (hsub.below ((Drawn0.mk ⟨n, rfl⟩).below))
        rw [show ((l.drop i).take K).length = K by rw [List.length_take, List.length_drop]; omega, hxh] at hq
        have HQ := Lib.hid (fun n => Calls.quiet_of ((hq n).mono (fun e w' ⟨he, hd⟩ => ⟨he, hd.out⟩)))
        have HC := Lib.hid hc
        have HC2 := Lib.hid hc2
        have HX := Lib.hid hx
        have HBD := Lib.hid hbd
        clear hx hxh hbd hc hc2 hInW hR hsub hq
        go_wp2_with fail
        go_quiet ((go_at_call 17; exact HQ.out _))
        clear hs1 hs2 hs3 hci HQ x0 x1
        obtain ⟨wv, hwv⟩ : ∃ wv, wq.drewN nq = wv := ⟨_, rfl⟩
        have hbv : Below wq.heap.size wq wv := by rw [← hwv]; exact pw_below_drewN (Below.refl _ _) _
        have hcv : ∀ b' o', wv.cell? ⟨b', o', none⟩ = wq.cell? ⟨b', o', none⟩ := fun b' o' => by rw [← hwv]; rfl
        rw [hwv]
        have HV := Lib.hid (And.intro hbv hcv)
        have q2v := (hcv b2 (o2 + i)).trans q2
        clear hwv hbv hcv q2
        by_cases hi0 : 0 < i
        · obtain ⟨m, hm⟩ : ∃ m, i = m + 1 := ⟨i - 1, by omega⟩
          obtain ⟨K', hK'⟩ : ∃ K', K = K' + 1 := ⟨K - 1, by omega⟩
          have p2 := (HV.out.2 _ _).trans (HC2.out m (by rw [HN.out]; omega))
          have p3 := (HV.out.2 _ _).trans (HC.out m (by omega))
          obtain ⟨mk, hmk⟩ : ∃ mk, m + K = mk := ⟨_, rfl⟩
          have p4 := (HV.out.2 b (o + mk)).trans (HC.out mk (by omega))
          obtain ⟨y, hy⟩ : ∃ y, (runs l K)[m]'(by rw [HN.out]; omega) = y := ⟨_, rfl⟩
          obtain ⟨s1, hs1⟩ : ∃ y, l[m] = y := ⟨_, rfl⟩
          obtain ⟨s2, hs2⟩ : ∃ y, l[mk]'(by omega) = y := ⟨_, rfl⟩
          rw [hy] at p2
          rw [hs1] at p3
          rw [hs2] at p4
          have hyb := hashS_bd ((l.drop m).take K)
          rw [← runs_get l K m (by rw [HN.out]; omega), hy] at hyb
          have hrv : rollV y s1 s2 (K : Nat) = x := by
            unfold rollV
            rw [if_pos ⟨by omega, by omega, hyb⟩, Int.toNat_natCast, ← HX.out, ← hy, ← hs1, ← hs2]
            subst hK'
            subst hm
            have := runs_next l K' m (by rw [HN.out]; omega)
            rw [← this]
            congr 1
            congr 1
            omega
          have hrc : rollC y (K : Nat) = 0 := by unfold rollC; rw [if_pos ⟨by omega, by omega, hyb⟩]
          have hRW := fun W => RollW y s1 s2 (K : Nat) W
          rw [hrv, hrc] at hRW
          have HRW := Lib.hid hRW
          have e1 : ((i : Nat) : Int) - 1 = (m : Int) := by omega
          have e2 : IntKind.i64.wrap ((m : Nat) : Int) = (m : Int) := IntWalk.i64_in _ (by omega)
          have e3 : IntKind.i64.wrap (((i : Nat) : Int) + (K : Int)) = ((i : Nat) : Int) + (K : Int) := IntWalk.i64_in _ (by omega)
          have e4 : ((i : Nat) : Int) + (K : Int) - 1 = ((mk : Nat) : Int) := by omega
          have e5 : IntKind.i64.wrap ((mk : Nat) : Int) = ((mk : Nat) : Int) := IntWalk.i64_in _ (by omega)
          have HM := Lib.hid (And.intro hm hmk)
          clear hK' hy hs1 hs2 hyb hrv hrc hRW hmk
          have bI1 : (m : Int) < (n : Int) := by omega
          have bI2 : (m : Int) < (l.length : Int) := by omega
          have bI3 : ((mk : Nat) : Int) < (l.length : Int) := by omega
          clear hm
          have l2 := World.block_lt_of_cell? wv _ p2
          have l3 := World.block_lt_of_cell? wv _ p3
          have HK := Lib.hid (show ∀ W, Below wv.heap.size wv W → (Below wv.heap.size wv W ∧ W.cell? ⟨b2, o2 + m, none⟩ = some (.int .i64 y) ∧ W.cell? ⟨b, o + m, none⟩ = some (.int .i64 s1) ∧ W.cell? ⟨b, o + mk, none⟩ = some (.int .i64 s2)) from fun W h => ⟨h, (h.cell (p := ⟨b2, _, none⟩) l2).trans p2, (h.cell (p := ⟨b, o + m, none⟩) l3).trans p3, (h.cell (p := ⟨b, o + mk, none⟩) l3).trans p4⟩)
          have h3 : Below wv.heap.size wv wv := Below.refl _ _
          clear l2 l3
          go_wp2_with fail
          go_region_held3 (fun W => Below wv.heap.size wv W ∧ W.cell? ⟨b2, o2 + m, none⟩ = some (.int .i64 y) ∧ W.cell? ⟨b, o + m, none⟩ = some (.int .i64 s1) ∧ W.cell? ⟨b, o + mk, none⟩ = some (.int .i64 s2))
            (first | with_reducible exact HK.out _ h5 | with_reducible exact HK.out _ h3.drew)
            (first | (go_at_call 22; (with_reducible refine (HRW.out _).mono ?_); (rintro e w5 ⟨rfl, hb5⟩); (have h5 := h3.drew.trans (hb5.mono h3.drew.size))))
          have q5 := (h5.cell (p := ⟨b2, o2 + i, none⟩) (World.block_lt_of_cell? wv _ q2v)).trans q2v
          clear q2v p2 p3 p4 e1 e2 e3 e4 e5 bI1 bI2 bI3
          go_wp2_with fail
          go_roundw
          case rel => exact ⟨i + 1, by go_num, by omega, Lib.hid ((H.out.trans (HV.out.1.mono H.out.size)).trans (h5.mono (Nat.le_trans H.out.size HV.out.1.size)))⟩
          case measure => simp [intOf]; omega
        · obtain rfl : i = 0 := by omega
          go_wp2_with fail
          go_roundw
          case rel => exact ⟨0 + 1, by go_num, by omega, Lib.hid (H.out.trans (HV.out.1.mono H.out.size))⟩
          case measure => simp [intOf]; omega
      · obtain rfl : i = n := by omega
        go_wp2_with fail
        go_ret
        exact ⟨rfl, H2.out.trans (H.out.mono H2.out.size)⟩
  · by_cases g1 : 100 < l.length
    · have d1 : decide ((l.length : Int) > 100) = true := decide_eq_true (by omega)
      go_enter Tryd.func5, Tryd.ntmps5
      go_wp2_with fail
      refine (awake w).mono ?_
      rintro e w1 ⟨rfl, h1⟩
      have H1 := Lib.hid h1
      clear h1
      go_wp2_with fail
      go_ret
      exact ⟨rfl, H1.out⟩
    · have d1 : decide ((l.length : Int) > 100) = false := decide_eq_false (by omega)
      by_cases g2 : k < 1
      · have d2 : decide (k < 1) = true := decide_eq_true g2
        go_enter Tryd.func5, Tryd.ntmps5
        go_wp2_with fail
        refine (awake w).mono ?_
        rintro e w1 ⟨rfl, h1⟩
        have H1 := Lib.hid h1
        clear h1
        go_wp2_with fail
        go_ret
        exact ⟨rfl, H1.out⟩
      · have d2 : decide (k < 1) = false := decide_eq_false g2
        have d3 : decide (k > 64) = true := decide_eq_true (by omega)
        go_enter Tryd.func5, Tryd.ntmps5
        go_wp2_with fail
        refine (awake w).mono ?_
        rintro e w1 ⟨rfl, h1⟩
        have H1 := Lib.hid h1
        clear h1
        go_wp2_with fail
        go_ret
        exact ⟨rfl, H1.out⟩
end Go.Proofs.YtpkjiimcoepjpaaDoor
