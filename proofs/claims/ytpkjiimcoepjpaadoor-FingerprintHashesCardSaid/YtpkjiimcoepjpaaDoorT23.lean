/- The reference's values: Hashes, Roll. -/
import Derived.Test.YtpkjiimcoepjpaaDoorT22
namespace Go.Proofs.YtpkjiimcoepjpaaDoor
set_option linter.unusedVariables false
set_option linter.unusedSimpArgs false
open Go.RowKit Go.Proofs.YtpkjiimcoepjpaaDoorW.PrintWords Go.Proofs.YtpkjiimcoepjpaaDoorW.PrintMore
open PFingerprintSymbols (assessorref43_Hashes.f assessorref43_Hashes.j0 assessorref43_Hashes.l0 assessorref43_Hashes.calls assessorref43_Roll.f assessorref43_Roll.j0 assessorref43_Roll.l0 assessorref43_Roll.calls assessorref43_Hash.f assessorref43_reduce.f)

theorem refhashes_ev (l : List Int) (K : Nat) (hK : 1 ≤ K) (hn : l.length ≤ 1000000) (hK2 : K ≤ 64) (m : Nat) : ∀ i, l.length + 1 - K - i = m → i ≤ l.length + 1 - K →
    Ev (fun k => assessorref43_Hashes.l0 k l ((K : Nat) : Int) ((runs l K).take i) ((i : Nat) : Int)) (runs l K, 0) := by
  induction m with
  | zero =>
    intro i hm hi
    obtain rfl : i = l.length + 1 - K := by omega
    rw [List.take_of_length_le (by rw [runs_len]; omega)]
    refine Ev.step (f := fun _ => some (runs l K, (0 : Int))) (fun k => ?_) (Ev.now _)
    simp only [assessorref43_Hashes.l0]
    rw [w64in _ (by omega), if_neg (by omega)]
  | succ m ih =>
    intro i hm hi
    have hl : ((runs l K).take i).length ≤ 1000000 := by rw [List.length_take]; omega
    have hx : (l.take (i + K)).drop i = (l.drop i).take K := by rw [List.drop_take, Nat.add_sub_cancel_left]
    refine Ev.step (fun k => ?_) (Ev.bind (refhash_f ((l.drop i).take K) (by rw [List.length_take]; omega)) (f := fun k (t : Int) => if ((runs l K).take i).length < 17592186044416 then (assessorref43_Hashes.l0 k l ((K : Nat) : Int) ((runs l K).take i ++ [t]) ((i + 1 : Nat) : Int)) else none) ?_)
    · simp only [assessorref43_Hashes.l0]
      rw [w64in ((i : Int) + (K : Int)) (by omega), if_pos (by omega), if_pos (by omega), if_pos (by omega), w64in ((i : Int) + 1) (by omega), Int.toNat_natCast, show ((i : Int) + (K : Int)).toNat = i + K by omega, hx]
      rfl
    · refine Ev.congr (fun k => ?_) (ih (i + 1) (by omega) (by omega))
      rw [if_pos (by omega), List.take_succ_eq_append_getElem (by rw [runs_len]; omega), runs_get]
theorem refhashes_f (l : List Int) (k : Int) : ∃ n, assessorref43_Hashes.f n l k = some (hashesV l k, hashesC l k) := by
  have H : Ev (fun n => assessorref43_Hashes.f n l k) (hashesV l k, hashesC l k) := by
    unfold assessorref43_Hashes.f hashesV hashesC
    by_cases hk : 1 ≤ k ∧ k ≤ 64
    · rw [if_pos hk]
      have hd : decide (k > 64) = false := decide_eq_false (by omega)
      by_cases hn : l.length ≤ 2048
      · rw [if_pos ⟨hk.1, hk.2, hn⟩, if_neg (by omega)]
        obtain ⟨K, rfl⟩ : ∃ K : Nat, k = ((K : Nat) : Int) := ⟨k.toNat, by omega⟩
        rw [Int.toNat_natCast]
        refine Ev.step (fun n => ?_) (refhashes_ev l K (by omega) (by omega) (by omega) _ 0 rfl (Nat.zero_le _))
        rw [if_neg (by omega), hd]
        simp only [assessorref43_Hashes.j0]
        rw [if_neg (by simp), if_neg (by omega)]
        rfl
      · rw [if_neg (by omega), if_pos (by omega)]
        refine Ev.step (f := fun _ => some ([], (8 : Int))) (fun n => ?_) (Ev.now _)
        rw [if_neg (by omega), hd]
        simp only [assessorref43_Hashes.j0]
        rw [if_neg (by simp), if_pos (by omega)]
    · rw [if_neg (by omega), if_neg hk]
      refine Ev.step (f := fun _ => some ([], (2 : Int))) (fun n => ?_) (Ev.now _)
      by_cases h1 : k < 1
      · rw [if_pos h1]
        simp only [assessorref43_Hashes.j0]
        rw [if_pos trivial]
      · rw [if_neg h1, decide_eq_true (by omega)]
        simp only [assessorref43_Hashes.j0]
        rw [if_pos trivial]
  exact H.rounds
theorem refroll_ev (h f n : Int) (K : Nat) (hK : 1 ≤ K) (hK2 : K ≤ 64) (h0 : 0 ≤ h) (h1 : h < 2147483647) (m : Nat) : ∀ i : Nat, K - (i + 1) = m → i + 1 ≤ K →
    Ev (fun k => assessorref43_Roll.l0 k h f n ((K : Nat) : Int) (pwS i) ((i + 1 : Nat) : Int)) (rollS (pwS (K - 1)) h f n, 0) := by
  induction m with
  | zero =>
    intro i hm hi
    obtain rfl : i = K - 1 := by omega
    have hp := pwS_bd (K - 1)
    refine Ev.step (f := fun _ => some (rollS (pwS (K - 1)) h f n, (0 : Int))) (fun k => ?_) (Ev.now _)
    simp only [assessorref43_Roll.l0]
    rw [if_neg (by omega)]
    simp only [reduce_f, Option.bind_some]
    rw [← go_roll (pwS (K - 1)) h f n hp.1 hp.2 h0 h1]
    simp only [IntWalk.i64_left]
  | succ m ih =>
    intro i hm hi
    refine Ev.step (fun k => ?_) (ih (i + 1) (by omega) (by omega))
    simp only [assessorref43_Roll.l0]
    rw [if_pos (by omega), go_pw, w64in _ (by omega)]
    rfl
theorem refroll_f (h f n k : Int) : ∃ m, assessorref43_Roll.f m h f n k = some (rollV h f n k, rollC h k) := by
  have H : Ev (fun m => assessorref43_Roll.f m h f n k) (rollV h f n k, rollC h k) := by
    unfold assessorref43_Roll.f rollV rollC
    have bad : ∀ b : Bool, b = true → Ev (fun m => assessorref43_Roll.j0 m h f n k b) ((0 : Int), (2 : Int)) := by
      intro b hb
      refine Ev.step (f := fun _ => some ((0 : Int), (2 : Int))) (fun m => ?_) (Ev.now _)
      simp only [assessorref43_Roll.j0]
      rw [if_pos hb]
    by_cases h1 : k < 1
    · rw [if_neg (by omega), if_neg (by omega)]
      refine Ev.congr (fun m => ?_) (bad true rfl)
      rw [if_pos h1]
    by_cases h2 : k > 64
    · rw [if_neg (by omega), if_neg (by omega)]
      refine Ev.congr (fun m => ?_) (bad true rfl)
      rw [if_neg h1, if_pos h2]
    by_cases h3 : h < 0
    · rw [if_neg (by omega), if_neg (by omega)]
      refine Ev.congr (fun m => ?_) (bad true rfl)
      rw [if_neg h1, if_neg h2, if_pos h3]
    by_cases h4 : h ≥ 2147483647
    · rw [if_neg (by omega), if_neg (by omega)]
      refine Ev.congr (fun m => ?_) (bad (decide (h ≥ 2147483647)) (decide_eq_true h4))
      rw [if_neg h1, if_neg h2, if_neg h3]
    rw [if_pos (by omega), if_pos (by omega)]
    obtain ⟨K, rfl⟩ : ∃ K : Nat, k = ((K : Nat) : Int) := ⟨k.toNat, by omega⟩
    rw [Int.toNat_natCast]
    refine Ev.step (fun m => ?_) (refroll_ev h f n K (by omega) (by omega) (by omega) (by omega) _ 0 rfl (by omega))
    rw [if_neg h1, if_neg h2, if_neg h3, decide_eq_false h4]
    simp only [assessorref43_Roll.j0]
    rw [if_neg (by simp)]
    rfl
  exact H.rounds
theorem rowI_of {w : World} {base : Nat} {v : Value} {l : List Int} (h : Kd.R (Kd.int .i64) 3 w base (fun _ => True) v l) : ∃ A c, v = .slice A l.length c ∧ InR w A c l := by
  obtain ⟨_, inner, ho, hr⟩ := h
  rcases ho.2 with ⟨hv, h0⟩ | ⟨g, cap, cur, hv, hb, hg, hnc, hcm, hcs, htake⟩
  · have : l = [] := List.eq_nil_of_length_eq_zero h0
    subst this
    exact ⟨none, 0, hv, Nat.le_refl _, by simp, fun h => by simp at h⟩
  · subst hv
    refine ⟨_, cap, rfl, hnc, by unfold maxLen at hcm; omega, fun hp => ⟨g, 0, rfl, fun i hi => ?_⟩⟩
    have h1 := hr.2 i l[i] (List.getElem?_eq_getElem hi)
    have hc0 := ho.cellAt (i * 1) (by show i * 1 < l.length * 1; omega)
    have h2 : (inner.drop (i * 1)).take 1 = [.int .i64 l[i]] := h1
    have e0 : inner[i * 1]? = some (.int .i64 l[i]) := by
      have := congrArg (fun x : List Value => x[0]?) h2
      simpa [List.getElem?_take, List.getElem?_drop] using this
    rw [Nat.zero_add]
    rw [Nat.mul_one] at hc0 e0
    exact hc0.trans e0
theorem RefHashesW (l : List Int) (A : Option Addr) (c : Nat) (k : Int) (w : World) (h : InR w A c l) :
    Calls Tryd.prog 21 #[.slice A l.length c, .int .i64 k] w fun e w' => (∃ A' c', e = .returned (.tuple #[.slice A' (hashesV l k).length c', .int .i64 (hashesC l k)]) ∧ InR w' A' c' (hashesV l k)) ∧ Below w.heap.size w w' := by
  obtain ⟨K, hK⟩ := refhashes_f l k
  refine (assessorref43_Hashes.calls K A c l k _ _ w h.C h.1 hK).mono ?_
  rintro e w' ⟨v, rfl, h1, h2⟩
  obtain ⟨A', c', rfl, hi⟩ := rowI_of h1
  exact ⟨⟨A', c', rfl, hi⟩, h2⟩
theorem RefRollW (h f n k : Int) (w : World) :
    Calls Tryd.prog 23 #[.int .i64 h, .int .i64 f, .int .i64 n, .int .i64 k] w fun e w' => e = .returned (.tuple #[.int .i64 (rollV h f n k), .int .i64 (rollC h k)]) ∧ Below w.heap.size w w' := by
  obtain ⟨K, hK⟩ := refroll_f h f n k
  refine (assessorref43_Roll.calls K h f n k _ _ w hK).mono ?_
  rintro e w' ⟨rfl, h⟩
  exact ⟨rfl, h.below⟩

/-! ### the law FingerprintHashes -/
theorem HashesW' (l : List Int) (A : Option Addr) (c : Nat) (k : Int) (w : World) (h : InR w A c l) :
    Calls Tryd.prog 20 #[.slice A l.length c, .int .i64 k] w fun e w' => (∃ A' c', e = .returned (.tuple #[.slice A' (hashesV l k).length c', .int .i64 (hashesC l k)]) ∧ InR w' A' c' (hashesV l k)) ∧ Below w.heap.size w w' := by
  refine (HashesW l A c k w h).mono ?_
  rintro e w' ⟨⟨v, rfl, ho⟩, hb⟩
  obtain ⟨A', c', rfl, hi⟩ := ho.inR
  exact ⟨⟨A', c', rfl, hi⟩, hb⟩
theorem hashesV_len (l : List Int) (k : Int) : (hashesV l k).length ≤ 3000 := by
  unfold hashesV
  split
  · rw [runs_len]; omega
  · simp
set_option maxRecDepth 100000 in
set_option maxHeartbeats 4000000 in
theorem lawHashes (l : List Int) (A : Option Addr) (c : Nat) (h f n k : Int) (w : World) (hI : InR w A c l) :
    Calls Tryd.prog 4 #[.slice A l.length c, .int .i64 h, .int .i64 f, .int .i64 n, .int .i64 k] w fun e w' => e = .returned (.bool true) ∧ Below w.heap.size w w' := by
  have HI := Lib.hid hI
  have hlen := hI.2.1
  clear hI
  by_cases hg : 100 < l.length ∧ l.length ≤ 2048
  · obtain ⟨g1, g2⟩ := hg
    have d1 : decide ((l.length : Int) > 100) = true := decide_eq_true (by omega)
    have d2 : decide ((l.length : Int) ≤ 2048) = true := decide_eq_true (by omega)
    go_enter Tryd.func4, Tryd.ntmps4
    go_wp2_with fail
    refine (awake w).mono ?_
    rintro e w1 ⟨rfl, h1⟩
    have H1 := Lib.hid h1
    clear h1
    go_wp2_with fail
    go_ret
    exact ⟨rfl, H1.out⟩
  · have hg' : l.length ≤ 100 ∨ 2048 < l.length := by omega
    obtain ⟨vl, hvl⟩ : ∃ x, hashesV l k = x := ⟨_, rfl⟩
    obtain ⟨vc, hvc⟩ : ∃ x, hashesC l k = x := ⟨_, rfl⟩
    obtain ⟨rv, hrv⟩ : ∃ x, rollV h f n k = x := ⟨_, rfl⟩
    obtain ⟨rc, hrc⟩ : ∃ x, rollC h k = x := ⟨_, rfl⟩
    have hvl3 : vl.length ≤ 3000 := by rw [← hvl]; exact hashesV_len l k
    have HA := Lib.hid (fun W (hI : InR W A c l) => HashesW' l A c k W hI)
    have HB := Lib.hid (fun W (hI : InR W A c l) => RefHashesW l A c k W hI)
    have HC := Lib.hid (fun W => RollW h f n k W)
    have HD := Lib.hid (fun W => RefRollW h f n k W)
    rw [hvl, hvc] at HA HB
    rw [hrv, hrc] at HC HD
    clear hvl hvc hrv hrc
    rcases hg' with g | g
    all_goals
      first
        | have d1 : decide ((l.length : Int) > 100) = false := decide_eq_false (by omega)
        | (have d1 : decide ((l.length : Int) > 100) = true := decide_eq_true (by omega)
           have d2 : decide ((l.length : Int) ≤ 2048) = false := decide_eq_false (by omega))
      go_enter Tryd.func4, Tryd.ntmps4
      go_wp2_with fail
      refine (awake w).mono ?_
      rintro e w1 ⟨rfl, h1⟩
      have H1 := Lib.hid h1
      clear h1
      go_wp2_with fail
      refine (HA.out w1 (HI.out.below H1.out)).mono ?_
      rintro e w2 ⟨⟨A2, c2, rfl, i2⟩, h2⟩
      have H2 := Lib.hid (H1.out.trans (h2.mono H1.out.size))
      have I2 := Lib.hid i2
      clear h2 i2
      go_wp2_with fail
      refine (HB.out w2 (HI.out.below H2.out)).mono ?_
      rintro e w3 ⟨⟨A3, c3, rfl, i3⟩, h3⟩
      have H3 := Lib.hid (H2.out.trans (h3.mono H2.out.size))
      have I2 := Lib.hid (I2.out.below h3)
      have I3 := Lib.hid i3
      clear h3 i3
      go_wp2_with fail
      refine (HC.out w3).mono ?_
      rintro e w4 ⟨rfl, h4⟩
      have H4 := Lib.hid (H3.out.trans (h4.mono H3.out.size))
      have I2 := Lib.hid (I2.out.below h4)
      have I3 := Lib.hid (I3.out.below h4)
      clear h4
      go_wp2_with fail
      refine (HD.out w4).mono ?_
      rintro e w5 ⟨rfl, h5⟩
      have H5 := Lib.hid (H4.out.trans (h5.mono H4.out.size))
      have I2 := Lib.hid (I2.out.below h5)
      have I3 := Lib.hid (I3.out.below h5)
      clear h5
      go_wp2_with fail
      refine (SameI vl vl A2 A3 c2 c3 w5 I2.out I3.out (by omega)).mono ?_
      rintro e w6 ⟨⟨r, rfl, hr⟩, h6⟩
      obtain rfl : r = true := hr.2 rfl
      have H6 := Lib.hid (H5.out.trans (h6.below.mono H5.out.size))
      clear h6 hr
      go_wp2_with fail
      go_ret
      exact ⟨rfl, H6.out⟩
end Go.Proofs.YtpkjiimcoepjpaaDoor
