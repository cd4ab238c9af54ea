/- Seat 43, texts merged: functions that print.sh printed, cut. Lemmas for the laws of chapter 43; no conditions of their own beyond what each states. -/
import Derived.Test.YtpkjiimcoepjpaaDoorPFingerprintSymbolsx0
namespace Go.Proofs.YtpkjiimcoepjpaaDoor.PFingerprintSymbols
open Go.RowKit Go.Proofs.YtpkjiimcoepjpaaDoorW.PrintWords Go.Proofs.YtpkjiimcoepjpaaDoorW.PrintLast Go.Proofs.YtpkjiimcoepjpaaDoorW.PrintMore
attribute [local go_sem] max2_int min2_int max_two min_two max_three min_three max_four min_four
set_option linter.unusedVariables false
set_option linter.unusedSimpArgs false

/-! ### fingerprint_modulo: function 35 -/
def fingerprint_modulo.f (a0 : Int) : Option (Int) := some (Int.tmod (wrap64 ((Int.tmod a0 2147483647) + 2147483647)) 2147483647)
set_option maxHeartbeats 8000000 in
set_option maxRecDepth 100000 in
theorem fingerprint_modulo.calls (a0 : Int) (r : Int) (w : World) (h : fingerprint_modulo.f a0 = some r) :
    Calls Tryd.prog 35 #[.int .i64 a0] w fun e w' => e = .returned (.int .i64 r) ∧ Drawn0 w w' := by
  have H : (some (Int.tmod (wrap64 ((Int.tmod a0 2147483647) + 2147483647)) 2147483647)) = some r := h
  clear h
  obtain rfl := Option.some.inj H
  go_enter Tryd.func35, Tryd.ntmps35
  go_wp2
  go_ret
  exact ⟨by first | rfl | (simp; done) | (simp [*]; done), by repeat (first | exact Drawn0.refl _ | apply Drawn0.step)⟩

/-! ### fingerprint_Hash: function 17 -/
def fingerprint_Hash.l0 : Nat → Int → List Int → Int → Int → Option (Int)
  | 0, _, _, _, _ => none
  | k + 1, x3, x6, x7, x8 => if x8 < x7 then (if 0 ≤ x8 then (if x8 < (x6.length : Int) then ((fingerprint_modulo.f (rd x6 x8)).bind fun t123 => (fingerprint_Hash.l0 k (Int.tmod (wrap64 ((wrap64 (x3 * 1000003)) + t123)) 2147483647) x6 x7 (wrap64 (x8 + 1)))) else (none)) else (none)) else (some x3)
def fingerprint_Hash.f (k : Nat) (l0 : List Int) : Option (Int) := fingerprint_Hash.l0 k 0 l0 (l0.length : Int) 0
theorem fingerprint_Hash.mono_l : ∀ k, (∀ y0 y1 y2 y3, LeO (fingerprint_Hash.l0 k y0 y1 y2 y3) (fingerprint_Hash.l0 (k + 1) y0 y1 y2 y3))
  | 0 => fun _ _ _ _ r h => by simp [fingerprint_Hash.l0] at h
  | k + 1 => by
    have ih0 := fingerprint_Hash.mono_l k
    · intro y0 y1 y2 y3
      unfold fingerprint_Hash.l0
      repeat' first
      | (with_reducible exact ih0 _ _ _ _)
      | (with_reducible exact LeO.refl _)
      | (with_reducible exact LeO.none _)
      | (with_reducible refine LeO.ite ?_ ?_)
      | (with_reducible refine LeO.bind ?_ (fun _ => ?_))
      | exact ih0 _ _ _ _
      | exact LeO.none _
      | refine LeO.ite ?_ ?_
      | refine LeO.bind ?_ (fun _ => ?_)
theorem fingerprint_Hash.mono : ∀ a0 k, LeO (fingerprint_Hash.f k a0) (fingerprint_Hash.f (k + 1) a0) := by
  intro a0 k
  have ih0 := fingerprint_Hash.mono_l k
  unfold fingerprint_Hash.f
  repeat' first
      | (with_reducible exact ih0 _ _ _ _)
      | (with_reducible exact LeO.refl _)
      | (with_reducible exact LeO.none _)
      | (with_reducible refine LeO.ite ?_ ?_)
      | (with_reducible refine LeO.bind ?_ (fun _ => ?_))
      | exact ih0 _ _ _ _
      | exact LeO.none _
      | refine LeO.ite ?_ ?_
      | refine LeO.bind ?_ (fun _ => ?_)
set_option maxHeartbeats 8000000 in
set_option maxRecDepth 100000 in
theorem fingerprint_Hash.calls (k : Nat) (A0 : Option Addr) (c0 : Nat) (l0 : List Int) (r : Int) (w : World) (hr0 : Kd.C (Kd.int .i64) w A0 l0.length l0) (hc0 : l0.length ≤ c0) (h : fingerprint_Hash.f k l0 = some r) :
    Calls Tryd.prog 17 #[.slice A0 l0.length c0] w fun e w' => e = .returned (.int .i64 r) ∧ Drawn0 w w' := by
  have HR0 := Aside0.mk hr0
  have HC0 := Aside0.mk hc0
  clear hr0 hc0
  have H : (fingerprint_Hash.l0 k 0 l0 (l0.length : Int) 0) = some r := h
  clear h
  have H' := Aside0.mk H
  clear H
  go_enter Tryd.func17, Tryd.ntmps17
  go_wp2
  go_loopg [3, 8] k (fun kq v3 v8 w' => ∃ (x3_1 : Int) (x8_1 : Int), v3 = .int .i64 x3_1 ∧ v8 = .int .i64 x8_1 ∧ Aside0 (fingerprint_Hash.l0 kq x3_1 l0 (l0.length : Int) x8_1 = some r) ∧ Aside0 (kq ≤ k) ∧ Drawn0 w w')
  case atStart => exact ⟨(0), (0), (by first | rfl | (simp; done) | (simp [*]; done)), (by first | rfl | (simp; done) | (simp [*]; done)), H', ⟨Nat.le_refl _⟩, by repeat (first | exact Drawn0.refl _ | apply Drawn0.step)⟩
  case round =>
    clear H'
    try clear c1
    obtain ⟨x3_1, x8_1, rfl, rfl, HA, HK1, ⟨m1, rfl⟩⟩ := hrel
    cases gk with
    | zero => exact absurd HA.out (by simp [fingerprint_Hash.l0])
    | succ k1 =>
      have H := HA.out
      clear HA
      simp only [fingerprint_Hash.l0] at H
      by_cases c2 : x8_1 < (l0.length : Int)
      · rw [if_pos c2] at H
        have c2b0 : decide (x8_1 < (l0.length : Int)) = true := decide_eq_true c2
        clear c2
        by_cases c3 : 0 ≤ x8_1
        · rw [if_pos c3] at H
          have c3b0 : decide (0 ≤ x8_1) = true := decide_eq_true c3
          clear c3
          by_cases c4 : x8_1 < (l0.length : Int)
          · rw [if_pos c4] at H
            have c4b0 : decide (x8_1 < (l0.length : Int)) = true := decide_eq_true c4
            clear c4
            replace H := Option.bind_eq_some_iff.mp H
            obtain ⟨t123, A50, H⟩ := H
            replace H : (fingerprint_Hash.l0 k1 (Int.tmod (wrap64 ((wrap64 (x3_1 * 1000003)) + t123)) 2147483647) l0 (l0.length : Int) (wrap64 (x8_1 + 1))) = some r := H
            have A5 := Aside0.mk A50
            clear A50
            have H' := Aside0.mk H
            clear H
            have p122 : 0 ≤ (x8_1 : Int) := of_decide_eq_true (by first | (with_reducible assumption) | assumption)
            have q122 : x8_1 < (l0.length : Int) := of_decide_eq_true (by first | (with_reducible assumption) | assumption)
            obtain ⟨ad122, e122, hx122_0⟩ := Kd.at_int HR0.out x8_1 p122 q122
            cases e122
            replace p122 := eq_true p122
            replace q122 := eq_true q122
            go_wp2_with (first | ((with_reducible refine gate_callee (f := 35) rfl ?_); refine goesL_ (some 15) rfl rfl Tryd.func35 (by kernel_rfl) rfl #[.int .i64 (rd l0 x8_1)] rfl (by (try simp only [List.map_toArray, List.map_cons, List.map_nil]); first | done | rfl | (simp only [List.length_drop, List.length_take]; rfl)) ?_; (with_reducible refine (fingerprint_modulo.calls (rd l0 x8_1) t123 _ A5.out).mono ?_); rintro e w' ⟨rfl, ⟨nd, rfl⟩⟩; refine ⟨_, rfl, ?_⟩))
            go_roundg k1
            case measure => have := HK1.out; omega
            case rel => exact ⟨(Int.tmod (wrap64 ((wrap64 (x3_1 * 1000003)) + t123)) 2147483647), (wrap64 (x8_1 + 1)), (by first | rfl | (simp; done) | (simp [*]; done)), (by first | rfl | (simp; done) | (simp [*]; done)), H', ⟨by have := HK1.out; omega⟩, by repeat (first | exact Drawn0.refl _ | apply Drawn0.step)⟩
          · rw [if_neg c4] at H
            exact absurd H (by simp)
        · rw [if_neg c3] at H
          exact absurd H (by simp)
      · rw [if_neg c2] at H
        have c2b0 : decide (x8_1 < (l0.length : Int)) = false := decide_eq_false c2
        clear c2
        obtain rfl := Option.some.inj H
        go_wp2
        go_ret
        exact ⟨by first | rfl | (simp; done) | (simp [*]; done), by repeat (first | exact Drawn0.refl _ | apply Drawn0.step)⟩

/-! ### fingerprint_ranged: function 31 -/
def fingerprint_ranged.f (a0 : Int) : Option (Bool) := if a0 ≥ 1 then (some (decide (a0 ≤ 64))) else (some false)
set_option maxHeartbeats 8000000 in
set_option maxRecDepth 100000 in
theorem fingerprint_ranged.calls (a0 : Int) (r : Bool) (w : World) (h : fingerprint_ranged.f a0 = some r) :
    Calls Tryd.prog 31 #[.int .i64 a0] w fun e w' => e = .returned (.bool r) ∧ Drawn0 w w' := by
  have H : (if a0 ≥ 1 then (some (decide (a0 ≤ 64))) else (some false)) = some r := h
  clear h
  by_cases c2 : a0 ≥ 1
  · rw [if_pos c2] at H
    have c2b0 : decide (1 ≤ a0) = true := decide_eq_true c2
    clear c2
    obtain rfl := Option.some.inj H
    go_enter Tryd.func31, Tryd.ntmps31
    go_wp2
    go_ret
    exact ⟨by first | rfl | (simp; done) | (simp [*]; done), by repeat (first | exact Drawn0.refl _ | apply Drawn0.step)⟩
  · rw [if_neg c2] at H
    have c2b0 : decide (1 ≤ a0) = false := decide_eq_false c2
    clear c2
    obtain rfl := Option.some.inj H
    go_enter Tryd.func31, Tryd.ntmps31
    go_wp2
    go_ret
    exact ⟨by first | rfl | (simp; done) | (simp [*]; done), by repeat (first | exact Drawn0.refl _ | apply Drawn0.step)⟩

/-! ### fingerprint_power: function 44 -/
def fingerprint_power.l0 : Nat → Int → Int → Int → Option (Int)
  | 0, _, _, _ => none
  | k + 1, x3, x4, x5 => if x5 < x4 then (fingerprint_power.l0 k (Int.tmod (wrap64 (x3 * 1000003)) 2147483647) x4 (wrap64 (x5 + 1))) else (some x3)
def fingerprint_power.f (k : Nat) (a0 : Int) : Option (Int) := fingerprint_power.l0 k 1 a0 0
theorem fingerprint_power.mono_l : ∀ k, (∀ y0 y1 y2, LeO (fingerprint_power.l0 k y0 y1 y2) (fingerprint_power.l0 (k + 1) y0 y1 y2))
  | 0 => fun _ _ _ r h => by simp [fingerprint_power.l0] at h
  | k + 1 => by
    have ih0 := fingerprint_power.mono_l k
    · intro y0 y1 y2
      unfold fingerprint_power.l0
      repeat' first
      | (with_reducible exact ih0 _ _ _)
      | (with_reducible exact LeO.refl _)
      | (with_reducible exact LeO.none _)
      | (with_reducible refine LeO.ite ?_ ?_)
      | (with_reducible refine LeO.bind ?_ (fun _ => ?_))
      | exact ih0 _ _ _
      | exact LeO.none _
      | refine LeO.ite ?_ ?_
      | refine LeO.bind ?_ (fun _ => ?_)
theorem fingerprint_power.mono : ∀ a0 k, LeO (fingerprint_power.f k a0) (fingerprint_power.f (k + 1) a0) := by
  intro a0 k
  have ih0 := fingerprint_power.mono_l k
  unfold fingerprint_power.f
  repeat' first
      | (with_reducible exact ih0 _ _ _)
      | (with_reducible exact LeO.refl _)
      | (with_reducible exact LeO.none _)
      | (with_reducible refine LeO.ite ?_ ?_)
      | (with_reducible refine LeO.bind ?_ (fun _ => ?_))
      | exact ih0 _ _ _
      | exact LeO.none _
      | refine LeO.ite ?_ ?_
      | refine LeO.bind ?_ (fun _ => ?_)
set_option maxHeartbeats 8000000 in
set_option maxRecDepth 100000 in
theorem fingerprint_power.calls (k : Nat) (a0 : Int) (r : Int) (w : World) (h : fingerprint_power.f k a0 = some r) :
    Calls Tryd.prog 44 #[.int .i64 a0] w fun e w' => e = .returned (.int .i64 r) ∧ Drawn0 w w' := by
  have H : (fingerprint_power.l0 k 1 a0 0) = some r := h
  clear h
  have H' := Aside0.mk H
  clear H
  go_enter Tryd.func44, Tryd.ntmps44
  go_wp2
  go_loopg [3, 5] k (fun kq v3 v5 w' => ∃ (x3_1 : Int) (x5_1 : Int), v3 = .int .i64 x3_1 ∧ v5 = .int .i64 x5_1 ∧ Aside0 (fingerprint_power.l0 kq x3_1 a0 x5_1 = some r) ∧ Aside0 (kq ≤ k) ∧ Drawn0 w w')
  case atStart => exact ⟨(1), (0), (by first | rfl | (simp; done) | (simp [*]; done)), (by first | rfl | (simp; done) | (simp [*]; done)), H', ⟨Nat.le_refl _⟩, by repeat (first | exact Drawn0.refl _ | apply Drawn0.step)⟩
  case round =>
    clear H'
    obtain ⟨x3_1, x5_1, rfl, rfl, HA, HK1, ⟨m1, rfl⟩⟩ := hrel
    cases gk with
    | zero => exact absurd HA.out (by simp [fingerprint_power.l0])
    | succ k1 =>
      have H := HA.out
      clear HA
      simp only [fingerprint_power.l0] at H
      by_cases c2 : x5_1 < a0
      · rw [if_pos c2] at H
        have c2b0 : decide (x5_1 < a0) = true := decide_eq_true c2
        clear c2
        have H' := Aside0.mk H
        clear H
        go_wp2
        go_roundg k1
        case measure => have := HK1.out; omega
        case rel => exact ⟨(Int.tmod (wrap64 (x3_1 * 1000003)) 2147483647), (wrap64 (x5_1 + 1)), (by first | rfl | (simp; done) | (simp [*]; done)), (by first | rfl | (simp; done) | (simp [*]; done)), H', ⟨by have := HK1.out; omega⟩, by repeat (first | exact Drawn0.refl _ | apply Drawn0.step)⟩
      · rw [if_neg c2] at H
        have c2b0 : decide (x5_1 < a0) = false := decide_eq_false c2
        clear c2
        obtain rfl := Option.some.inj H
        go_wp2
        go_ret
        exact ⟨by first | rfl | (simp; done) | (simp [*]; done), by repeat (first | exact Drawn0.refl _ | apply Drawn0.step)⟩

-- NOT PRINTED: function 37 (fingerprint_roller)

-- NOT PRINTED: function 20 (fingerprint_Hashes)

/-! ### assessorref43_Sum: function 33 -/
def assessorref43_Sum.l0 : Nat → ByteArray → Int → Int → Option (Int)
  | 0, _, _, _ => none
  | k + 1, x0, x3, x4 => if x4 < (x0.size : Int) then (if 0 ≤ x4 then (assessorref43_Sum.l0 k x0 (Int.tmod (wrap64 ((Go.bits .xor .i64 x3 (wrap64 (bt x0 x4))) * 16777619)) 4294967296) (wrap64 (x4 + 1))) else (none)) else (some x3)
def assessorref43_Sum.f (k : Nat) (a0 : ByteArray) : Option (Int) := assessorref43_Sum.l0 k a0 2166136261 0
theorem assessorref43_Sum.mono_l : ∀ k, (∀ y0 y1 y2, LeO (assessorref43_Sum.l0 k y0 y1 y2) (assessorref43_Sum.l0 (k + 1) y0 y1 y2))
  | 0 => fun _ _ _ r h => by simp [assessorref43_Sum.l0] at h
  | k + 1 => by
    have ih0 := assessorref43_Sum.mono_l k
    · intro y0 y1 y2
      unfold assessorref43_Sum.l0
      repeat' first
      | (with_reducible exact ih0 _ _ _)
      | (with_reducible exact LeO.refl _)
      | (with_reducible exact LeO.none _)
      | (with_reducible refine LeO.ite ?_ ?_)
      | (with_reducible refine LeO.bind ?_ (fun _ => ?_))
      | exact ih0 _ _ _
      | exact LeO.none _
      | refine LeO.ite ?_ ?_
      | refine LeO.bind ?_ (fun _ => ?_)
theorem assessorref43_Sum.mono : ∀ a0 k, LeO (assessorref43_Sum.f k a0) (assessorref43_Sum.f (k + 1) a0) := by
  intro a0 k
  have ih0 := assessorref43_Sum.mono_l k
  unfold assessorref43_Sum.f
  repeat' first
      | (with_reducible exact ih0 _ _ _)
      | (with_reducible exact LeO.refl _)
      | (with_reducible exact LeO.none _)
      | (with_reducible refine LeO.ite ?_ ?_)
      | (with_reducible refine LeO.bind ?_ (fun _ => ?_))
      | exact ih0 _ _ _
      | exact LeO.none _
      | refine LeO.ite ?_ ?_
      | refine LeO.bind ?_ (fun _ => ?_)
set_option maxHeartbeats 8000000 in
set_option maxRecDepth 100000 in
theorem assessorref43_Sum.calls (k : Nat) (a0 : ByteArray) (r : Int) (w : World) (h : assessorref43_Sum.f k a0 = some r) :
    Calls Tryd.prog 33 #[.string a0] w fun e w' => e = .returned (.int .i64 r) ∧ Drawn0 w w' := by
  have H : (assessorref43_Sum.l0 k a0 2166136261 0) = some r := h
  clear h
  have H' := Aside0.mk H
  clear H
  go_enter Tryd.func33, Tryd.ntmps33
  go_wp2
  go_loopg [3, 4] k (fun kq v3 v4 w' => ∃ (x3_1 : Int) (x4_1 : Int), v3 = .int .i64 x3_1 ∧ v4 = .int .i64 x4_1 ∧ Aside0 (assessorref43_Sum.l0 kq a0 x3_1 x4_1 = some r) ∧ Aside0 (kq ≤ k) ∧ Drawn0 w w')
  case atStart => exact ⟨(2166136261), (0), (by first | rfl | (simp; done) | (simp [*]; done)), (by first | rfl | (simp; done) | (simp [*]; done)), H', ⟨Nat.le_refl _⟩, by repeat (first | exact Drawn0.refl _ | apply Drawn0.step)⟩
  case round =>
    clear H'
    obtain ⟨x3_1, x4_1, rfl, rfl, HA, HK1, ⟨m1, rfl⟩⟩ := hrel
    cases gk with
    | zero => exact absurd HA.out (by simp [assessorref43_Sum.l0])
    | succ k1 =>
      have H := HA.out
      clear HA
      simp only [assessorref43_Sum.l0] at H
      by_cases c2 : x4_1 < (a0.size : Int)
      · rw [if_pos c2] at H
        have c2b0 : decide (x4_1 < (a0.size : Int)) = true := decide_eq_true c2
        clear c2
        by_cases c3 : 0 ≤ x4_1
        · rw [if_pos c3] at H
          have c3b0 : decide (0 ≤ x4_1) = true := decide_eq_true c3
          clear c3
          have H' := Aside0.mk H
          clear H
          have p4 : 0 ≤ (x4_1 : Int) := of_decide_eq_true (by first | (with_reducible assumption) | assumption)
          have q4 : x4_1 < (a0.size : Int) := of_decide_eq_true (by first | (with_reducible assumption) | assumption)
          have hx4 := bt_at a0 x4_1
          replace p4 := eq_true p4
          replace q4 := eq_true q4
          go_wp2
          go_roundg k1
          case measure => have := HK1.out; omega
          case rel => exact ⟨(Int.tmod (wrap64 ((Go.bits .xor .i64 x3_1 (wrap64 (bt a0 x4_1))) * 16777619)) 4294967296), (wrap64 (x4_1 + 1)), (by first | rfl | (simp; done) | (simp [*]; done)), (by first | rfl | (simp; done) | (simp [*]; done)), H', ⟨by have := HK1.out; omega⟩, by repeat (first | exact Drawn0.refl _ | apply Drawn0.step)⟩
        · rw [if_neg c3] at H
          exact absurd H (by simp)
      · rw [if_neg c2] at H
        have c2b0 : decide (x4_1 < (a0.size : Int)) = false := decide_eq_false c2
        clear c2
        obtain rfl := Option.some.inj H
        go_wp2
        go_ret
        exact ⟨by first | rfl | (simp; done) | (simp [*]; done), by repeat (first | exact Drawn0.refl _ | apply Drawn0.step)⟩

/-! ### assessorref43_decimal: function 34 -/
def assessorref43_decimal.f : Nat → Int → Option (ByteArray)
  | 0, _ => none
  | k + 1, a0 => if a0 = (-9223372036854775808) then (some (⟨#[45, 57, 50, 50, 51, 51, 55, 50, 48, 51, 54, 56, 53, 52, 55, 55, 53, 56, 48, 56]⟩ : ByteArray)) else (if a0 < 0 then ((assessorref43_decimal.f k (wrap64 (-a0))).bind fun t307 => (if 1 + t307.size ≤ 9223372036854775807 then (some ((⟨#[45]⟩ : ByteArray) ++ t307)) else (none))) else (if 0 ≤ (Int.tmod a0 10) then (if (Int.tmod a0 10) ≤ (wrap64 ((Int.tmod a0 10) + 1)) then (if (wrap64 ((Int.tmod a0 10) + 1)) ≤ 10 then (if a0 < 10 then (some ((⟨#[48, 49, 50, 51, 52, 53, 54, 55, 56, 57]⟩ : ByteArray).extract ((Int.tmod a0 10) : Int).toNat ((wrap64 ((Int.tmod a0 10) + 1)) : Int).toNat)) else ((assessorref43_decimal.f k (wrap64 (Int.tdiv a0 10))).bind fun t308 => (if t308.size + ((⟨#[48, 49, 50, 51, 52, 53, 54, 55, 56, 57]⟩ : ByteArray).extract ((Int.tmod a0 10) : Int).toNat ((wrap64 ((Int.tmod a0 10) + 1)) : Int).toNat).size ≤ 9223372036854775807 then (some (t308 ++ ((⟨#[48, 49, 50, 51, 52, 53, 54, 55, 56, 57]⟩ : ByteArray).extract ((Int.tmod a0 10) : Int).toNat ((wrap64 ((Int.tmod a0 10) + 1)) : Int).toNat))) else (none)))) else (none)) else (none)) else (none)))
theorem assessorref43_decimal.mono_l : ∀ k, (∀ y0, LeO (assessorref43_decimal.f k y0) (assessorref43_decimal.f (k + 1) y0))
  | 0 => fun _ r h => by simp [assessorref43_decimal.f] at h
  | k + 1 => by
    have ih0 := assessorref43_decimal.mono_l k
    · intro y0
      unfold assessorref43_decimal.f
      repeat' first
      | (with_reducible exact ih0 _)
      | (with_reducible exact LeO.refl _)
      | (with_reducible exact LeO.none _)
      | (with_reducible refine LeO.ite ?_ ?_)
      | (with_reducible refine LeO.bind ?_ (fun _ => ?_))
      | exact ih0 _
      | exact LeO.none _
      | refine LeO.ite ?_ ?_
      | refine LeO.bind ?_ (fun _ => ?_)
theorem assessorref43_decimal.mono : ∀ a0 k, LeO (assessorref43_decimal.f k a0) (assessorref43_decimal.f (k + 1) a0) := by
  intro a0 k
  have ih0 := assessorref43_decimal.mono_l k
  exact ih0 a0
set_option maxHeartbeats 8000000 in
set_option maxRecDepth 100000 in
theorem assessorref43_decimal.calls (k : Nat) : ∀ (a0 : Int) (r : ByteArray) (w : World) (h : assessorref43_decimal.f k a0 = some r),
    Calls Tryd.prog 34 #[.int .i64 a0] w fun e w' => e = .returned (.string r) ∧ Drawn0 w w' := by
  induction k using Nat.strongRecOn with
  | _ k ih =>
  intro a0 r w h
  cases k with
  | zero => exact absurd h (by simp [assessorref43_decimal.f])
  | succ k =>
  simp only [assessorref43_decimal.f] at h
  have H : (if a0 = (-9223372036854775808) then (some (⟨#[45, 57, 50, 50, 51, 51, 55, 50, 48, 51, 54, 56, 53, 52, 55, 55, 53, 56, 48, 56]⟩ : ByteArray)) else (if a0 < 0 then ((assessorref43_decimal.f k (wrap64 (-a0))).bind fun t307 => (if 1 + t307.size ≤ 9223372036854775807 then (some ((⟨#[45]⟩ : ByteArray) ++ t307)) else (none))) else (if 0 ≤ (Int.tmod a0 10) then (if (Int.tmod a0 10) ≤ (wrap64 ((Int.tmod a0 10) + 1)) then (if (wrap64 ((Int.tmod a0 10) + 1)) ≤ 10 then (if a0 < 10 then (some ((⟨#[48, 49, 50, 51, 52, 53, 54, 55, 56, 57]⟩ : ByteArray).extract ((Int.tmod a0 10) : Int).toNat ((wrap64 ((Int.tmod a0 10) + 1)) : Int).toNat)) else ((assessorref43_decimal.f k (wrap64 (Int.tdiv a0 10))).bind fun t308 => (if t308.size + ((⟨#[48, 49, 50, 51, 52, 53, 54, 55, 56, 57]⟩ : ByteArray).extract ((Int.tmod a0 10) : Int).toNat ((wrap64 ((Int.tmod a0 10) + 1)) : Int).toNat).size ≤ 9223372036854775807 then (some (t308 ++ ((⟨#[48, 49, 50, 51, 52, 53, 54, 55, 56, 57]⟩ : ByteArray).extract ((Int.tmod a0 10) : Int).toNat ((wrap64 ((Int.tmod a0 10) + 1)) : Int).toNat))) else (none)))) else (none)) else (none)) else (none)))) = some r := h
  clear h
  by_cases c2 : a0 = (-9223372036854775808)
  · rw [if_pos c2] at H
    have c2b0 : (a0 == (-9223372036854775808)) = true := beq_iff_eq.mpr c2
    have c2b1 : (a0 != (-9223372036854775808)) = false := bne_eq_false_iff_eq.mpr c2
    clear c2
    obtain rfl := Option.some.inj H
    go_enter Tryd.func34, Tryd.ntmps34
    go_wp2
    go_ret
    exact ⟨by first | rfl | (simp; done) | (simp [*]; done), by repeat (first | exact Drawn0.refl _ | apply Drawn0.step)⟩
  · rw [if_neg c2] at H
    have c2b0 : (a0 == (-9223372036854775808)) = false := beq_eq_false_iff_ne.mpr c2
    have c2b1 : (a0 != (-9223372036854775808)) = true := bne_iff_ne.mpr c2
    by_cases c3 : a0 < 0
    · rw [if_pos c3] at H
      have c3b0 : decide (a0 < 0) = true := decide_eq_true c3
      clear c3
      replace H := Option.bind_eq_some_iff.mp H
      obtain ⟨t307, A40, H⟩ := H
      replace H : (if 1 + t307.size ≤ 9223372036854775807 then (some ((⟨#[45]⟩ : ByteArray) ++ t307)) else (none)) = some r := H
      have A4 := Aside0.mk A40
      clear A40
      by_cases c5 : 1 + t307.size ≤ 9223372036854775807
      · rw [if_pos c5] at H
        have c5b0 := eq_true c5
        have c5b1 : decide (1 + t307.size ≤ 9223372036854775807) = true := decide_eq_true c5
        try have c5b2 : (9223372036854775807 < 1 + t307.size) = False := eq_false (Nat.not_lt.2 c5)
        obtain rfl := Option.some.inj H
        go_enter Tryd.func34, Tryd.ntmps34
        go_wp2_with (first | ((with_reducible refine gate_callee (f := 34) rfl ?_); refine goesL_ (some 10) rfl rfl Tryd.func34 (by kernel_rfl) rfl #[.int .i64 (wrap64 (-a0))] rfl (by (try simp only [List.map_toArray, List.map_cons, List.map_nil]); first | done | rfl | (simp only [List.length_drop, List.length_take]; rfl)) ?_; (with_reducible refine (ih k (by omega) (wrap64 (-a0)) t307 _ A4.out).mono ?_); rintro e w' ⟨rfl, ⟨nd, rfl⟩⟩; refine ⟨_, rfl, ?_⟩))
        go_ret
        exact ⟨by first | rfl | (simp; done) | (simp [*]; done), by repeat (first | exact Drawn0.refl _ | apply Drawn0.step)⟩
      · rw [if_neg c5] at H
        exact absurd H (by simp)
    · rw [if_neg c3] at H
      have c3b0 : decide (a0 < 0) = false := decide_eq_false c3
      clear c3
      obtain ⟨ji6, hji6⟩ : ∃ j_ : Int, (Int.tmod a0 10) = j_ := ⟨_, rfl⟩
      replace H : (if 0 ≤ (ji6) then (if (ji6) ≤ (wrap64 ((ji6) + 1)) then (if (wrap64 ((ji6) + 1)) ≤ 10 then (if a0 < 10 then (some ((⟨#[48, 49, 50, 51, 52, 53, 54, 55, 56, 57]⟩ : ByteArray).extract ((ji6) : Int).toNat ((wrap64 ((ji6) + 1)) : Int).toNat)) else ((assessorref43_decimal.f k (wrap64 (Int.tdiv a0 10))).bind fun t308 => (if t308.size + ((⟨#[48, 49, 50, 51, 52, 53, 54, 55, 56, 57]⟩ : ByteArray).extract ((ji6) : Int).toNat ((wrap64 ((ji6) + 1)) : Int).toNat).size ≤ 9223372036854775807 then (some (t308 ++ ((⟨#[48, 49, 50, 51, 52, 53, 54, 55, 56, 57]⟩ : ByteArray).extract ((ji6) : Int).toNat ((wrap64 ((ji6) + 1)) : Int).toNat))) else (none)))) else (none)) else (none)) else (none)) = some r := by first | (rw [hji6] at H; exact H) | (simp only [hji6] at H ⊢; exact H)
      by_cases c7 : 0 ≤ (ji6)
      · rw [if_pos c7] at H
        have c7b0 := eq_true c7
        have c7b1 : decide (0 ≤ (ji6)) = true := decide_eq_true c7
        clear c7
        by_cases c8 : (ji6) ≤ (wrap64 ((ji6) + 1))
        · rw [if_pos c8] at H
          have c8b0 := eq_true c8
          have c8b1 : decide ((ji6) ≤ (wrap64 ((ji6) + 1))) = true := decide_eq_true c8
          by_cases c9 : (wrap64 ((ji6) + 1)) ≤ 10
          · rw [if_pos c9] at H
            have c9b0 := eq_true c9
            have c9b1 : decide ((wrap64 ((ji6) + 1)) ≤ 10) = true := decide_eq_true c9
            by_cases c10 : a0 < 10
            · rw [if_pos c10] at H
              have c10b0 : decide (a0 < 10) = true := decide_eq_true c10
              clear c10
              obtain rfl := Option.some.inj H
              go_enter Tryd.func34, Tryd.ntmps34
              go_wp2
              go_ret
              exact ⟨by first | rfl | (simp; done) | (simp only [← hji6] <;> (first | rfl | simp)) | (simp [*]; done), by repeat (first | exact Drawn0.refl _ | apply Drawn0.step)⟩
            · rw [if_neg c10] at H
              have c10b0 : decide (a0 < 10) = false := decide_eq_false c10
              clear c10
              replace H := Option.bind_eq_some_iff.mp H
              obtain ⟨t308, A110, H⟩ := H
              replace H : (if t308.size + ((⟨#[48, 49, 50, 51, 52, 53, 54, 55, 56, 57]⟩ : ByteArray).extract ((ji6) : Int).toNat ((wrap64 ((ji6) + 1)) : Int).toNat).size ≤ 9223372036854775807 then (some (t308 ++ ((⟨#[48, 49, 50, 51, 52, 53, 54, 55, 56, 57]⟩ : ByteArray).extract ((ji6) : Int).toNat ((wrap64 ((ji6) + 1)) : Int).toNat))) else (none)) = some r := H
              have A11 := Aside0.mk A110
              clear A110
              by_cases c12 : t308.size + ((⟨#[48, 49, 50, 51, 52, 53, 54, 55, 56, 57]⟩ : ByteArray).extract ((ji6) : Int).toNat ((wrap64 ((ji6) + 1)) : Int).toNat).size ≤ 9223372036854775807
              · rw [if_pos c12] at H
                have c12b0 := eq_true c12
                have c12b1 : decide (t308.size + ((⟨#[48, 49, 50, 51, 52, 53, 54, 55, 56, 57]⟩ : ByteArray).extract ((ji6) : Int).toNat ((wrap64 ((ji6) + 1)) : Int).toNat).size ≤ 9223372036854775807) = true := decide_eq_true c12
                try have c12b2 : (9223372036854775807 < t308.size + ((⟨#[48, 49, 50, 51, 52, 53, 54, 55, 56, 57]⟩ : ByteArray).extract ((ji6) : Int).toNat ((wrap64 ((ji6) + 1)) : Int).toNat).size) = False := eq_false (Nat.not_lt.2 c12)
                obtain rfl := Option.some.inj H
                go_enter Tryd.func34, Tryd.ntmps34
                go_wp2_with (first | ((with_reducible refine gate_callee (f := 34) rfl ?_); refine goesL_ (some 23) rfl rfl Tryd.func34 (by kernel_rfl) rfl #[.int .i64 (wrap64 (Int.tdiv a0 10))] rfl (by (try simp only [List.map_toArray, List.map_cons, List.map_nil]); first | done | rfl | (simp only [List.length_drop, List.length_take]; rfl)) ?_; (with_reducible refine (ih k (by omega) (wrap64 (Int.tdiv a0 10)) t308 _ A11.out).mono ?_); rintro e w' ⟨rfl, ⟨nd, rfl⟩⟩; refine ⟨_, rfl, ?_⟩))
                go_ret
                exact ⟨by first | rfl | (simp; done) | (simp only [← hji6] <;> (first | rfl | simp)) | (simp [*]; done), by repeat (first | exact Drawn0.refl _ | apply Drawn0.step)⟩
              · rw [if_neg c12] at H
                exact absurd H (by simp)
          · rw [if_neg c9] at H
            exact absurd H (by simp)
        · rw [if_neg c8] at H
          exact absurd H (by simp)
      · rw [if_neg c7] at H
        exact absurd H (by simp)

/-! ### assessorref43_reduce: function 36 -/
def assessorref43_reduce.f (a0 : Int) : Option (Int) := some (Int.tmod (wrap64 ((Int.tmod a0 2147483647) + 2147483647)) 2147483647)
set_option maxHeartbeats 8000000 in
set_option maxRecDepth 100000 in
theorem assessorref43_reduce.calls (a0 : Int) (r : Int) (w : World) (h : assessorref43_reduce.f a0 = some r) :
    Calls Tryd.prog 36 #[.int .i64 a0] w fun e w' => e = .returned (.int .i64 r) ∧ Drawn0 w w' := by
  have H : (some (Int.tmod (wrap64 ((Int.tmod a0 2147483647) + 2147483647)) 2147483647)) = some r := h
  clear h
  obtain rfl := Option.some.inj H
  go_enter Tryd.func36, Tryd.ntmps36
  go_wp2
  go_ret
  exact ⟨by first | rfl | (simp; done) | (simp [*]; done), by repeat (first | exact Drawn0.refl _ | apply Drawn0.step)⟩

/-! ### assessorref37_few: function 30 -/
mutual
def assessorref37_few.j0 : Nat → Int → Bool → Int → ByteArray → Int → Int → List (S24) → Option (Int)
  | 0, _, _, _, _, _, _, _ => none
  | k + 1, x1, x13, x303000, x303001, x303002, x303003, x303004 => if x13 = true then (some (-1)) else (assessorref37_few.l0 k (wrap64 (x1 - 1)) 0 x303000 x303001 x303002 x303003 x303004)
def assessorref37_few.l0 : Nat → Int → Int → Int → ByteArray → Int → Int → List (S24) → Option (Int)
  | 0, _, _, _, _, _, _, _ => none
  | k + 1, x1, x5, x303000, x303001, x303002, x303003, x303004 => if x5 < (x303004.length : Int) then (if x1 ≥ 0 then (if 0 ≤ x5 then ((assessorref37_few.f k ((rd_T24 x303004 x5).f0) ((rd_T24 x303004 x5).f1) ((rd_T24 x303004 x5).f2) ((rd_T24 x303004 x5).f3) ((rd_T24 x303004 x5).f4) x1).bind fun t304 => (assessorref37_few.l0 k t304 (wrap64 (x5 + 1)) x303000 x303001 x303002 x303003 x303004)) else (none)) else (some x1)) else (some x1)
def assessorref37_few.f : Nat → Int → ByteArray → Int → Int → List (S24) → Int → Option (Int)
  | 0, _, _, _, _, _, _ => none
  | k + 1, a0_0, a0_1, a0_2, a0_3, l0_4, a1 => if a1 < 1 then (assessorref37_few.j0 k a1 true a0_0 a0_1 a0_2 a0_3 l0_4) else (assessorref37_few.j0 k a1 (decide ((a0_1.size : Int) > 40)) a0_0 a0_1 a0_2 a0_3 l0_4)
end
theorem assessorref37_few.mono_l : ∀ k, (∀ y0 y1 y2 y3 y4 y5, LeO (assessorref37_few.f k y0 y1 y2 y3 y4 y5) (assessorref37_few.f (k + 1) y0 y1 y2 y3 y4 y5)) ∧ (∀ y0 y1 y2 y3 y4 y5 y6, LeO (assessorref37_few.j0 k y0 y1 y2 y3 y4 y5 y6) (assessorref37_few.j0 (k + 1) y0 y1 y2 y3 y4 y5 y6)) ∧ (∀ y0 y1 y2 y3 y4 y5 y6, LeO (assessorref37_few.l0 k y0 y1 y2 y3 y4 y5 y6) (assessorref37_few.l0 (k + 1) y0 y1 y2 y3 y4 y5 y6))
  | 0 => ⟨fun _ _ _ _ _ _ r h => by simp [assessorref37_few.f] at h, fun _ _ _ _ _ _ _ r h => by simp [assessorref37_few.j0] at h, fun _ _ _ _ _ _ _ r h => by simp [assessorref37_few.l0] at h⟩
  | k + 1 => by
    obtain ⟨ih0, ih1, ih2⟩ := assessorref37_few.mono_l k
    refine ⟨?_, ?_, ?_⟩
    · intro y0 y1 y2 y3 y4 y5
      unfold assessorref37_few.f
      repeat' first
      | (with_reducible exact ih0 _ _ _ _ _ _)
      | (with_reducible exact ih1 _ _ _ _ _ _ _)
      | (with_reducible exact ih2 _ _ _ _ _ _ _)
      | (with_reducible exact LeO.refl _)
      | (with_reducible exact LeO.none _)
      | (with_reducible refine LeO.ite ?_ ?_)
      | (with_reducible refine LeO.bind ?_ (fun _ => ?_))
      | exact ih0 _ _ _ _ _ _
      | exact ih1 _ _ _ _ _ _ _
      | exact ih2 _ _ _ _ _ _ _
      | exact LeO.none _
      | refine LeO.ite ?_ ?_
      | refine LeO.bind ?_ (fun _ => ?_)
    · intro y0 y1 y2 y3 y4 y5 y6
      unfold assessorref37_few.j0
      repeat' first
      | (with_reducible exact ih0 _ _ _ _ _ _)
      | (with_reducible exact ih1 _ _ _ _ _ _ _)
      | (with_reducible exact ih2 _ _ _ _ _ _ _)
      | (with_reducible exact LeO.refl _)
      | (with_reducible exact LeO.none _)
      | (with_reducible refine LeO.ite ?_ ?_)
      | (with_reducible refine LeO.bind ?_ (fun _ => ?_))
      | exact ih0 _ _ _ _ _ _
      | exact ih1 _ _ _ _ _ _ _
      | exact ih2 _ _ _ _ _ _ _
      | exact LeO.none _
      | refine LeO.ite ?_ ?_
      | refine LeO.bind ?_ (fun _ => ?_)
    · intro y0 y1 y2 y3 y4 y5 y6
      unfold assessorref37_few.l0
      repeat' first
      | (with_reducible exact ih0 _ _ _ _ _ _)
      | (with_reducible exact ih1 _ _ _ _ _ _ _)
      | (with_reducible exact ih2 _ _ _ _ _ _ _)
      | (with_reducible exact LeO.refl _)
      | (with_reducible exact LeO.none _)
      | (with_reducible refine LeO.ite ?_ ?_)
      | (with_reducible refine LeO.bind ?_ (fun _ => ?_))
      | exact ih0 _ _ _ _ _ _
      | exact ih1 _ _ _ _ _ _ _
      | exact ih2 _ _ _ _ _ _ _
      | exact LeO.none _
      | refine LeO.ite ?_ ?_
      | refine LeO.bind ?_ (fun _ => ?_)
theorem assessorref37_few.mono : ∀ a0 a1 a2 a3 a4 a5 k, LeO (assessorref37_few.f k a0 a1 a2 a3 a4 a5) (assessorref37_few.f (k + 1) a0 a1 a2 a3 a4 a5) := by
  intro a0 a1 a2 a3 a4 a5 k
  obtain ⟨ih0, ih1, ih2⟩ := assessorref37_few.mono_l k
  exact ih0 a0 a1 a2 a3 a4 a5
set_option maxHeartbeats 8000000 in
set_option maxRecDepth 100000 in
theorem assessorref37_few.calls (k : Nat) : ∀ (a0_0 : Int) (a0_1 : ByteArray) (a0_2 : Int) (a0_3 : Int) (A0_4 : Option Addr) (c0_4 : Nat) (l0_4 : List (S24)) (a1 : Int) (r : Int) (w : World) (hr0_4 : Kd.C k24 w A0_4 l0_4.length l0_4) (hc0_4 : l0_4.length ≤ c0_4) (h : assessorref37_few.f k a0_0 a0_1 a0_2 a0_3 l0_4 a1 = some r),
    Calls Tryd.prog 30 #[.agg #[.int .i64 a0_0, .string a0_1, .int .i64 a0_2, .int .i64 a0_3, .slice A0_4 l0_4.length c0_4], .int .i64 a1] w fun e w' => e = .returned (.int .i64 r) ∧ Below w.heap.size w w' := by
  induction k using Nat.strongRecOn with
  | _ k ih =>
  intro a0_0 a0_1 a0_2 a0_3 A0_4 c0_4 l0_4 a1 r w hr0_4 hc0_4 h
  cases k with
  | zero => exact absurd h (by simp [assessorref37_few.f])
  | succ k =>
  simp only [assessorref37_few.f] at h
  have hu24 := Tryd.underlying24
  have HR0_4 := Aside0.mk hr0_4
  have HC0_4 := Aside0.mk hc0_4
  clear hr0_4 hc0_4
  have HB := Aside0.mk (Below.refl w.heap.size w)
  have H : (if a1 < 1 then (assessorref37_few.j0 k a1 true a0_0 a0_1 a0_2 a0_3 l0_4) else (assessorref37_few.j0 k a1 (decide ((a0_1.size : Int) > 40)) a0_0 a0_1 a0_2 a0_3 l0_4)) = some r := h
  clear h
  have HC3 := Aside0.mk H
  clear H
  go_enter Tryd.func30, Tryd.ntmps30
  go_upto_region 1 with (first | ((with_reducible refine gate_dst (N := 2) rfl ?_); (try (refine gate_guard (by rfl) ?_; dsimp only)); refine box_event ?hg (N := 2) ?hd (cs := #[.int .i64 a0_0, .string a0_1, .int .i64 a0_2, .int .i64 a0_3, .slice A0_4 l0_4.length c0_4]) (t := 24) ?hr ?_; (case hd => rfl); (case hg => rfl); (case hr => first | (go_simp; done) | (go_simp; rfl)); intro gb302 hg w4 hbox hb; have n0_ := Aside0.mk (below_step (by repeat (first | (with_reducible first | exact HB.out | apply below_alloc | apply pw_below_drewN | apply below_drew1) | exact HB.out)) hb); have n1_ := Aside0.mk (hbox); have n2_ := Aside0.mk ((by rw [hg]; exact (below_size (by repeat (first | (with_reducible first | exact HB.out | apply below_alloc | apply pw_below_drewN | apply below_drew1) | exact HB.out))) : w.heap.size ≤ gb302)); have n3_ := Aside0.mk ((by rw [hg]; exact (below_size (by repeat (first | (with_reducible first | exact HB.out | apply below_alloc | apply pw_below_drewN | apply below_drew1) | exact HB.out))) : w.heap.size ≤ gb302)); clear HB; have HB := n0_; have BK302 := n1_; have GW302 := n2_; have GE302 := n3_; clear n0_ n1_ n2_ n3_; clear hb hbox hg))
  (try simp only [Act.put, List.setIfInBounds_toArray, List.set_cons_zero, List.set_cons_succ])
  go_cut [13] (fun v13 wc => ∃ (kq : Nat) (x13_2 : Bool), v13 = .bool x13_2 ∧ Aside0 (assessorref37_few.j0 kq a1 x13_2 a0_0 a0_1 a0_2 a0_3 l0_4 = some r) ∧ Aside0 (kq ≤ k) ∧ Aside0 (wc.heap[gb302]? = some (.cells #[.int .i64 a0_0, .string a0_1, .int .i64 a0_2, .int .i64 a0_3, (.slice A0_4 l0_4.length c0_4)] 24 (0, 0))) ∧ Aside0 (Below w.heap.size w wc))
  case first =>
    have H := HC3.out
    clear HC3
    by_cases c5 : a1 < 1
    · rw [if_pos c5] at H
      have c5b0 : decide (a1 < 1) = true := decide_eq_true c5
      clear c5
      (first | rw [c5b0] | (simp only [i64_w, i32_w]; rw [c5b0]) | skip)
      have H' := Aside0.mk H
      clear H
      go_wp2
      go_meet
      case rel => exact ⟨_, (true), (by first | rfl | (simp; done) | (simp [*]; done)), H', ⟨by first | omega | exact Nat.le_refl _⟩, ⟨by (with_reducible repeat (first | refine blk_drewN ?_ _ | refine blk_drew ?_ | refine blk_alloc ?_ _)); exact BK302.out⟩, ⟨by repeat (first | (with_reducible first | exact HB.out | apply below_alloc | apply pw_below_drewN | apply below_drew1 | refine below_set ?_ GE302.out) | exact HB.out)⟩⟩
    · rw [if_neg c5] at H
      have c5b0 : decide (a1 < 1) = false := decide_eq_false c5
      clear c5
      (first | rw [c5b0] | (simp only [i64_w, i32_w]; rw [c5b0]) | skip)
      have H' := Aside0.mk H
      clear H
      have hcz6_0 : w4.cell? ⟨gb302, 0, none⟩ = some (.int .i64 a0_0) := (blk_cell BK302.out 0).trans rfl
      have hcz6_1 : w4.cell? ⟨gb302, 1, none⟩ = some (.string a0_1) := (blk_cell BK302.out 1).trans rfl
      have hcz6_2 : w4.cell? ⟨gb302, 2, none⟩ = some (.int .i64 a0_2) := (blk_cell BK302.out 2).trans rfl
      have hcz6_3 : w4.cell? ⟨gb302, 3, none⟩ = some (.int .i64 a0_3) := (blk_cell BK302.out 3).trans rfl
      have hcz6_4 : w4.cell? ⟨gb302, 4, none⟩ = some (.slice A0_4 l0_4.length c0_4) := (blk_cell BK302.out 4).trans rfl
      have hfz6_0 := blk_frozen BK302.out 0
      have hfz6_1 := blk_frozen BK302.out 1
      have hfz6_2 := blk_frozen BK302.out 2
      have hfz6_3 := blk_frozen BK302.out 3
      have hfz6_4 := blk_frozen BK302.out 4
      go_wp2
      go_meet
      case rel => exact ⟨_, (decide ((a0_1.size : Int) > 40)), (by first | rfl | (simp; done) | (simp [*]; done)), H', ⟨by first | omega | exact Nat.le_refl _⟩, ⟨by (with_reducible repeat (first | refine blk_drewN ?_ _ | refine blk_drew ?_ | refine blk_alloc ?_ _)); exact BK302.out⟩, ⟨by repeat (first | (with_reducible first | exact HB.out | apply below_alloc | apply pw_below_drewN | apply below_drew1 | refine below_set ?_ GE302.out) | exact HB.out)⟩⟩
  case rest =>
    clear HC3
    try clear p2
    try clear c3
    try clear c5
    try clear c5b0
    try clear hcz6_0
    try clear hcz6_1
    try clear hcz6_2
    try clear hcz6_3
    try clear hcz6_4
    try clear hfz6_0
    try clear hfz6_1
    try clear hfz6_2
    try clear hfz6_3
    try clear hfz6_4
    obtain ⟨kq, x13_2, rfl, HA, HJ2, BK302, HB⟩ := hcut
    cases kq with
    | zero => exact absurd HA.out (by simp [assessorref37_few.j0])
    | succ kj2 =>
      have H := HA.out
      clear HA
      simp only [assessorref37_few.j0] at H
      by_cases c7 : x13_2 = true
      · subst c7
        have H1 : (some (-1)) = some r := by rw [if_pos rfl] at H; exact H
        clear H
        have H := H1
        clear H1
        obtain rfl := Option.some.inj H
        go_wp2
        go_ret
        exact ⟨by first | rfl | (simp [errW_none, errW_some] <;> rfl) | (simp [*, errW_none, errW_some] <;> rfl), by repeat (first | (with_reducible first | exact HB.out | apply below_alloc | apply pw_below_drewN | apply below_drew1 | refine below_set ?_ GE302.out) | exact HB.out)⟩
      · replace c7 := Bool.eq_false_iff.mpr c7
        subst c7
        have H1 : (assessorref37_few.l0 kj2 (wrap64 (a1 - 1)) 0 a0_0 a0_1 a0_2 a0_3 l0_4) = some r := by rw [if_neg (show ¬ (false = true) by decide)] at H; exact H
        clear H
        have H := H1
        clear H1
        have H' := Aside0.mk H
        clear H
        go_wp2
        go_loopg [1, 5] kj2 (fun kq v1 v5 w' => ∃ (x1_2 : Int) (x5_2 : Int), v1 = .int .i64 x1_2 ∧ v5 = .int .i64 x5_2 ∧ Aside0 (assessorref37_few.l0 kq x1_2 x5_2 a0_0 a0_1 a0_2 a0_3 l0_4 = some r) ∧ Aside0 (kq ≤ kj2) ∧ Aside0 (w'.heap[gb302]? = some (.cells #[.int .i64 a0_0, .string a0_1, .int .i64 a0_2, .int .i64 a0_3, (.slice A0_4 l0_4.length c0_4)] 24 (0, 0))) ∧ Aside0 (Below w.heap.size w w'))
        case atStart => exact ⟨(wrap64 (a1 - 1)), (0), (by first | rfl | (simp; done) | (simp [*]; done)), (by first | rfl | (simp; done) | (simp [*]; done)), H', ⟨Nat.le_refl _⟩, ⟨by (with_reducible repeat (first | refine blk_drewN ?_ _ | refine blk_drew ?_ | refine blk_alloc ?_ _)); exact BK302.out⟩, ⟨by repeat (first | (with_reducible first | exact HB.out | apply below_alloc | apply pw_below_drewN | apply below_drew1 | refine below_set ?_ GE302.out) | exact HB.out)⟩⟩
        case round =>
          clear H'
          try clear p2
          try clear c3
          try clear c5
          try clear c5b0
          try clear p6
          try clear c7
          try clear hcz6_0
          try clear hcz6_1
          try clear hcz6_2
          try clear hcz6_3
          try clear hcz6_4
          try clear hfz6_0
          try clear hfz6_1
          try clear hfz6_2
          try clear hfz6_3
          try clear hfz6_4
          try clear p2
          obtain ⟨x1_2, x5_2, rfl, rfl, HA, HK2, BK302, HB⟩ := hrel
          cases gk with
          | zero => exact absurd HA.out (by simp [assessorref37_few.l0])
          | succ k2 =>
            have H := HA.out
            clear HA
            simp only [assessorref37_few.l0] at H
            by_cases c8 : x5_2 < (l0_4.length : Int)
            · rw [if_pos c8] at H
              have c8b0 : decide (x5_2 < (l0_4.length : Int)) = true := decide_eq_true c8
              clear c8
              by_cases c9 : x1_2 ≥ 0
              · rw [if_pos c9] at H
                have c9b0 : decide (0 ≤ x1_2) = true := decide_eq_true c9
                clear c9
                by_cases c10 : 0 ≤ x5_2
                · rw [if_pos c10] at H
                  have c10b0 : decide (0 ≤ x5_2) = true := decide_eq_true c10
                  clear c10
                  replace H := Option.bind_eq_some_iff.mp H
                  obtain ⟨t304, A110, H⟩ := H
                  replace H : (assessorref37_few.l0 k2 t304 (wrap64 (x5_2 + 1)) a0_0 a0_1 a0_2 a0_3 l0_4) = some r := H
                  have A11 := Aside0.mk A110
                  clear A110
                  have H' := Aside0.mk H
                  clear H
                  have hcz12_0 : wr.cell? ⟨gb302, 0, none⟩ = some (.int .i64 a0_0) := (blk_cell BK302.out 0).trans rfl
                  have hcz12_1 : wr.cell? ⟨gb302, 1, none⟩ = some (.string a0_1) := (blk_cell BK302.out 1).trans rfl
                  have hcz12_2 : wr.cell? ⟨gb302, 2, none⟩ = some (.int .i64 a0_2) := (blk_cell BK302.out 2).trans rfl
                  have hcz12_3 : wr.cell? ⟨gb302, 3, none⟩ = some (.int .i64 a0_3) := (blk_cell BK302.out 3).trans rfl
                  have hcz12_4 : wr.cell? ⟨gb302, 4, none⟩ = some (.slice A0_4 l0_4.length c0_4) := (blk_cell BK302.out 4).trans rfl
                  have hfz12_0 := blk_frozen BK302.out 0
                  have hfz12_1 := blk_frozen BK302.out 1
                  have hfz12_2 := blk_frozen BK302.out 2
                  have hfz12_3 := blk_frozen BK302.out 3
                  have hfz12_4 := blk_frozen BK302.out 4
                  have p303 : 0 ≤ (x5_2 : Int) := of_decide_eq_true (by first | (with_reducible assumption) | assumption)
                  have q303 : x5_2 < (l0_4.length : Int) := of_decide_eq_true (by first | (with_reducible assumption) | assumption)
                  obtain ⟨ad303, A303_4, c303_4, e303, hx303_0, hx303_1, hx303_2, hx303_3, hx303_4, hl303_4, hi303_4⟩ := at_T24 HR0_4.out x5_2 p303 q303
                  cases e303
                  replace hx303_0 := (HB.out.cell (World.block_lt_of_cell? w _ hx303_0)).trans hx303_0
                  replace hx303_1 := (HB.out.cell (World.block_lt_of_cell? w _ hx303_1)).trans hx303_1
                  replace hx303_2 := (HB.out.cell (World.block_lt_of_cell? w _ hx303_2)).trans hx303_2
                  replace hx303_3 := (HB.out.cell (World.block_lt_of_cell? w _ hx303_3)).trans hx303_3
                  replace hx303_4 := (HB.out.cell (World.block_lt_of_cell? w _ hx303_4)).trans hx303_4
                  have HR303_4 := Aside0.mk hi303_4
                  have HC303_4 := Aside0.mk hl303_4
                  clear hi303_4 hl303_4
                  replace p303 := eq_true p303
                  replace q303 := eq_true q303
                  go_wp2_with (first | ((with_reducible refine gate_callee (f := 30) rfl ?_); refine goesL_ (some 33) rfl rfl Tryd.func30 (by kernel_rfl) rfl #[.agg #[.int .i64 ((rd_T24 l0_4 x5_2).f0), .string ((rd_T24 l0_4 x5_2).f1), .int .i64 ((rd_T24 l0_4 x5_2).f2), .int .i64 ((rd_T24 l0_4 x5_2).f3), .slice A303_4 ((rd_T24 l0_4 x5_2).f4).length c303_4], .int .i64 x1_2] rfl (by (try simp only [List.map_toArray, List.map_cons, List.map_nil]); first | done | rfl | (simp only [List.length_drop, List.length_take]; rfl)) ?_; (with_reducible refine (ih k2 (by have := HJ2.out; have := HK2.out; omega) ((rd_T24 l0_4 x5_2).f0) ((rd_T24 l0_4 x5_2).f1) ((rd_T24 l0_4 x5_2).f2) ((rd_T24 l0_4 x5_2).f3) _ _ ((rd_T24 l0_4 x5_2).f4) x1_2 t304 _ ?side1 ?side2 A11.out).mono ?_); (case side1 => repeat (first | exact (Kd.C_below HR303_4.out HB.out) | (with_reducible refine Kd.C_alloc ?_ _) | (with_reducible refine Kd.C_drewN ?_ _) | (with_reducible refine Kd.C_drew ?_))); (case side2 => exact HC303_4.out); rintro e w13 ⟨rfl, hb⟩; refine ⟨_, rfl, ?_⟩; have n0_ := Aside0.mk (blk_below (g := gb302) (o := .cells #[.int .i64 a0_0, .string a0_1, .int .i64 a0_2, .int .i64 a0_3, .slice (some ad303) l0_4.length c0_4] 24 (0, 0)) (by (with_reducible repeat (first | refine blk_drewN ?_ _ | refine blk_drew ?_ | refine blk_alloc ?_ _)); exact BK302.out) hb); have n1_ := Aside0.mk (below_step (by repeat (first | (with_reducible first | exact HB.out | apply below_alloc | apply pw_below_drewN | apply below_drew1 | refine below_set ?_ GE302.out) | exact HB.out)) hb); clear BK302; clear HB; have BK302 := n0_; have HB := n1_; clear n0_ n1_; (try clear hb); (try clear hb2); (try clear hk); (try clear hi)))
                  go_roundg k2
                  case measure => have := HJ2.out; have := HK2.out; omega
                  case rel => exact ⟨(t304), (wrap64 (x5_2 + 1)), (by first | rfl | (simp; done) | (simp [*]; done)), (by first | rfl | (simp; done) | (simp [*]; done)), H', ⟨by have := HJ2.out; have := HK2.out; omega⟩, ⟨by (with_reducible repeat (first | refine blk_drewN ?_ _ | refine blk_drew ?_ | refine blk_alloc ?_ _)); exact BK302.out⟩, ⟨by repeat (first | (with_reducible first | exact HB.out | apply below_alloc | apply pw_below_drewN | apply below_drew1 | refine below_set ?_ GE302.out) | exact HB.out)⟩⟩
                · rw [if_neg c10] at H
                  exact absurd H (by simp)
              · rw [if_neg c9] at H
                have c9b0 : decide (0 ≤ x1_2) = false := decide_eq_false c9
                clear c9
                obtain rfl := Option.some.inj H
                have hcz14_0 : wr.cell? ⟨gb302, 0, none⟩ = some (.int .i64 a0_0) := (blk_cell BK302.out 0).trans rfl
                have hcz14_1 : wr.cell? ⟨gb302, 1, none⟩ = some (.string a0_1) := (blk_cell BK302.out 1).trans rfl
                have hcz14_2 : wr.cell? ⟨gb302, 2, none⟩ = some (.int .i64 a0_2) := (blk_cell BK302.out 2).trans rfl
                have hcz14_3 : wr.cell? ⟨gb302, 3, none⟩ = some (.int .i64 a0_3) := (blk_cell BK302.out 3).trans rfl
                have hcz14_4 : wr.cell? ⟨gb302, 4, none⟩ = some (.slice A0_4 l0_4.length c0_4) := (blk_cell BK302.out 4).trans rfl
                have hfz14_0 := blk_frozen BK302.out 0
                have hfz14_1 := blk_frozen BK302.out 1
                have hfz14_2 := blk_frozen BK302.out 2
                have hfz14_3 := blk_frozen BK302.out 3
                have hfz14_4 := blk_frozen BK302.out 4
                go_wp2
                go_ret
                exact ⟨by first | rfl | (simp [errW_none, errW_some] <;> rfl) | (simp [*, errW_none, errW_some] <;> rfl), by repeat (first | (with_reducible first | exact HB.out | apply below_alloc | apply pw_below_drewN | apply below_drew1 | refine below_set ?_ GE302.out) | exact HB.out)⟩
            · rw [if_neg c8] at H
              have c8b0 : decide (x5_2 < (l0_4.length : Int)) = false := decide_eq_false c8
              clear c8
              obtain rfl := Option.some.inj H
              have hcz15_0 : wr.cell? ⟨gb302, 0, none⟩ = some (.int .i64 a0_0) := (blk_cell BK302.out 0).trans rfl
              have hcz15_1 : wr.cell? ⟨gb302, 1, none⟩ = some (.string a0_1) := (blk_cell BK302.out 1).trans rfl
              have hcz15_2 : wr.cell? ⟨gb302, 2, none⟩ = some (.int .i64 a0_2) := (blk_cell BK302.out 2).trans rfl
              have hcz15_3 : wr.cell? ⟨gb302, 3, none⟩ = some (.int .i64 a0_3) := (blk_cell BK302.out 3).trans rfl
              have hcz15_4 : wr.cell? ⟨gb302, 4, none⟩ = some (.slice A0_4 l0_4.length c0_4) := (blk_cell BK302.out 4).trans rfl
              have hfz15_0 := blk_frozen BK302.out 0
              have hfz15_1 := blk_frozen BK302.out 1
              have hfz15_2 := blk_frozen BK302.out 2
              have hfz15_3 := blk_frozen BK302.out 3
              have hfz15_4 := blk_frozen BK302.out 4
              go_wp2
              go_ret
              exact ⟨by first | rfl | (simp [errW_none, errW_some] <;> rfl) | (simp [*, errW_none, errW_some] <;> rfl), by repeat (first | (with_reducible first | exact HB.out | apply below_alloc | apply pw_below_drewN | apply below_drew1 | refine below_set ?_ GE302.out) | exact HB.out)⟩

/-! ### assessorref37_Few: function 11 -/
def assessorref37_Few.f (k : Nat) (a0_0 : Int) (a0_1 : ByteArray) (a0_2 : Int) (a0_3 : Int) (l0_4 : List (S24)) (a1 : Int) : Option (Bool) := (assessorref37_few.f k a0_0 a0_1 a0_2 a0_3 l0_4 a1).bind fun t306 => (some (decide (t306 ≥ 0)))
theorem assessorref37_Few.mono : ∀ a0 a1 a2 a3 a4 a5 k, LeO (assessorref37_Few.f k a0 a1 a2 a3 a4 a5) (assessorref37_Few.f (k + 1) a0 a1 a2 a3 a4 a5) := by
  intro a0 a1 a2 a3 a4 a5 k
  unfold assessorref37_Few.f
  repeat' first
      | (with_reducible exact assessorref37_few.mono _ _ _ _ _ _ _)
      | (with_reducible exact LeO.refl _)
      | (with_reducible exact LeO.none _)
      | (with_reducible refine LeO.ite ?_ ?_)
      | (with_reducible refine LeO.bind ?_ (fun _ => ?_))
      | exact assessorref37_few.mono _ _ _ _ _ _ _
      | exact LeO.none _
      | refine LeO.ite ?_ ?_
      | refine LeO.bind ?_ (fun _ => ?_)
set_option maxHeartbeats 8000000 in
set_option maxRecDepth 100000 in
theorem assessorref37_Few.calls (k : Nat) (a0_0 : Int) (a0_1 : ByteArray) (a0_2 : Int) (a0_3 : Int) (A0_4 : Option Addr) (c0_4 : Nat) (l0_4 : List (S24)) (a1 : Int) (r : Bool) (w : World) (hr0_4 : Kd.C k24 w A0_4 l0_4.length l0_4) (hc0_4 : l0_4.length ≤ c0_4) (h : assessorref37_Few.f k a0_0 a0_1 a0_2 a0_3 l0_4 a1 = some r) :
    Calls Tryd.prog 11 #[.agg #[.int .i64 a0_0, .string a0_1, .int .i64 a0_2, .int .i64 a0_3, .slice A0_4 l0_4.length c0_4], .int .i64 a1] w fun e w' => e = .returned (.bool r) ∧ Below w.heap.size w w' := by
  have hu24 := Tryd.underlying24
  have HR0_4 := Aside0.mk hr0_4
  have HC0_4 := Aside0.mk hc0_4
  clear hr0_4 hc0_4
  have HB := Aside0.mk (Below.refl w.heap.size w)
  have H : ((assessorref37_few.f k a0_0 a0_1 a0_2 a0_3 l0_4 a1).bind fun t306 => (some (decide (t306 ≥ 0)))) = some r := h
  clear h
  replace H := Option.bind_eq_some_iff.mp H
  obtain ⟨t306, A30, H⟩ := H
  replace H : (some (decide (t306 ≥ 0))) = some r := H
  have A3 := Aside0.mk A30
  clear A30
  obtain rfl := Option.some.inj H
  go_enter Tryd.func11, Tryd.ntmps11
  go_wp2_with (first | ((with_reducible refine gate_dst (N := 2) rfl ?_); refine box_event ?hg (N := 2) ?hd (cs := #[.int .i64 a0_0, .string a0_1, .int .i64 a0_2, .int .i64 a0_3, .slice A0_4 l0_4.length c0_4]) (t := 24) ?hr ?_; (case hd => rfl); (case hg => rfl); (case hr => first | (go_simp; done) | (go_simp; rfl)); intro gb305 hg w4 hbox hb; have n0_ := Aside0.mk (below_step (by repeat (first | (with_reducible first | exact HB.out | apply below_alloc | apply pw_below_drewN | apply below_drew1) | exact HB.out)) hb); have n1_ := Aside0.mk (hbox); have n2_ := Aside0.mk ((by rw [hg]; exact (below_size (by repeat (first | (with_reducible first | exact HB.out | apply below_alloc | apply pw_below_drewN | apply below_drew1) | exact HB.out))) : w.heap.size ≤ gb305)); have n3_ := Aside0.mk ((by rw [hg]; exact (below_size (by repeat (first | (with_reducible first | exact HB.out | apply below_alloc | apply pw_below_drewN | apply below_drew1) | exact HB.out))) : w.heap.size ≤ gb305)); clear HB; have HB := n0_; have BK305 := n1_; have GW305 := n2_; have GE305 := n3_; clear n0_ n1_ n2_ n3_; clear hb hbox hg; have hcz5_0 : w4.cell? ⟨gb305, 0, none⟩ = some (.int .i64 a0_0) := (blk_cell BK305.out 0).trans rfl; have hcz5_1 : w4.cell? ⟨gb305, 1, none⟩ = some (.string a0_1) := (blk_cell BK305.out 1).trans rfl; have hcz5_2 : w4.cell? ⟨gb305, 2, none⟩ = some (.int .i64 a0_2) := (blk_cell BK305.out 2).trans rfl; have hcz5_3 : w4.cell? ⟨gb305, 3, none⟩ = some (.int .i64 a0_3) := (blk_cell BK305.out 3).trans rfl; have hcz5_4 : w4.cell? ⟨gb305, 4, none⟩ = some (.slice A0_4 l0_4.length c0_4) := (blk_cell BK305.out 4).trans rfl; have hfz5_0 := blk_frozen BK305.out 0; have hfz5_1 := blk_frozen BK305.out 1; have hfz5_2 := blk_frozen BK305.out 2; have hfz5_3 := blk_frozen BK305.out 3; have hfz5_4 := blk_frozen BK305.out 4) | ((with_reducible refine gate_callee (f := 30) rfl ?_); refine goesL_ (some 7) rfl rfl Tryd.func30 (by kernel_rfl) rfl #[.agg #[.int .i64 a0_0, .string a0_1, .int .i64 a0_2, .int .i64 a0_3, .slice A0_4 l0_4.length c0_4], .int .i64 a1] rfl (by (try simp only [List.map_toArray, List.map_cons, List.map_nil]); first | done | rfl | (simp only [List.length_drop, List.length_take]; rfl)) ?_; (with_reducible refine (assessorref37_few.calls k a0_0 a0_1 a0_2 a0_3 _ _ l0_4 a1 t306 _ ?side1 ?side2 A3.out).mono ?_); (case side1 => repeat (first | exact (Kd.C_below HR0_4.out HB.out) | (with_reducible refine Kd.C_alloc ?_ _) | (with_reducible refine Kd.C_drewN ?_ _) | (with_reducible refine Kd.C_drew ?_))); (case side2 => exact HC0_4.out); rintro e w6 ⟨rfl, hb⟩; refine ⟨_, rfl, ?_⟩; have n0_ := Aside0.mk (blk_below (g := gb305) (o := .cells #[.int .i64 a0_0, .string a0_1, .int .i64 a0_2, .int .i64 a0_3, .slice A0_4 l0_4.length c0_4] 24 (0, 0)) (by (with_reducible repeat (first | refine blk_drewN ?_ _ | refine blk_drew ?_ | refine blk_alloc ?_ _)); exact BK305.out) hb); have n1_ := Aside0.mk (below_step (by repeat (first | (with_reducible first | exact HB.out | apply below_alloc | apply pw_below_drewN | apply below_drew1 | refine below_set ?_ GE305.out) | exact HB.out)) hb); clear BK305; clear HB; have BK305 := n0_; have HB := n1_; clear n0_ n1_; (try clear hb); (try clear hb2); (try clear hk); (try clear hi)))
  go_ret
  exact ⟨by first | rfl | (simp [errW_none, errW_some] <;> rfl) | (simp [*, errW_none, errW_some] <;> rfl), by repeat (first | (with_reducible first | exact HB.out | apply below_alloc | apply pw_below_drewN | apply below_drew1 | refine below_set ?_ GE305.out) | exact HB.out)⟩

end Go.Proofs.YtpkjiimcoepjpaaDoor.PFingerprintSymbols

namespace Go.Proofs.YtpkjiimcoepjpaaDoor.PFingerprintSymbols
open Go.RowKit Go.Proofs.YtpkjiimcoepjpaaDoorW.PrintWords Go.Proofs.YtpkjiimcoepjpaaDoorW.PrintLast Go.Proofs.YtpkjiimcoepjpaaDoorW.PrintMore
attribute [local go_sem] max2_int min2_int max_two min_two max_three min_three max_four min_four
set_option linter.unusedVariables false
set_option linter.unusedSimpArgs false

/-! ### fingerprint_Winnow: function 24 -/
mutual
def fingerprint_Winnow.l0 : Nat → List Int → Int → List (S48) → List Int → List Int → Int → Int → Option ((List (S48)) × Int)
  | 0, _, _, _, _, _, _, _ => none
  | k + 1, x0, x1, x6, x7, x23, x24, x25 => if x25 < x24 then (if 0 ≤ x25 then (if x25 < (x23.length : Int) then (fingerprint_Winnow.l1 k x0 x1 x6 x7 x25 (rd x23 x25) x23 x24 x25) else (none)) else (none)) else (some (x6, 0))
def fingerprint_Winnow.j2 : Nat → List Int → Int → List (S48) → List Int → Int → List Int → Int → Int → Option ((List (S48)) × Int)
  | 0, _, _, _, _, _, _, _, _ => none
  | k + 1, x0, x1, x6, x7, x8, x23, x24, x25 => if x7.length < 17592186044416 then ((some (x7 ++ [x8] : List Int)).bind fun y137 => (if 0 < (y137.length : Int) then (if (rd y137 0) ≤ (wrap64 (x8 - x1)) then (if 1 ≤ (y137.length : Int) then ((some (y137.drop (1 : Int).toNat : List Int)).bind fun y141 => (if 0 < (y141.length : Int) then (if x8 ≥ (wrap64 (x1 - 1)) then (if (x6.length : Int) = 0 then (if 0 ≤ (rd y141 0) then (if (rd y141 0) < (x0.length : Int) then (if x6.length < 8796093022208 then (fingerprint_Winnow.l0 k x0 x1 (x6 ++ [(⟨rd x0 (rd y141 0), rd y141 0⟩ : S48)]) y141 x23 x24 (wrap64 (x25 + 1))) else (none)) else (none)) else (none)) else (if 0 ≤ (wrap64 ((x6.length : Int) - 1)) then (if (wrap64 ((x6.length : Int) - 1)) < (x6.length : Int) then (if ((rd_T48 x6 (wrap64 ((x6.length : Int) - 1))).f1) = (rd y141 0) then (fingerprint_Winnow.l0 k x0 x1 x6 y141 x23 x24 (wrap64 (x25 + 1))) else (if 0 ≤ (rd y141 0) then (if (rd y141 0) < (x0.length : Int) then (if x6.length < 8796093022208 then (fingerprint_Winnow.l0 k x0 x1 (x6 ++ [(⟨rd x0 (rd y141 0), rd y141 0⟩ : S48)]) y141 x23 x24 (wrap64 (x25 + 1))) else (none)) else (none)) else (none))) else (none)) else (none))) else (fingerprint_Winnow.l0 k x0 x1 x6 y141 x23 x24 (wrap64 (x25 + 1)))) else (none))) else (none)) else (if x8 ≥ (wrap64 (x1 - 1)) then (if (x6.length : Int) = 0 then (if 0 ≤ (rd y137 0) then (if (rd y137 0) < (x0.length : Int) then (if x6.length < 8796093022208 then (fingerprint_Winnow.l0 k x0 x1 (x6 ++ [(⟨rd x0 (rd y137 0), rd y137 0⟩ : S48)]) y137 x23 x24 (wrap64 (x25 + 1))) else (none)) else (none)) else (none)) else (if 0 ≤ (wrap64 ((x6.length : Int) - 1)) then (if (wrap64 ((x6.length : Int) - 1)) < (x6.length : Int) then (if ((rd_T48 x6 (wrap64 ((x6.length : Int) - 1))).f1) = (rd y137 0) then (fingerprint_Winnow.l0 k x0 x1 x6 y137 x23 x24 (wrap64 (x25 + 1))) else (if 0 ≤ (rd y137 0) then (if (rd y137 0) < (x0.length : Int) then (if x6.length < 8796093022208 then (fingerprint_Winnow.l0 k x0 x1 (x6 ++ [(⟨rd x0 (rd y137 0), rd y137 0⟩ : S48)]) y137 x23 x24 (wrap64 (x25 + 1))) else (none)) else (none)) else (none))) else (none)) else (none))) else (fingerprint_Winnow.l0 k x0 x1 x6 y137 x23 x24 (wrap64 (x25 + 1))))) else (none))) else (none)
def fingerprint_Winnow.l1 : Nat → List Int → Int → List (S48) → List Int → Int → Int → List Int → Int → Int → Option ((List (S48)) × Int)
  | 0, _, _, _, _, _, _, _, _, _ => none
  | k + 1, x0, x1, x6, x7, x8, x9, x23, x24, x25 => if (x7.length : Int) > 0 then (if 0 ≤ (wrap64 ((x7.length : Int) - 1)) then (if (wrap64 ((x7.length : Int) - 1)) < (x7.length : Int) then (if 0 ≤ (rd x7 (wrap64 ((x7.length : Int) - 1))) then (if (rd x7 (wrap64 ((x7.length : Int) - 1))) < (x0.length : Int) then (if (rd x0 (rd x7 (wrap64 ((x7.length : Int) - 1)))) ≥ x9 then (if (wrap64 ((x7.length : Int) - 1)) ≤ (x7.length : Int) then (fingerprint_Winnow.l1 k x0 x1 x6 (x7.take ((wrap64 ((x7.length : Int) - 1)) : Int).toNat) x8 x9 x23 x24 x25) else (none)) else (fingerprint_Winnow.j2 k x0 x1 x6 x7 x8 x23 x24 x25)) else (none)) else (none)) else (none)) else (none)) else (fingerprint_Winnow.j2 k x0 x1 x6 x7 x8 x23 x24 x25)
end
def fingerprint_Winnow.f (k : Nat) (l0 : List Int) (a1 : Int) : Option ((List (S48)) × Int) := (fingerprint_ranged.f a1).bind fun t130 => (if t130 = true then (if (l0.length : Int) > 2048 then (some (([] : List (S48)), 8)) else (fingerprint_Winnow.l0 k l0 (mn a1 (l0.length : Int)) ([] : List (S48)) ([] : List Int) l0 (l0.length : Int) 0)) else (some (([] : List (S48)), 2)))
theorem fingerprint_Winnow.mono_l : ∀ k, (∀ y0 y1 y2 y3 y4 y5 y6, LeO (fingerprint_Winnow.l0 k y0 y1 y2 y3 y4 y5 y6) (fingerprint_Winnow.l0 (k + 1) y0 y1 y2 y3 y4 y5 y6)) ∧ (∀ y0 y1 y2 y3 y4 y5 y6 y7, LeO (fingerprint_Winnow.j2 k y0 y1 y2 y3 y4 y5 y6 y7) (fingerprint_Winnow.j2 (k + 1) y0 y1 y2 y3 y4 y5 y6 y7)) ∧ (∀ y0 y1 y2 y3 y4 y5 y6 y7 y8, LeO (fingerprint_Winnow.l1 k y0 y1 y2 y3 y4 y5 y6 y7 y8) (fingerprint_Winnow.l1 (k + 1) y0 y1 y2 y3 y4 y5 y6 y7 y8))
  | 0 => ⟨fun _ _ _ _ _ _ _ r h => by simp [fingerprint_Winnow.l0] at h, fun _ _ _ _ _ _ _ _ r h => by simp [fingerprint_Winnow.j2] at h, fun _ _ _ _ _ _ _ _ _ r h => by simp [fingerprint_Winnow.l1] at h⟩
  | k + 1 => by
    obtain ⟨ih0, ih1, ih2⟩ := fingerprint_Winnow.mono_l k
    refine ⟨?_, ?_, ?_⟩
    · intro y0 y1 y2 y3 y4 y5 y6
      unfold fingerprint_Winnow.l0
      repeat' first
      | (with_reducible exact ih0 _ _ _ _ _ _ _)
      | (with_reducible exact ih1 _ _ _ _ _ _ _ _)
      | (with_reducible exact ih2 _ _ _ _ _ _ _ _ _)
      | (with_reducible exact LeO.refl _)
      | (with_reducible exact LeO.none _)
      | (with_reducible refine LeO.ite ?_ ?_)
      | (with_reducible refine LeO.bind ?_ (fun _ => ?_))
      | exact ih0 _ _ _ _ _ _ _
      | exact ih1 _ _ _ _ _ _ _ _
      | exact ih2 _ _ _ _ _ _ _ _ _
      | exact LeO.none _
      | refine LeO.ite ?_ ?_
      | refine LeO.bind ?_ (fun _ => ?_)
    · intro y0 y1 y2 y3 y4 y5 y6 y7
      unfold fingerprint_Winnow.j2
      repeat' first
      | (with_reducible exact ih0 _ _ _ _ _ _ _)
      | (with_reducible exact ih1 _ _ _ _ _ _ _ _)
      | (with_reducible exact ih2 _ _ _ _ _ _ _ _ _)
      | (with_reducible exact LeO.refl _)
      | (with_reducible exact LeO.none _)
      | (with_reducible refine LeO.ite ?_ ?_)
      | (with_reducible refine LeO.bind ?_ (fun _ => ?_))
      | exact ih0 _ _ _ _ _ _ _
      | exact ih1 _ _ _ _ _ _ _ _
      | exact ih2 _ _ _ _ _ _ _ _ _
      | exact LeO.none _
      | refine LeO.ite ?_ ?_
      | refine LeO.bind ?_ (fun _ => ?_)
    · intro y0 y1 y2 y3 y4 y5 y6 y7 y8
      unfold fingerprint_Winnow.l1
      repeat' first
      | (with_reducible exact ih0 _ _ _ _ _ _ _)
      | (with_reducible exact ih1 _ _ _ _ _ _ _ _)
      | (with_reducible exact ih2 _ _ _ _ _ _ _ _ _)
      | (with_reducible exact LeO.refl _)
      | (with_reducible exact LeO.none _)
      | (with_reducible refine LeO.ite ?_ ?_)
      | (with_reducible refine LeO.bind ?_ (fun _ => ?_))
      | exact ih0 _ _ _ _ _ _ _
      | exact ih1 _ _ _ _ _ _ _ _
      | exact ih2 _ _ _ _ _ _ _ _ _
      | exact LeO.none _
      | refine LeO.ite ?_ ?_
      | refine LeO.bind ?_ (fun _ => ?_)
theorem fingerprint_Winnow.mono : ∀ a0 a1 k, LeO (fingerprint_Winnow.f k a0 a1) (fingerprint_Winnow.f (k + 1) a0 a1) := by
  intro a0 a1 k
  obtain ⟨ih0, ih1, ih2⟩ := fingerprint_Winnow.mono_l k
  unfold fingerprint_Winnow.f
  repeat' first
      | (with_reducible exact ih0 _ _ _ _ _ _ _)
      | (with_reducible exact ih1 _ _ _ _ _ _ _ _)
      | (with_reducible exact ih2 _ _ _ _ _ _ _ _ _)
      | (with_reducible exact LeO.refl _)
      | (with_reducible exact LeO.none _)
      | (with_reducible refine LeO.ite ?_ ?_)
      | (with_reducible refine LeO.bind ?_ (fun _ => ?_))
      | exact ih0 _ _ _ _ _ _ _
      | exact ih1 _ _ _ _ _ _ _ _
      | exact ih2 _ _ _ _ _ _ _ _ _
      | exact LeO.none _
      | refine LeO.ite ?_ ?_
      | refine LeO.bind ?_ (fun _ => ?_)
set_option maxHeartbeats 8000000 in
set_option maxRecDepth 100000 in
theorem fingerprint_Winnow.calls (k : Nat) (A0 : Option Addr) (c0 : Nat) (l0 : List Int) (a1 : Int) (r1 : List (S48)) (r2 : Int) (w : World) (hr0 : Kd.C (Kd.int .i64) w A0 l0.length l0) (hc0 : l0.length ≤ c0) (h : fingerprint_Winnow.f k l0 a1 = some (r1, r2)) :
    Calls Tryd.prog 24 #[.slice A0 l0.length c0, .int .i64 a1] w fun e w' => ∃ v0_ : Value, e = .returned (.tuple #[v0_, .int .i64 r2]) ∧ Kd.R k48 48 w' w.heap.size (fun _ => True) v0_ r1 ∧ Below w.heap.size w w' := by
  have hu48 := Tryd.underlying48
  have HR0 := Aside0.mk hr0
  have HC0 := Aside0.mk hc0
  clear hr0 hc0
  have HB := Aside0.mk (Below.refl w.heap.size w)
  have H : ((fingerprint_ranged.f a1).bind fun t130 => (if t130 = true then (if (l0.length : Int) > 2048 then (some (([] : List (S48)), 8)) else (fingerprint_Winnow.l0 k l0 (mn a1 (l0.length : Int)) ([] : List (S48)) ([] : List Int) l0 (l0.length : Int) 0)) else (some (([] : List (S48)), 2)))) = some (r1, r2) := h
  clear h
  replace H := Option.bind_eq_some_iff.mp H
  obtain ⟨t130, A30, H⟩ := H
  replace H : (if t130 = true then (if (l0.length : Int) > 2048 then (some (([] : List (S48)), 8)) else (fingerprint_Winnow.l0 k l0 (mn a1 (l0.length : Int)) ([] : List (S48)) ([] : List Int) l0 (l0.length : Int) 0)) else (some (([] : List (S48)), 2))) = some (r1, r2) := H
  have A3 := Aside0.mk A30
  clear A30
  by_cases c4 : t130 = true
  · subst c4
    have H1 : (if (l0.length : Int) > 2048 then (some (([] : List (S48)), 8)) else (fingerprint_Winnow.l0 k l0 (mn a1 (l0.length : Int)) ([] : List (S48)) ([] : List Int) l0 (l0.length : Int) 0)) = some (r1, r2) := by rw [if_pos rfl] at H; exact H
    clear H
    have H := H1
    clear H1
    by_cases c5 : (l0.length : Int) > 2048
    · rw [if_pos c5] at H
      have c5b0 : decide (2048 < (l0.length : Int)) = true := decide_eq_true c5
      have c5b1 : decide (2048 < l0.length) = true := decide_eq_true (by omega)
      clear c5
      simp only [Option.some.injEq, Prod.mk.injEq] at H
      obtain ⟨rfl, rfl⟩ := H
      go_enter Tryd.func24, Tryd.ntmps24
      go_wp2_with (first | ((with_reducible refine gate_callee (f := 31) rfl ?_); refine goesL_ (some 13) rfl rfl Tryd.func31 (by kernel_rfl) rfl #[.int .i64 a1] rfl (by (try simp only [List.map_toArray, List.map_cons, List.map_nil]); first | done | rfl | (simp only [List.length_drop, List.length_take]; rfl)) ?_; (with_reducible refine (fingerprint_ranged.calls a1 true _ A3.out).mono ?_); rintro e w' ⟨rfl, ⟨nd, rfl⟩⟩; refine ⟨_, rfl, ?_⟩))
      go_ret2
      exact ⟨_, by first | rfl | (simp [errW_none, errW_some] <;> rfl) | (simp [*, errW_none, errW_some] <;> rfl), by first | exact Kd.R_nil _ _ _ _ _ | exact Kd.N_nil _ _ _ _ _ | exact Kd.V_nil _ _ _ _ _ | exact Kd.Q_nil _ _ _ _ _ | exact Kd.S_nil _ _ _ _ _, by repeat (first | (with_reducible first | exact HB.out | apply below_alloc | apply pw_below_drewN | apply below_drew1) | exact HB.out)⟩
    · rw [if_neg c5] at H
      have c5b0 : decide (2048 < (l0.length : Int)) = false := decide_eq_false c5
      have c5b1 : decide (2048 < l0.length) = false := decide_eq_false (by omega)
      clear c5
      obtain ⟨ji6, hji6⟩ : ∃ j_ : Int, (mn a1 (l0.length : Int)) = j_ := ⟨_, rfl⟩
      replace H : (fingerprint_Winnow.l0 k l0 ji6 ([] : List (S48)) ([] : List Int) l0 (l0.length : Int) 0) = some (r1, r2) := by first | (rw [hji6] at H; exact H) | (simp only [hji6] at H ⊢; exact H)
      (try rw [hji6] at A3)
      have hji6_ : (if (l0.length : Int) < a1 then (l0.length : Int) else a1) = ji6 := hji6
      have H' := Aside0.mk H
      clear H
      go_enter Tryd.func24, Tryd.ntmps24
      go_wp2_with (first | ((with_reducible refine gate_callee (f := 31) rfl ?_); refine goesL_ (some 13) rfl rfl Tryd.func31 (by kernel_rfl) rfl #[.int .i64 a1] rfl (by (try simp only [List.map_toArray, List.map_cons, List.map_nil]); first | done | rfl | (simp only [List.length_drop, List.length_take]; rfl)) ?_; (with_reducible refine (fingerprint_ranged.calls a1 true _ A3.out).mono ?_); rintro e w' ⟨rfl, ⟨nd, rfl⟩⟩; refine ⟨_, rfl, ?_⟩))
      go_loopg [6, 7, 25] k (fun kq v6 v7 v25 w' => ∃ (x6_1 : List (S48)) (x7_1 : List Int) (x25_1 : Int), v25 = .int .i64 x25_1 ∧ Aside0 (fingerprint_Winnow.l0 kq l0 ji6 x6_1 x7_1 l0 (l0.length : Int) x25_1 = some (r1, r2)) ∧ Aside0 (kq ≤ k) ∧ Aside0 (Kd.R k48 48 w' w.heap.size (fun _ => True) v6 x6_1) ∧ Aside0 (Kd.Q (Kd.int .i64) 3 w' w.heap.size (fun _ => True) v7 x7_1) ∧ Aside0 (Below w.heap.size w w'))
      case atStart => exact ⟨(([] : List (S48))), (([] : List Int)), (0), (by first | rfl | (simp; done) | (simp [*]; done)), H', ⟨Nat.le_refl _⟩, ⟨by first | exact Kd.R_nil _ _ _ _ _ | exact Kd.N_nil _ _ _ _ _ | exact Kd.V_nil _ _ _ _ _ | exact Kd.Q_nil _ _ _ _ _ | exact Kd.S_nil _ _ _ _ _⟩, ⟨Kd.Q_of_R (by first | exact Kd.R_nil _ _ _ _ _ | exact Kd.N_nil _ _ _ _ _ | exact Kd.V_nil _ _ _ _ _ | exact Kd.Q_nil _ _ _ _ _ | exact Kd.S_nil _ _ _ _ _)⟩, ⟨by repeat (first | (with_reducible first | exact HB.out | apply below_alloc | apply pw_below_drewN | apply below_drew1) | exact HB.out)⟩⟩
      case round =>
        clear H'
        try clear c2
        try clear p2
        try clear c3
        try clear c4
        try clear c5
        try clear c5b0
        try clear c5b1
        obtain ⟨x6_1, x7_1, x25_1, rfl, HA, HK1, HO_6, HO_7, HB⟩ := hrel
        cases gk with
        | zero => exact absurd HA.out (by simp [fingerprint_Winnow.l0])
        | succ k1 =>
          have H := HA.out
          clear HA
          simp only [fingerprint_Winnow.l0] at H
          by_cases c7 : x25_1 < (l0.length : Int)
          · rw [if_pos c7] at H
            have c7b0 : decide (x25_1 < (l0.length : Int)) = true := decide_eq_true c7
            clear c7
            by_cases c8 : 0 ≤ x25_1
            · rw [if_pos c8] at H
              have c8b0 : decide (0 ≤ x25_1) = true := decide_eq_true c8
              clear c8
              by_cases c9 : x25_1 < (l0.length : Int)
              · rw [if_pos c9] at H
                have c9b0 : decide (x25_1 < (l0.length : Int)) = true := decide_eq_true c9
                clear c9
                have HC10 := Aside0.mk H
                clear H
                have p131 : 0 ≤ (x25_1 : Int) := of_decide_eq_true (by first | (with_reducible assumption) | assumption)
                have q131 : x25_1 < (l0.length : Int) := of_decide_eq_true (by first | (with_reducible assumption) | assumption)
                obtain ⟨ad131, e131, hx131_0⟩ := Kd.at_int HR0.out x25_1 p131 q131
                cases e131
                replace hx131_0 := (HB.out.cell (World.block_lt_of_cell? w _ hx131_0)).trans hx131_0
                replace p131 := eq_true p131
                replace q131 := eq_true q131
                go_upto_block 3 with (fail)
                go_cut [7] (fun v7 wc => ∃ (kq : Nat) (x7_9 : List Int), Aside0 (fingerprint_Winnow.j2 kq l0 ji6 x6_1 x7_9 x25_1 l0 (l0.length : Int) x25_1 = some (r1, r2)) ∧ Aside0 (kq ≤ k1) ∧ Aside0 (Kd.R k48 48 wc w.heap.size (fun _ => True) u6 x6_1) ∧ Aside0 (Kd.Q (Kd.int .i64) 3 wc w.heap.size (fun _ => True) v7 x7_9) ∧ Aside0 (Below w.heap.size w wc))
                case first =>
                  have H := HC10.out
                  clear HC10
                  have H' := Aside0.mk H
                  clear H
                  go_wp2
                  go_loopg [7] k1 (fun kq v7 w' => ∃ (x7_2 : List Int), Aside0 (fingerprint_Winnow.l1 kq l0 ji6 x6_1 x7_2 x25_1 (rd l0 x25_1) l0 (l0.length : Int) x25_1 = some (r1, r2)) ∧ Aside0 (kq ≤ k1) ∧ Aside0 (Kd.R k48 48 w' w.heap.size (fun _ => True) u6 x6_1) ∧ Aside0 (Kd.Q (Kd.int .i64) 3 w' w.heap.size (fun _ => True) v7 x7_2) ∧ Aside0 (Below w.heap.size w w'))
                  case atStart => exact ⟨(x7_1), H', ⟨Nat.le_refl _⟩, ⟨by (with_reducible repeat (first | apply Kd.R_alloc | apply Kd.R_drewN | apply Kd.R_drew)); exact HO_6.out⟩, ⟨by (with_reducible repeat (first | apply Kd.Q_alloc | apply Kd.Q_drewN | apply Kd.Q_drew)); exact HO_7.out⟩, ⟨by repeat (first | (with_reducible first | exact HB.out | apply below_alloc | apply pw_below_drewN | apply below_drew1) | exact HB.out)⟩⟩
                  case round =>
                    clear H'
                    try clear p1
                    try clear q1
                    try clear hx1
                    try clear c2
                    try clear p2
                    try clear c3
                    try clear c4
                    try clear c5
                    try clear c5b0
                    try clear c5b1
                    try clear c7
                    try clear c7b0
                    try clear c8
                    try clear c8b0
                    try clear c9
                    try clear c9b0
                    try clear hx131_0
                    try clear p131
                    try clear p2
                    try clear q131
                    obtain ⟨x7_2, HA, HK2, HO_6, HO_7, HB⟩ := hrel
                    cases gk with
                    | zero => exact absurd HA.out (by simp [fingerprint_Winnow.l1])
                    | succ k2 =>
                      have H := HA.out
                      clear HA
                      simp only [fingerprint_Winnow.l1] at H
                      by_cases c11 : (x7_2.length : Int) > 0
                      · rw [if_pos c11] at H
                        have c11b0 : decide (0 < (x7_2.length : Int)) = true := decide_eq_true c11
                        have c11b1 : decide (0 < x7_2.length) = true := decide_eq_true (by omega)
                        clear c11
                        (first | rw [c11b0] | (simp only [i64_w, i32_w]; rw [c11b0]) | skip)
                        obtain ⟨ji12, hji12⟩ : ∃ j_ : Int, (wrap64 ((x7_2.length : Int) - 1)) = j_ := ⟨_, rfl⟩
                        replace H : (if 0 ≤ (ji12) then (if (ji12) < (x7_2.length : Int) then (if 0 ≤ (rd x7_2 (ji12)) then (if (rd x7_2 (ji12)) < (l0.length : Int) then (if (rd l0 (rd x7_2 (ji12))) ≥ (rd l0 x25_1) then (if (ji12) ≤ (x7_2.length : Int) then (fingerprint_Winnow.l1 k2 l0 ji6 x6_1 (x7_2.take ((ji12) : Int).toNat) x25_1 (rd l0 x25_1) l0 (l0.length : Int) x25_1) else (none)) else (fingerprint_Winnow.j2 k2 l0 ji6 x6_1 x7_2 x25_1 l0 (l0.length : Int) x25_1)) else (none)) else (none)) else (none)) else (none)) = some (r1, r2) := by first | (rw [hji12] at H; exact H) | (simp only [hji12] at H ⊢; exact H)
                        have hji12w : (IntKind.i64.wrap ((x7_2.length : Int) - 1)) = ji12 := (i64_w _).trans hji12
                        by_cases c13 : 0 ≤ (ji12)
                        · rw [if_pos c13] at H
                          have c13b0 : decide (0 ≤ (ji12)) = true := decide_eq_true c13
                          clear c13
                          by_cases c14 : (ji12) < (x7_2.length : Int)
                          · rw [if_pos c14] at H
                            have c14b0 : decide ((ji12) < (x7_2.length : Int)) = true := decide_eq_true c14
                            clear c14
                            by_cases c15 : 0 ≤ (rd x7_2 (ji12))
                            · rw [if_pos c15] at H
                              have c15b0 : decide (0 ≤ (rd x7_2 (ji12))) = true := decide_eq_true c15
                              clear c15
                              by_cases c16 : (rd x7_2 (ji12)) < (l0.length : Int)
                              · rw [if_pos c16] at H
                                have c16b0 : decide ((rd x7_2 (ji12)) < (l0.length : Int)) = true := decide_eq_true c16
                                clear c16
                                by_cases c17 : (rd l0 (rd x7_2 (ji12))) ≥ (rd l0 x25_1)
                                · rw [if_pos c17] at H
                                  have c17b0 : decide ((rd l0 x25_1) ≤ (rd l0 (rd x7_2 (ji12)))) = true := decide_eq_true c17
                                  clear c17
                                  by_cases c18 : (ji12) ≤ (x7_2.length : Int)
                                  · rw [if_pos c18] at H
                                    have c18b0 := eq_true c18
                                    have c18b1 : decide ((ji12) ≤ (x7_2.length : Int)) = true := decide_eq_true c18
                                    clear c18
                                    obtain ⟨y134, hy134⟩ : ∃ y_ : List Int, y_ = (x7_2.take ((ji12) : Int).toNat) := ⟨_, rfl⟩
                                    replace H : (fingerprint_Winnow.l1 k2 l0 ji6 x6_1 y134 x25_1 (rd l0 x25_1) l0 (l0.length : Int) x25_1) = some (r1, r2) := by first | (rw [hy134]; with_reducible exact H) | (have H2_ := (Option.bind_some _ _).symm.trans H; rw [hy134]; with_reducible exact H2_) | (have H2_ := (Option.bind_some _ _).symm.trans H; with_reducible exact H2_) | with_reducible exact H | (rw [hy134]; exact H) | exact H
                                    have Ny134 := Aside0.mk hy134
                                    clear hy134
                                    have H' := Aside0.mk H
                                    clear H
                                    obtain ⟨Ao19, co19, eo19, _⟩ := Kd.Q_slice HO_7.out
                                    subst eo19
                                    have p132 : 0 ≤ ((ji12) : Int) := of_decide_eq_true (by first | (with_reducible assumption) | assumption)
                                    have q132 : (ji12) < (x7_2.length : Int) := of_decide_eq_true (by first | (with_reducible assumption) | assumption)
                                    obtain ⟨ad132, e132, hx132_0⟩ := Kd.at_int (Kd.Q_reads' HO_7.out).2.2 (ji12) p132 q132
                                    cases e132
                                    replace p132 := eq_true p132
                                    replace q132 := eq_true q132
                                    have p133 : 0 ≤ ((rd x7_2 (ji12)) : Int) := of_decide_eq_true (by first | (with_reducible assumption) | assumption)
                                    have q133 : (rd x7_2 (ji12)) < (l0.length : Int) := of_decide_eq_true (by first | (with_reducible assumption) | assumption)
                                    obtain ⟨ad133, e133, hx133_0⟩ := Kd.at_int HR0.out (rd x7_2 (ji12)) p133 q133
                                    obtain rfl : ad131 = ad133 := (by injection e133)
                                    replace hx133_0 := (HB.out.cell (World.block_lt_of_cell? w _ hx133_0)).trans hx133_0
                                    replace p133 := eq_true p133
                                    replace q133 := eq_true q133
                                    have q20 : ((ji12) : Int) ≤ ((x7_2.length : Int) : Int) := of_decide_eq_true (by first | (with_reducible assumption) | assumption)
                                    obtain ⟨i020, hi020, _, hsz20, _⟩ := info_parts info3
                                    have hcut20 := cut_to (P := Tryd.prog) 25 3 .i64 Tryd.underlying25 hi020 (some ad132) x7_2.length co19 (ji12) (of_decide_eq_true (by first | (with_reducible assumption) | assumption)) q20 (Kd.Q_reads' HO_7.out).2.1
                                    have hr20 := Kd.Q_take (m := ((ji12) : Int).toNat) HO_7.out (by omega)
                                    have hy20 : y134.length = ((ji12) : Int).toNat := (by rw [Ny134.out, List.length_take]; omega)
                                    rw [← Ny134.out] at hr20
                                    rw [← hy20] at hr20 hcut20
                                    clear hy20 hi020 hsz20 HO_7
                                    have HO136 := Aside0.mk hr20
                                    clear hr20
                                    replace q20 := eq_true q20
                                    go_wp2
                                    go_roundg k2
                                    case measure => have := HK1.out; have := HK2.out; omega
                                    case rel => exact ⟨(y134), H', ⟨by have := HK1.out; have := HK2.out; omega⟩, ⟨by (with_reducible repeat (first | apply Kd.R_alloc | apply Kd.R_drewN | apply Kd.R_drew)); exact HO_6.out⟩, ⟨by (with_reducible repeat (first | apply Kd.Q_alloc | apply Kd.Q_drewN | apply Kd.Q_drew)); exact HO136.out⟩, ⟨by repeat (first | (with_reducible first | exact HB.out | apply below_alloc | apply pw_below_drewN | apply below_drew1) | exact HB.out)⟩⟩
                                  · rw [if_neg c18] at H
                                    exact absurd H (by simp)
                                · rw [if_neg c17] at H
                                  have c17b0 : decide ((rd l0 x25_1) ≤ (rd l0 (rd x7_2 (ji12)))) = false := decide_eq_false c17
                                  clear c17
                                  have H' := Aside0.mk H
                                  clear H
                                  obtain ⟨Ao21, co21, eo21, _⟩ := Kd.Q_slice HO_7.out
                                  subst eo21
                                  have p132 : 0 ≤ ((ji12) : Int) := of_decide_eq_true (by first | (with_reducible assumption) | assumption)
                                  have q132 : (ji12) < (x7_2.length : Int) := of_decide_eq_true (by first | (with_reducible assumption) | assumption)
                                  obtain ⟨ad132, e132, hx132_0⟩ := Kd.at_int (Kd.Q_reads' HO_7.out).2.2 (ji12) p132 q132
                                  cases e132
                                  replace p132 := eq_true p132
                                  replace q132 := eq_true q132
                                  have p133 : 0 ≤ ((rd x7_2 (ji12)) : Int) := of_decide_eq_true (by first | (with_reducible assumption) | assumption)
                                  have q133 : (rd x7_2 (ji12)) < (l0.length : Int) := of_decide_eq_true (by first | (with_reducible assumption) | assumption)
                                  obtain ⟨ad133, e133, hx133_0⟩ := Kd.at_int HR0.out (rd x7_2 (ji12)) p133 q133
                                  obtain rfl : ad131 = ad133 := (by injection e133)
                                  replace hx133_0 := (HB.out.cell (World.block_lt_of_cell? w _ hx133_0)).trans hx133_0
                                  replace p133 := eq_true p133
                                  replace q133 := eq_true q133
                                  go_wp2
                                  go_meet
                                  case rel => exact ⟨_, (x7_2), H', ⟨by have := HK1.out; have := HK2.out; first | omega | exact Nat.le_refl _⟩, ⟨by (with_reducible repeat (first | apply Kd.R_alloc | apply Kd.R_drewN | apply Kd.R_drew)); exact HO_6.out⟩, ⟨by (with_reducible repeat (first | apply Kd.Q_alloc | apply Kd.Q_drewN | apply Kd.Q_drew)); exact HO_7.out⟩, ⟨by repeat (first | (with_reducible first | exact HB.out | apply below_alloc | apply pw_below_drewN | apply below_drew1) | exact HB.out)⟩⟩
                              · rw [if_neg c16] at H
                                exact absurd H (by simp)
                            · rw [if_neg c15] at H
                              exact absurd H (by simp)
                          · rw [if_neg c14] at H
                            exact absurd H (by simp)
                        · rw [if_neg c13] at H
                          exact absurd H (by simp)
                      · rw [if_neg c11] at H
                        have c11b0 : decide (0 < (x7_2.length : Int)) = false := decide_eq_false c11
                        have c11b1 : decide (0 < x7_2.length) = false := decide_eq_false (by omega)
                        clear c11
                        (first | rw [c11b0] | (simp only [i64_w, i32_w]; rw [c11b0]) | skip)
                        have H' := Aside0.mk H
                        clear H
                        obtain ⟨Ao22, co22, eo22, _⟩ := Kd.Q_slice HO_7.out
                        subst eo22
                        go_wp2
                        go_meet
                        case rel => exact ⟨_, (x7_2), H', ⟨by have := HK1.out; have := HK2.out; first | omega | exact Nat.le_refl _⟩, ⟨by (with_reducible repeat (first | apply Kd.R_alloc | apply Kd.R_drewN | apply Kd.R_drew)); exact HO_6.out⟩, ⟨by (with_reducible repeat (first | apply Kd.Q_alloc | apply Kd.Q_drewN | apply Kd.Q_drew)); exact HO_7.out⟩, ⟨by repeat (first | (with_reducible first | exact HB.out | apply below_alloc | apply pw_below_drewN | apply below_drew1) | exact HB.out)⟩⟩
                case rest =>
                  clear HC10
                  try clear c1
                  try clear p1
                  try clear q1
                  try clear hx1
                  try clear c2
                  try clear p2
                  try clear q2
                  try clear c3
                  try clear c4
                  try clear c5
                  try clear c5b0
                  try clear c5b1
                  try clear p6
                  try clear c7
                  try clear c7b0
                  try clear c8
                  try clear c8b0
                  try clear c9
                  try clear c9b0
                  try clear c11
                  try clear c11b0
                  try clear c11b1
                  try clear c13
                  try clear c13b0
                  try clear p13
                  try clear q13
                  try clear hx13
                  try clear c14
                  try clear c14b0
                  try clear c15
                  try clear c15b0
                  try clear c16
                  try clear c16b0
                  try clear c17
                  try clear c17b0
                  try clear c18
                  try clear c18b0
                  try clear c18b1
                  try clear q20
                  try clear hx131_0
                  try clear hx132_0
                  try clear hx133_0
                  try clear p1
                  try clear p131
                  try clear p132
                  try clear p133
                  try clear p2
                  try clear q1
                  try clear q131
                  try clear q132
                  try clear q133
                  try clear q20
                  obtain ⟨kq, x7_9, HA, HJ9, HO_6, HO_7, HB⟩ := hcut
                  cases kq with
                  | zero => exact absurd HA.out (by simp [fingerprint_Winnow.j2])
                  | succ kj9 =>
                    have H := HA.out
                    clear HA
                    simp only [fingerprint_Winnow.j2] at H
                    by_cases c23 : x7_9.length < 17592186044416
                    · rw [if_pos c23] at H
                      have LMc23 := Aside0.mk c23
                      clear c23
                      obtain ⟨y137, hy137⟩ : ∃ y_ : List Int, y_ = (x7_9 ++ [x25_1]) := ⟨_, rfl⟩
                      replace H : (if 0 < (y137.length : Int) then (if (rd y137 0) ≤ (wrap64 (x25_1 - ji6)) then (if 1 ≤ (y137.length : Int) then ((some (y137.drop (1 : Int).toNat : List Int)).bind fun y141 => (if 0 < (y141.length : Int) then (if x25_1 ≥ (wrap64 (ji6 - 1)) then (if (x6_1.length : Int) = 0 then (if 0 ≤ (rd y141 0) then (if (rd y141 0) < (l0.length : Int) then (if x6_1.length < 8796093022208 then (fingerprint_Winnow.l0 kj9 l0 ji6 (x6_1 ++ [(⟨rd l0 (rd y141 0), rd y141 0⟩ : S48)]) y141 l0 (l0.length : Int) (wrap64 (x25_1 + 1))) else (none)) else (none)) else (none)) else (if 0 ≤ (wrap64 ((x6_1.length : Int) - 1)) then (if (wrap64 ((x6_1.length : Int) - 1)) < (x6_1.length : Int) then (if ((rd_T48 x6_1 (wrap64 ((x6_1.length : Int) - 1))).f1) = (rd y141 0) then (fingerprint_Winnow.l0 kj9 l0 ji6 x6_1 y141 l0 (l0.length : Int) (wrap64 (x25_1 + 1))) else (if 0 ≤ (rd y141 0) then (if (rd y141 0) < (l0.length : Int) then (if x6_1.length < 8796093022208 then (fingerprint_Winnow.l0 kj9 l0 ji6 (x6_1 ++ [(⟨rd l0 (rd y141 0), rd y141 0⟩ : S48)]) y141 l0 (l0.length : Int) (wrap64 (x25_1 + 1))) else (none)) else (none)) else (none))) else (none)) else (none))) else (fingerprint_Winnow.l0 kj9 l0 ji6 x6_1 y141 l0 (l0.length : Int) (wrap64 (x25_1 + 1)))) else (none))) else (none)) else (if x25_1 ≥ (wrap64 (ji6 - 1)) then (if (x6_1.length : Int) = 0 then (if 0 ≤ (rd y137 0) then (if (rd y137 0) < (l0.length : Int) then (if x6_1.length < 8796093022208 then (fingerprint_Winnow.l0 kj9 l0 ji6 (x6_1 ++ [(⟨rd l0 (rd y137 0), rd y137 0⟩ : S48)]) y137 l0 (l0.length : Int) (wrap64 (x25_1 + 1))) else (none)) else (none)) else (none)) else (if 0 ≤ (wrap64 ((x6_1.length : Int) - 1)) then (if (wrap64 ((x6_1.length : Int) - 1)) < (x6_1.length : Int) then (if ((rd_T48 x6_1 (wrap64 ((x6_1.length : Int) - 1))).f1) = (rd y137 0) then (fingerprint_Winnow.l0 kj9 l0 ji6 x6_1 y137 l0 (l0.length : Int) (wrap64 (x25_1 + 1))) else (if 0 ≤ (rd y137 0) then (if (rd y137 0) < (l0.length : Int) then (if x6_1.length < 8796093022208 then (fingerprint_Winnow.l0 kj9 l0 ji6 (x6_1 ++ [(⟨rd l0 (rd y137 0), rd y137 0⟩ : S48)]) y137 l0 (l0.length : Int) (wrap64 (x25_1 + 1))) else (none)) else (none)) else (none))) else (none)) else (none))) else (fingerprint_Winnow.l0 kj9 l0 ji6 x6_1 y137 l0 (l0.length : Int) (wrap64 (x25_1 + 1))))) else (none)) = some (r1, r2) := by first | (rw [hy137]; with_reducible exact H) | (have H2_ := (Option.bind_some _ _).symm.trans H; rw [hy137]; with_reducible exact H2_) | (have H2_ := (Option.bind_some _ _).symm.trans H; with_reducible exact H2_) | with_reducible exact H | (rw [hy137]; exact H) | exact H
                      have Ny137 := Aside0.mk hy137
                      clear hy137
                      by_cases c24 : 0 < (y137.length : Int)
                      · rw [if_pos c24] at H
                        have c24b0 : decide (0 < (y137.length : Int)) = true := decide_eq_true c24
                        have c24b1 : decide (0 < y137.length) = true := decide_eq_true (by omega)
                        clear c24
                        by_cases c25 : (rd y137 0) ≤ (wrap64 (x25_1 - ji6))
                        · rw [if_pos c25] at H
                          have c25b0 : decide ((rd y137 0) ≤ (wrap64 (x25_1 - ji6))) = true := decide_eq_true c25
                          clear c25
                          by_cases c26 : 1 ≤ (y137.length : Int)
                          · rw [if_pos c26] at H
                            have c26b0 := eq_true c26
                            have c26b1 : decide (1 ≤ (y137.length : Int)) = true := decide_eq_true c26
                            clear c26
                            obtain ⟨y141, hy141⟩ : ∃ y_ : List Int, y_ = (y137.drop (1 : Int).toNat) := ⟨_, rfl⟩
                            replace H : (if 0 < (y141.length : Int) then (if x25_1 ≥ (wrap64 (ji6 - 1)) then (if (x6_1.length : Int) = 0 then (if 0 ≤ (rd y141 0) then (if (rd y141 0) < (l0.length : Int) then (if x6_1.length < 8796093022208 then (fingerprint_Winnow.l0 kj9 l0 ji6 (x6_1 ++ [(⟨rd l0 (rd y141 0), rd y141 0⟩ : S48)]) y141 l0 (l0.length : Int) (wrap64 (x25_1 + 1))) else (none)) else (none)) else (none)) else (if 0 ≤ (wrap64 ((x6_1.length : Int) - 1)) then (if (wrap64 ((x6_1.length : Int) - 1)) < (x6_1.length : Int) then (if ((rd_T48 x6_1 (wrap64 ((x6_1.length : Int) - 1))).f1) = (rd y141 0) then (fingerprint_Winnow.l0 kj9 l0 ji6 x6_1 y141 l0 (l0.length : Int) (wrap64 (x25_1 + 1))) else (if 0 ≤ (rd y141 0) then (if (rd y141 0) < (l0.length : Int) then (if x6_1.length < 8796093022208 then (fingerprint_Winnow.l0 kj9 l0 ji6 (x6_1 ++ [(⟨rd l0 (rd y141 0), rd y141 0⟩ : S48)]) y141 l0 (l0.length : Int) (wrap64 (x25_1 + 1))) else (none)) else (none)) else (none))) else (none)) else (none))) else (fingerprint_Winnow.l0 kj9 l0 ji6 x6_1 y141 l0 (l0.length : Int) (wrap64 (x25_1 + 1)))) else (none)) = some (r1, r2) := by first | (rw [hy141]; with_reducible exact H) | (have H2_ := (Option.bind_some _ _).symm.trans H; rw [hy141]; with_reducible exact H2_) | (have H2_ := (Option.bind_some _ _).symm.trans H; with_reducible exact H2_) | with_reducible exact H | (rw [hy141]; exact H) | exact H
                            have Ny141 := Aside0.mk hy141
                            clear hy141
                            by_cases c27 : 0 < (y141.length : Int)
                            · rw [if_pos c27] at H
                              have c27b0 : decide (0 < (y141.length : Int)) = true := decide_eq_true c27
                              have c27b1 : decide (0 < y141.length) = true := decide_eq_true (by omega)
                              clear c27
                              by_cases c28 : x25_1 ≥ (wrap64 (ji6 - 1))
                              · rw [if_pos c28] at H
                                have c28b0 : decide ((wrap64 (ji6 - 1)) ≤ x25_1) = true := decide_eq_true c28
                                clear c28
                                by_cases c29 : (x6_1.length : Int) = 0
                                · rw [if_pos c29] at H
                                  have c29b0 : ((x6_1.length : Int) == 0) = true := beq_iff_eq.mpr c29
                                  have c29b1 : ((x6_1.length : Int) != 0) = false := bne_eq_false_iff_eq.mpr c29
                                  clear c29
                                  by_cases c30 : 0 ≤ (rd y141 0)
                                  · rw [if_pos c30] at H
                                    have c30b0 : decide (0 ≤ (rd y141 0)) = true := decide_eq_true c30
                                    clear c30
                                    by_cases c31 : (rd y141 0) < (l0.length : Int)
                                    · rw [if_pos c31] at H
                                      have c31b0 : decide ((rd y141 0) < (l0.length : Int)) = true := decide_eq_true c31
                                      clear c31
                                      by_cases c32 : x6_1.length < 8796093022208
                                      · rw [if_pos c32] at H
                                        have LMc32 := Aside0.mk c32
                                        clear c32
                                        obtain ⟨y146, hy146⟩ : ∃ y_ : List (S48), y_ = (x6_1 ++ [(⟨rd l0 (rd y141 0), rd y141 0⟩ : S48)]) := ⟨_, rfl⟩
                                        replace H : (fingerprint_Winnow.l0 kj9 l0 ji6 y146 y141 l0 (l0.length : Int) (wrap64 (x25_1 + 1))) = some (r1, r2) := by first | (rw [hy146]; with_reducible exact H) | (have H2_ := (Option.bind_some _ _).symm.trans H; rw [hy146]; with_reducible exact H2_) | (have H2_ := (Option.bind_some _ _).symm.trans H; with_reducible exact H2_) | with_reducible exact H | (rw [hy146]; exact H) | exact H
                                        have Ny146 := Aside0.mk hy146
                                        clear hy146
                                        have H' := Aside0.mk H
                                        clear H
                                        go_wp2_with (first | ((with_reducible refine gate_builtin (b := .append) (xs := #[.tmp 51, .tmp 53]) rfl ?_); (try (refine gate_guard (by rfl) ?_; dsimp only)); at_builtin; refine Kd.Q_append (Kd.int .i64) (w0 := w) w.heap.size rfl (.tmp 51) (.tmp 53) 25 3 (.int .i64 0) 8 rfl Tryd.underlying25 info3 rfl (by decide) (by omega) u7 x7_9 x25_1 [.int .i64 x25_1] (fun _ => True) (fun _ => False) rfl rfl ?aP (fun _ hk => hk.elim) ?aF ?aO ?aB ?aS ?aL ?_; (case aP => exact rfl); (case aB => exact (by repeat (first | (with_reducible first | exact HB.out | apply below_alloc | apply pw_below_drewN | apply below_drew1) | exact HB.out))); (case aF => exact (fun _ _ => trivial)); (case aO => exact (by (with_reducible repeat (first | apply Kd.Q_alloc | apply Kd.Q_drewN | apply Kd.Q_drew)); exact HO_7.out)); (case aS => exact (below_size (by repeat (first | (with_reducible first | exact HB.out | apply below_alloc | apply pw_below_drewN | apply below_drew1) | exact HB.out)))); (case aL => have := LMc23.out; omega); intro v138 w33 ho hb hg hat; rw [← Ny137.out] at ho; have n0_ := Aside0.mk (Kd.R_over' (by (with_reducible repeat (first | apply Kd.R_alloc | apply Kd.R_drewN | apply Kd.R_drew)); exact HO_6.out) (Kd.Q_typed (by (with_reducible repeat (first | apply Kd.Q_alloc | apply Kd.Q_drewN | apply Kd.Q_drew)); exact HO_7.out)) (by decide) hg); have n1_ := Aside0.mk (hb); have n2_ := Aside0.mk (ho); clear HO_6; clear HB; clear HO_7; have HO_6 := n0_; have HB := n1_; have HO139 := n2_; clear n0_ n1_ n2_; clear ho hb hg hat; obtain ⟨Ao34, co34, eo34, _⟩ := Kd.Q_slice HO139.out; subst eo34; have p140 : 0 ≤ (0 : Int) := (by omega); have q140 : 0 < (y137.length : Int) := of_decide_eq_true (by first | (with_reducible assumption) | assumption); obtain ⟨ad140, e140, hx140_0⟩ := Kd.at_int (Kd.Q_reads' HO139.out).2.2 0 p140 q140; cases e140; have qi140 : (0 < y137.length) = True := eq_true (by omega); (try rw [show ((0 : Int)).toNat = 0 from rfl] at hx140_0); (try rw [Addr.add_zero'] at hx140_0); replace p140 := eq_true p140; replace q140 := eq_true q140; have q35 : (1 : Int) ≤ ((y137.length : Int) : Int) := of_decide_eq_true (by first | (with_reducible assumption) | assumption); obtain ⟨i035, hi035, _, hsz35, _⟩ := info_parts info3; have hcut35 := cut_from (P := Tryd.prog) 25 3 .i64 Tryd.underlying25 hi035 1 hsz35 (some ad140) y137.length co34 1 (by omega) q35; have hr35 := Kd.Q_drop (k := (1 : Int).toNat) HO139.out (by omega); obtain ⟨A35, hA35⟩ : ∃ A1, A1 = (if co34 = (1 : Int).toNat then (some ad140) else ((some ad140) : Option Addr).map (·.add ((1 : Int).toNat * 1))) := ⟨_, rfl⟩; obtain ⟨c35, hc35⟩ : ∃ c1, c1 = co34 - (1 : Int).toNat := ⟨_, rfl⟩; have hy35 : y141.length = y137.length - (1 : Int).toNat := (by rw [Ny141.out, List.length_drop]); rw [← Ny141.out] at hr35; rw [← hy35, ← hA35, ← hc35] at hcut35; replace hr35 : Kd.Q (Kd.int .i64) 3 w33 w.heap.size (fun _ => True) (.slice A35 y141.length c35) y141 := (by rw [hA35, hc35, hy35]; exact hr35); have HE35 : Aside0 ((Value.slice A35 y141.length c35).ownBlock = (.slice (some ad140) y137.length co34 : Value).ownBlock) := ⟨by rw [hA35]; split <;> (cases ((some ad140) : Option Addr) <;> rfl)⟩; clear hy35 hi035 hsz35 HO139 hA35 hc35; have HO143 := Aside0.mk hr35; clear hr35; replace q35 := eq_true q35; have p144 : 0 ≤ (0 : Int) := (by omega); have q144 : 0 < (y141.length : Int) := of_decide_eq_true (by first | (with_reducible assumption) | assumption); obtain ⟨ad144, e144, hx144_0⟩ := Kd.at_int (Kd.Q_reads' HO143.out).2.2 0 p144 q144; cases e144; have qi144 : (0 < y141.length) = True := eq_true (by omega); (try rw [show ((0 : Int)).toNat = 0 from rfl] at hx144_0); (try rw [Addr.add_zero'] at hx144_0); replace p144 := eq_true p144; replace q144 := eq_true q144; obtain ⟨Ao36, co36, eo36⟩ := Kd.R_slice HO_6.out; subst eo36; have p145 : 0 ≤ ((rd y141 0) : Int) := of_decide_eq_true (by first | (with_reducible assumption) | assumption); have q145 : (rd y141 0) < (l0.length : Int) := of_decide_eq_true (by first | (with_reducible assumption) | assumption); obtain ⟨ad145, e145, hx145_0⟩ := Kd.at_int HR0.out (rd y141 0) p145 q145; obtain rfl : ad131 = ad145 := (by injection e145); replace hx145_0 := (HB.out.cell (World.block_lt_of_cell? w _ hx145_0)).trans hx145_0; replace p145 := eq_true p145; replace q145 := eq_true q145) | ((with_reducible refine gate_builtin (b := .append) (xs := #[.tmp 87, .tmp 94]) rfl ?_); (try (refine gate_guard (by rfl) ?_; dsimp only)); at_builtin; refine Kd.R_append k48 (w0 := w) w.heap.size rfl (.tmp 87) (.tmp 94) 28 48 (.agg #[(.int .i64 0), (.int .i64 0)]) 16 rfl Tryd.underlying28 info48 rfl (by decide) (by omega) (.slice Ao36 x6_1.length co36) x6_1 (⟨rd l0 (rd y141 0), rd y141 0⟩ : S48) [.int .i64 (rd l0 (rd y141 0)), .int .i64 (rd y141 0)] (fun _ => True) (fun _ => False) rfl rfl ?aP (fun _ hk => hk.elim) ?aF ?aO ?aB ?aS ?aL ?_; (case aP => exact k48_mkM _ _ _ (⟨rd l0 (rd y141 0), rd y141 0⟩ : S48)); (case aB => exact (by repeat (first | (with_reducible first | exact HB.out | apply below_alloc | apply pw_below_drewN | apply below_drew1) | exact HB.out))); (case aF => exact (fun _ _ => trivial)); (case aO => exact (by (with_reducible repeat (first | apply Kd.R_alloc | apply Kd.R_drewN | apply Kd.R_drew)); exact HO_6.out)); (case aS => exact (below_size (by repeat (first | (with_reducible first | exact HB.out | apply below_alloc | apply pw_below_drewN | apply below_drew1) | exact HB.out)))); (case aL => have := LMc32.out; omega); intro v147 w37 ho hb hg hat; rw [← Ny146.out] at ho; have n0_ := Aside0.mk (Kd.Q_over' (by (with_reducible repeat (first | apply Kd.Q_alloc | apply Kd.Q_drewN | apply Kd.Q_drew)); exact HO143.out) (Kd.R_typed (by (with_reducible repeat (first | apply Kd.R_alloc | apply Kd.R_drewN | apply Kd.R_drew)); exact HO_6.out)) (by decide) hg); have n1_ := Aside0.mk (hb); have n2_ := Aside0.mk (ho); clear HO143; clear HB; clear HO_6; have HO143 := n0_; have HB := n1_; have HO148 := n2_; clear n0_ n1_ n2_; clear ho hb hg hat))
                                        go_roundg kj9
                                        case measure => have := HK1.out; have := HJ9.out; omega
                                        case rel => exact ⟨(y146), (y141), (wrap64 (x25_1 + 1)), (by first | rfl | (simp; done) | (simp [*]; done)), H', ⟨by have := HK1.out; have := HJ9.out; omega⟩, ⟨by (with_reducible repeat (first | apply Kd.R_alloc | apply Kd.R_drewN | apply Kd.R_drew)); exact HO148.out⟩, ⟨by (with_reducible repeat (first | apply Kd.Q_alloc | apply Kd.Q_drewN | apply Kd.Q_drew)); exact HO143.out⟩, ⟨by repeat (first | (with_reducible first | exact HB.out | apply below_alloc | apply pw_below_drewN | apply below_drew1) | exact HB.out)⟩⟩
                                      · rw [if_neg c32] at H
                                        exact absurd H (by simp)
                                    · rw [if_neg c31] at H
                                      exact absurd H (by simp)
                                  · rw [if_neg c30] at H
                                    exact absurd H (by simp)
                                · rw [if_neg c29] at H
                                  have c29b0 : ((x6_1.length : Int) == 0) = false := beq_eq_false_iff_ne.mpr c29
                                  have c29b1 : ((x6_1.length : Int) != 0) = true := bne_iff_ne.mpr c29
                                  have c29b2 : ¬ (x6_1 = []) := fun h_ => c29 (by rw [h_]; rfl)
                                  obtain ⟨ji38, hji38⟩ : ∃ j_ : Int, (wrap64 ((x6_1.length : Int) - 1)) = j_ := ⟨_, rfl⟩
                                  replace H : (if 0 ≤ (ji38) then (if (ji38) < (x6_1.length : Int) then (if ((rd_T48 x6_1 (ji38)).f1) = (rd y141 0) then (fingerprint_Winnow.l0 kj9 l0 ji6 x6_1 y141 l0 (l0.length : Int) (wrap64 (x25_1 + 1))) else (if 0 ≤ (rd y141 0) then (if (rd y141 0) < (l0.length : Int) then (if x6_1.length < 8796093022208 then (fingerprint_Winnow.l0 kj9 l0 ji6 (x6_1 ++ [(⟨rd l0 (rd y141 0), rd y141 0⟩ : S48)]) y141 l0 (l0.length : Int) (wrap64 (x25_1 + 1))) else (none)) else (none)) else (none))) else (none)) else (none)) = some (r1, r2) := by first | (rw [hji38] at H; exact H) | (simp only [hji38] at H ⊢; exact H)
                                  have hji38w : (IntKind.i64.wrap ((x6_1.length : Int) - 1)) = ji38 := (i64_w _).trans hji38
                                  by_cases c39 : 0 ≤ (ji38)
                                  · rw [if_pos c39] at H
                                    have c39b0 : decide (0 ≤ (ji38)) = true := decide_eq_true c39
                                    clear c39
                                    by_cases c40 : (ji38) < (x6_1.length : Int)
                                    · rw [if_pos c40] at H
                                      have c40b0 : decide ((ji38) < (x6_1.length : Int)) = true := decide_eq_true c40
                                      clear c40
                                      by_cases c41 : ((rd_T48 x6_1 (ji38)).f1) = (rd y141 0)
                                      · rw [if_pos c41] at H
                                        have c41b0 : (((rd_T48 x6_1 (ji38)).f1) == (rd y141 0)) = true := beq_iff_eq.mpr c41
                                        have c41b1 : (((rd_T48 x6_1 (ji38)).f1) != (rd y141 0)) = false := bne_eq_false_iff_eq.mpr c41
                                        clear c41
                                        have H' := Aside0.mk H
                                        clear H
                                        go_wp2_with (first | ((with_reducible refine gate_builtin (b := .append) (xs := #[.tmp 51, .tmp 53]) rfl ?_); (try (refine gate_guard (by rfl) ?_; dsimp only)); at_builtin; refine Kd.Q_append (Kd.int .i64) (w0 := w) w.heap.size rfl (.tmp 51) (.tmp 53) 25 3 (.int .i64 0) 8 rfl Tryd.underlying25 info3 rfl (by decide) (by omega) u7 x7_9 x25_1 [.int .i64 x25_1] (fun _ => True) (fun _ => False) rfl rfl ?aP (fun _ hk => hk.elim) ?aF ?aO ?aB ?aS ?aL ?_; (case aP => exact rfl); (case aB => exact (by repeat (first | (with_reducible first | exact HB.out | apply below_alloc | apply pw_below_drewN | apply below_drew1) | exact HB.out))); (case aF => exact (fun _ _ => trivial)); (case aO => exact (by (with_reducible repeat (first | apply Kd.Q_alloc | apply Kd.Q_drewN | apply Kd.Q_drew)); exact HO_7.out)); (case aS => exact (below_size (by repeat (first | (with_reducible first | exact HB.out | apply below_alloc | apply pw_below_drewN | apply below_drew1) | exact HB.out)))); (case aL => have := LMc23.out; omega); intro v138 w42 ho hb hg hat; rw [← Ny137.out] at ho; have n0_ := Aside0.mk (Kd.R_over' (by (with_reducible repeat (first | apply Kd.R_alloc | apply Kd.R_drewN | apply Kd.R_drew)); exact HO_6.out) (Kd.Q_typed (by (with_reducible repeat (first | apply Kd.Q_alloc | apply Kd.Q_drewN | apply Kd.Q_drew)); exact HO_7.out)) (by decide) hg); have n1_ := Aside0.mk (hb); have n2_ := Aside0.mk (ho); clear HO_6; clear HB; clear HO_7; have HO_6 := n0_; have HB := n1_; have HO139 := n2_; clear n0_ n1_ n2_; clear ho hb hg hat; obtain ⟨Ao43, co43, eo43, _⟩ := Kd.Q_slice HO139.out; subst eo43; have p140 : 0 ≤ (0 : Int) := (by omega); have q140 : 0 < (y137.length : Int) := of_decide_eq_true (by first | (with_reducible assumption) | assumption); obtain ⟨ad140, e140, hx140_0⟩ := Kd.at_int (Kd.Q_reads' HO139.out).2.2 0 p140 q140; cases e140; have qi140 : (0 < y137.length) = True := eq_true (by omega); (try rw [show ((0 : Int)).toNat = 0 from rfl] at hx140_0); (try rw [Addr.add_zero'] at hx140_0); replace p140 := eq_true p140; replace q140 := eq_true q140; have q44 : (1 : Int) ≤ ((y137.length : Int) : Int) := of_decide_eq_true (by first | (with_reducible assumption) | assumption); obtain ⟨i044, hi044, _, hsz44, _⟩ := info_parts info3; have hcut44 := cut_from (P := Tryd.prog) 25 3 .i64 Tryd.underlying25 hi044 1 hsz44 (some ad140) y137.length co43 1 (by omega) q44; have hr44 := Kd.Q_drop (k := (1 : Int).toNat) HO139.out (by omega); obtain ⟨A44, hA44⟩ : ∃ A1, A1 = (if co43 = (1 : Int).toNat then (some ad140) else ((some ad140) : Option Addr).map (·.add ((1 : Int).toNat * 1))) := ⟨_, rfl⟩; obtain ⟨c44, hc44⟩ : ∃ c1, c1 = co43 - (1 : Int).toNat := ⟨_, rfl⟩; have hy44 : y141.length = y137.length - (1 : Int).toNat := (by rw [Ny141.out, List.length_drop]); rw [← Ny141.out] at hr44; rw [← hy44, ← hA44, ← hc44] at hcut44; replace hr44 : Kd.Q (Kd.int .i64) 3 w42 w.heap.size (fun _ => True) (.slice A44 y141.length c44) y141 := (by rw [hA44, hc44, hy44]; exact hr44); have HE44 : Aside0 ((Value.slice A44 y141.length c44).ownBlock = (.slice (some ad140) y137.length co43 : Value).ownBlock) := ⟨by rw [hA44]; split <;> (cases ((some ad140) : Option Addr) <;> rfl)⟩; clear hy44 hi044 hsz44 HO139 hA44 hc44; have HO143 := Aside0.mk hr44; clear hr44; replace q44 := eq_true q44; have p144 : 0 ≤ (0 : Int) := (by omega); have q144 : 0 < (y141.length : Int) := of_decide_eq_true (by first | (with_reducible assumption) | assumption); obtain ⟨ad144, e144, hx144_0⟩ := Kd.at_int (Kd.Q_reads' HO143.out).2.2 0 p144 q144; cases e144; have qi144 : (0 < y141.length) = True := eq_true (by omega); (try rw [show ((0 : Int)).toNat = 0 from rfl] at hx144_0); (try rw [Addr.add_zero'] at hx144_0); replace p144 := eq_true p144; replace q144 := eq_true q144; obtain ⟨Ao45, co45, eo45⟩ := Kd.R_slice HO_6.out; subst eo45; have p149 : 0 ≤ ((ji38) : Int) := of_decide_eq_true (by first | (with_reducible assumption) | assumption); have q149 : (ji38) < (x6_1.length : Int) := of_decide_eq_true (by first | (with_reducible assumption) | assumption); obtain ⟨ad149, e149, hx149_0, hx149_1⟩ := at_T48 (Kd.R_reads' HO_6.out).2.2 (ji38) p149 q149; cases e149; replace p149 := eq_true p149; replace q149 := eq_true q149))
                                        go_roundg kj9
                                        case measure => have := HK1.out; have := HJ9.out; omega
                                        case rel => exact ⟨(x6_1), (y141), (wrap64 (x25_1 + 1)), (by first | rfl | (simp; done) | (simp [*]; done)), H', ⟨by have := HK1.out; have := HJ9.out; omega⟩, ⟨by (with_reducible repeat (first | apply Kd.R_alloc | apply Kd.R_drewN | apply Kd.R_drew)); exact HO_6.out⟩, ⟨by (with_reducible repeat (first | apply Kd.Q_alloc | apply Kd.Q_drewN | apply Kd.Q_drew)); exact HO143.out⟩, ⟨by repeat (first | (with_reducible first | exact HB.out | apply below_alloc | apply pw_below_drewN | apply below_drew1) | exact HB.out)⟩⟩
                                      · rw [if_neg c41] at H
                                        have c41b0 : (((rd_T48 x6_1 (ji38)).f1) == (rd y141 0)) = false := beq_eq_false_iff_ne.mpr c41
                                        have c41b1 : (((rd_T48 x6_1 (ji38)).f1) != (rd y141 0)) = true := bne_iff_ne.mpr c41
                                        by_cases c46 : 0 ≤ (rd y141 0)
                                        · rw [if_pos c46] at H
                                          have c46b0 : decide (0 ≤ (rd y141 0)) = true := decide_eq_true c46
                                          clear c46
                                          by_cases c47 : (rd y141 0) < (l0.length : Int)
                                          · rw [if_pos c47] at H
                                            have c47b0 : decide ((rd y141 0) < (l0.length : Int)) = true := decide_eq_true c47
                                            clear c47
                                            by_cases c48 : x6_1.length < 8796093022208
                                            · rw [if_pos c48] at H
                                              have LMc48 := Aside0.mk c48
                                              clear c48
                                              obtain ⟨y151, hy151⟩ : ∃ y_ : List (S48), y_ = (x6_1 ++ [(⟨rd l0 (rd y141 0), rd y141 0⟩ : S48)]) := ⟨_, rfl⟩
                                              replace H : (fingerprint_Winnow.l0 kj9 l0 ji6 y151 y141 l0 (l0.length : Int) (wrap64 (x25_1 + 1))) = some (r1, r2) := by first | (rw [hy151]; with_reducible exact H) | (have H2_ := (Option.bind_some _ _).symm.trans H; rw [hy151]; with_reducible exact H2_) | (have H2_ := (Option.bind_some _ _).symm.trans H; with_reducible exact H2_) | with_reducible exact H | (rw [hy151]; exact H) | exact H
                                              have Ny151 := Aside0.mk hy151
                                              clear hy151
                                              have H' := Aside0.mk H
                                              clear H
                                              go_wp2_with (first | ((with_reducible refine gate_builtin (b := .append) (xs := #[.tmp 51, .tmp 53]) rfl ?_); (try (refine gate_guard (by rfl) ?_; dsimp only)); at_builtin; refine Kd.Q_append (Kd.int .i64) (w0 := w) w.heap.size rfl (.tmp 51) (.tmp 53) 25 3 (.int .i64 0) 8 rfl Tryd.underlying25 info3 rfl (by decide) (by omega) u7 x7_9 x25_1 [.int .i64 x25_1] (fun _ => True) (fun _ => False) rfl rfl ?aP (fun _ hk => hk.elim) ?aF ?aO ?aB ?aS ?aL ?_; (case aP => exact rfl); (case aB => exact (by repeat (first | (with_reducible first | exact HB.out | apply below_alloc | apply pw_below_drewN | apply below_drew1) | exact HB.out))); (case aF => exact (fun _ _ => trivial)); (case aO => exact (by (with_reducible repeat (first | apply Kd.Q_alloc | apply Kd.Q_drewN | apply Kd.Q_drew)); exact HO_7.out)); (case aS => exact (below_size (by repeat (first | (with_reducible first | exact HB.out | apply below_alloc | apply pw_below_drewN | apply below_drew1) | exact HB.out)))); (case aL => have := LMc23.out; omega); intro v138 w49 ho hb hg hat; rw [← Ny137.out] at ho; have n0_ := Aside0.mk (Kd.R_over' (by (with_reducible repeat (first | apply Kd.R_alloc | apply Kd.R_drewN | apply Kd.R_drew)); exact HO_6.out) (Kd.Q_typed (by (with_reducible repeat (first | apply Kd.Q_alloc | apply Kd.Q_drewN | apply Kd.Q_drew)); exact HO_7.out)) (by decide) hg); have n1_ := Aside0.mk (hb); have n2_ := Aside0.mk (ho); clear HO_6; clear HB; clear HO_7; have HO_6 := n0_; have HB := n1_; have HO139 := n2_; clear n0_ n1_ n2_; clear ho hb hg hat; obtain ⟨Ao50, co50, eo50, _⟩ := Kd.Q_slice HO139.out; subst eo50; have p140 : 0 ≤ (0 : Int) := (by omega); have q140 : 0 < (y137.length : Int) := of_decide_eq_true (by first | (with_reducible assumption) | assumption); obtain ⟨ad140, e140, hx140_0⟩ := Kd.at_int (Kd.Q_reads' HO139.out).2.2 0 p140 q140; cases e140; have qi140 : (0 < y137.length) = True := eq_true (by omega); (try rw [show ((0 : Int)).toNat = 0 from rfl] at hx140_0); (try rw [Addr.add_zero'] at hx140_0); replace p140 := eq_true p140; replace q140 := eq_true q140; have q51 : (1 : Int) ≤ ((y137.length : Int) : Int) := of_decide_eq_true (by first | (with_reducible assumption) | assumption); obtain ⟨i051, hi051, _, hsz51, _⟩ := info_parts info3; have hcut51 := cut_from (P := Tryd.prog) 25 3 .i64 Tryd.underlying25 hi051 1 hsz51 (some ad140) y137.length co50 1 (by omega) q51; have hr51 := Kd.Q_drop (k := (1 : Int).toNat) HO139.out (by omega); obtain ⟨A51, hA51⟩ : ∃ A1, A1 = (if co50 = (1 : Int).toNat then (some ad140) else ((some ad140) : Option Addr).map (·.add ((1 : Int).toNat * 1))) := ⟨_, rfl⟩; obtain ⟨c51, hc51⟩ : ∃ c1, c1 = co50 - (1 : Int).toNat := ⟨_, rfl⟩; have hy51 : y141.length = y137.length - (1 : Int).toNat := (by rw [Ny141.out, List.length_drop]); rw [← Ny141.out] at hr51; rw [← hy51, ← hA51, ← hc51] at hcut51; replace hr51 : Kd.Q (Kd.int .i64) 3 w49 w.heap.size (fun _ => True) (.slice A51 y141.length c51) y141 := (by rw [hA51, hc51, hy51]; exact hr51); have HE51 : Aside0 ((Value.slice A51 y141.length c51).ownBlock = (.slice (some ad140) y137.length co50 : Value).ownBlock) := ⟨by rw [hA51]; split <;> (cases ((some ad140) : Option Addr) <;> rfl)⟩; clear hy51 hi051 hsz51 HO139 hA51 hc51; have HO143 := Aside0.mk hr51; clear hr51; replace q51 := eq_true q51; have p144 : 0 ≤ (0 : Int) := (by omega); have q144 : 0 < (y141.length : Int) := of_decide_eq_true (by first | (with_reducible assumption) | assumption); obtain ⟨ad144, e144, hx144_0⟩ := Kd.at_int (Kd.Q_reads' HO143.out).2.2 0 p144 q144; cases e144; have qi144 : (0 < y141.length) = True := eq_true (by omega); (try rw [show ((0 : Int)).toNat = 0 from rfl] at hx144_0); (try rw [Addr.add_zero'] at hx144_0); replace p144 := eq_true p144; replace q144 := eq_true q144; obtain ⟨Ao52, co52, eo52⟩ := Kd.R_slice HO_6.out; subst eo52; have p149 : 0 ≤ ((ji38) : Int) := of_decide_eq_true (by first | (with_reducible assumption) | assumption); have q149 : (ji38) < (x6_1.length : Int) := of_decide_eq_true (by first | (with_reducible assumption) | assumption); obtain ⟨ad149, e149, hx149_0, hx149_1⟩ := at_T48 (Kd.R_reads' HO_6.out).2.2 (ji38) p149 q149; cases e149; replace p149 := eq_true p149; replace q149 := eq_true q149; have p150 : 0 ≤ ((rd y141 0) : Int) := of_decide_eq_true (by first | (with_reducible assumption) | assumption); have q150 : (rd y141 0) < (l0.length : Int) := of_decide_eq_true (by first | (with_reducible assumption) | assumption); obtain ⟨ad150, e150, hx150_0⟩ := Kd.at_int HR0.out (rd y141 0) p150 q150; obtain rfl : ad131 = ad150 := (by injection e150); replace hx150_0 := (HB.out.cell (World.block_lt_of_cell? w _ hx150_0)).trans hx150_0; replace p150 := eq_true p150; replace q150 := eq_true q150) | ((with_reducible refine gate_builtin (b := .append) (xs := #[.tmp 87, .tmp 94]) rfl ?_); (try (refine gate_guard (by rfl) ?_; dsimp only)); at_builtin; refine Kd.R_append k48 (w0 := w) w.heap.size rfl (.tmp 87) (.tmp 94) 28 48 (.agg #[(.int .i64 0), (.int .i64 0)]) 16 rfl Tryd.underlying28 info48 rfl (by decide) (by omega) (.slice (some ad149) x6_1.length co52) x6_1 (⟨rd l0 (rd y141 0), rd y141 0⟩ : S48) [.int .i64 (rd l0 (rd y141 0)), .int .i64 (rd y141 0)] (fun _ => True) (fun _ => False) rfl rfl ?aP (fun _ hk => hk.elim) ?aF ?aO ?aB ?aS ?aL ?_; (case aP => exact k48_mkM _ _ _ (⟨rd l0 (rd y141 0), rd y141 0⟩ : S48)); (case aB => exact (by repeat (first | (with_reducible first | exact HB.out | apply below_alloc | apply pw_below_drewN | apply below_drew1) | exact HB.out))); (case aF => exact (fun _ _ => trivial)); (case aO => exact (by (with_reducible repeat (first | apply Kd.R_alloc | apply Kd.R_drewN | apply Kd.R_drew)); exact HO_6.out)); (case aS => exact (below_size (by repeat (first | (with_reducible first | exact HB.out | apply below_alloc | apply pw_below_drewN | apply below_drew1) | exact HB.out)))); (case aL => have := LMc48.out; omega); intro v152 w53 ho hb hg hat; rw [← Ny151.out] at ho; have n0_ := Aside0.mk (Kd.Q_over' (by (with_reducible repeat (first | apply Kd.Q_alloc | apply Kd.Q_drewN | apply Kd.Q_drew)); exact HO143.out) (Kd.R_typed (by (with_reducible repeat (first | apply Kd.R_alloc | apply Kd.R_drewN | apply Kd.R_drew)); exact HO_6.out)) (by decide) hg); have n1_ := Aside0.mk (hb); have n2_ := Aside0.mk (ho); clear HO143; clear HB; clear HO_6; have HO143 := n0_; have HB := n1_; have HO153 := n2_; clear n0_ n1_ n2_; clear ho hb hg hat))
                                              go_roundg kj9
                                              case measure => have := HK1.out; have := HJ9.out; omega
                                              case rel => exact ⟨(y151), (y141), (wrap64 (x25_1 + 1)), (by first | rfl | (simp; done) | (simp [*]; done)), H', ⟨by have := HK1.out; have := HJ9.out; omega⟩, ⟨by (with_reducible repeat (first | apply Kd.R_alloc | apply Kd.R_drewN | apply Kd.R_drew)); exact HO153.out⟩, ⟨by (with_reducible repeat (first | apply Kd.Q_alloc | apply Kd.Q_drewN | apply Kd.Q_drew)); exact HO143.out⟩, ⟨by repeat (first | (with_reducible first | exact HB.out | apply below_alloc | apply pw_below_drewN | apply below_drew1) | exact HB.out)⟩⟩
                                            · rw [if_neg c48] at H
                                              exact absurd H (by simp)
                                          · rw [if_neg c47] at H
                                            exact absurd H (by simp)
                                        · rw [if_neg c46] at H
                                          exact absurd H (by simp)
                                    · rw [if_neg c40] at H
                                      exact absurd H (by simp)
                                  · rw [if_neg c39] at H
                                    exact absurd H (by simp)
                              · rw [if_neg c28] at H
                                have c28b0 : decide ((wrap64 (ji6 - 1)) ≤ x25_1) = false := decide_eq_false c28
                                clear c28
                                have H' := Aside0.mk H
                                clear H
                                go_wp2_with (first | ((with_reducible refine gate_builtin (b := .append) (xs := #[.tmp 51, .tmp 53]) rfl ?_); (try (refine gate_guard (by rfl) ?_; dsimp only)); at_builtin; refine Kd.Q_append (Kd.int .i64) (w0 := w) w.heap.size rfl (.tmp 51) (.tmp 53) 25 3 (.int .i64 0) 8 rfl Tryd.underlying25 info3 rfl (by decide) (by omega) u7 x7_9 x25_1 [.int .i64 x25_1] (fun _ => True) (fun _ => False) rfl rfl ?aP (fun _ hk => hk.elim) ?aF ?aO ?aB ?aS ?aL ?_; (case aP => exact rfl); (case aB => exact (by repeat (first | (with_reducible first | exact HB.out | apply below_alloc | apply pw_below_drewN | apply below_drew1) | exact HB.out))); (case aF => exact (fun _ _ => trivial)); (case aO => exact (by (with_reducible repeat (first | apply Kd.Q_alloc | apply Kd.Q_drewN | apply Kd.Q_drew)); exact HO_7.out)); (case aS => exact (below_size (by repeat (first | (with_reducible first | exact HB.out | apply below_alloc | apply pw_below_drewN | apply below_drew1) | exact HB.out)))); (case aL => have := LMc23.out; omega); intro v138 w54 ho hb hg hat; rw [← Ny137.out] at ho; have n0_ := Aside0.mk (Kd.R_over' (by (with_reducible repeat (first | apply Kd.R_alloc | apply Kd.R_drewN | apply Kd.R_drew)); exact HO_6.out) (Kd.Q_typed (by (with_reducible repeat (first | apply Kd.Q_alloc | apply Kd.Q_drewN | apply Kd.Q_drew)); exact HO_7.out)) (by decide) hg); have n1_ := Aside0.mk (hb); have n2_ := Aside0.mk (ho); clear HO_6; clear HB; clear HO_7; have HO_6 := n0_; have HB := n1_; have HO139 := n2_; clear n0_ n1_ n2_; clear ho hb hg hat; obtain ⟨Ao55, co55, eo55, _⟩ := Kd.Q_slice HO139.out; subst eo55; have p140 : 0 ≤ (0 : Int) := (by omega); have q140 : 0 < (y137.length : Int) := of_decide_eq_true (by first | (with_reducible assumption) | assumption); obtain ⟨ad140, e140, hx140_0⟩ := Kd.at_int (Kd.Q_reads' HO139.out).2.2 0 p140 q140; cases e140; have qi140 : (0 < y137.length) = True := eq_true (by omega); (try rw [show ((0 : Int)).toNat = 0 from rfl] at hx140_0); (try rw [Addr.add_zero'] at hx140_0); replace p140 := eq_true p140; replace q140 := eq_true q140; have q56 : (1 : Int) ≤ ((y137.length : Int) : Int) := of_decide_eq_true (by first | (with_reducible assumption) | assumption); obtain ⟨i056, hi056, _, hsz56, _⟩ := info_parts info3; have hcut56 := cut_from (P := Tryd.prog) 25 3 .i64 Tryd.underlying25 hi056 1 hsz56 (some ad140) y137.length co55 1 (by omega) q56; have hr56 := Kd.Q_drop (k := (1 : Int).toNat) HO139.out (by omega); obtain ⟨A56, hA56⟩ : ∃ A1, A1 = (if co55 = (1 : Int).toNat then (some ad140) else ((some ad140) : Option Addr).map (·.add ((1 : Int).toNat * 1))) := ⟨_, rfl⟩; obtain ⟨c56, hc56⟩ : ∃ c1, c1 = co55 - (1 : Int).toNat := ⟨_, rfl⟩; have hy56 : y141.length = y137.length - (1 : Int).toNat := (by rw [Ny141.out, List.length_drop]); rw [← Ny141.out] at hr56; rw [← hy56, ← hA56, ← hc56] at hcut56; replace hr56 : Kd.Q (Kd.int .i64) 3 w54 w.heap.size (fun _ => True) (.slice A56 y141.length c56) y141 := (by rw [hA56, hc56, hy56]; exact hr56); have HE56 : Aside0 ((Value.slice A56 y141.length c56).ownBlock = (.slice (some ad140) y137.length co55 : Value).ownBlock) := ⟨by rw [hA56]; split <;> (cases ((some ad140) : Option Addr) <;> rfl)⟩; clear hy56 hi056 hsz56 HO139 hA56 hc56; have HO143 := Aside0.mk hr56; clear hr56; replace q56 := eq_true q56; have p144 : 0 ≤ (0 : Int) := (by omega); have q144 : 0 < (y141.length : Int) := of_decide_eq_true (by first | (with_reducible assumption) | assumption); obtain ⟨ad144, e144, hx144_0⟩ := Kd.at_int (Kd.Q_reads' HO143.out).2.2 0 p144 q144; cases e144; have qi144 : (0 < y141.length) = True := eq_true (by omega); (try rw [show ((0 : Int)).toNat = 0 from rfl] at hx144_0); (try rw [Addr.add_zero'] at hx144_0); replace p144 := eq_true p144; replace q144 := eq_true q144))
                                go_roundg kj9
                                case measure => have := HK1.out; have := HJ9.out; omega
                                case rel => exact ⟨(x6_1), (y141), (wrap64 (x25_1 + 1)), (by first | rfl | (simp; done) | (simp [*]; done)), H', ⟨by have := HK1.out; have := HJ9.out; omega⟩, ⟨by (with_reducible repeat (first | apply Kd.R_alloc | apply Kd.R_drewN | apply Kd.R_drew)); exact HO_6.out⟩, ⟨by (with_reducible repeat (first | apply Kd.Q_alloc | apply Kd.Q_drewN | apply Kd.Q_drew)); exact HO143.out⟩, ⟨by repeat (first | (with_reducible first | exact HB.out | apply below_alloc | apply pw_below_drewN | apply below_drew1) | exact HB.out)⟩⟩
                            · rw [if_neg c27] at H
                              exact absurd H (by simp)
                          · rw [if_neg c26] at H
                            exact absurd H (by simp)
                        · rw [if_neg c25] at H
                          have c25b0 : decide ((rd y137 0) ≤ (wrap64 (x25_1 - ji6))) = false := decide_eq_false c25
                          clear c25
                          by_cases c57 : x25_1 ≥ (wrap64 (ji6 - 1))
                          · rw [if_pos c57] at H
                            have c57b0 : decide ((wrap64 (ji6 - 1)) ≤ x25_1) = true := decide_eq_true c57
                            clear c57
                            by_cases c58 : (x6_1.length : Int) = 0
                            · rw [if_pos c58] at H
                              have c58b0 : ((x6_1.length : Int) == 0) = true := beq_iff_eq.mpr c58
                              have c58b1 : ((x6_1.length : Int) != 0) = false := bne_eq_false_iff_eq.mpr c58
                              clear c58
                              by_cases c59 : 0 ≤ (rd y137 0)
                              · rw [if_pos c59] at H
                                have c59b0 : decide (0 ≤ (rd y137 0)) = true := decide_eq_true c59
                                clear c59
                                by_cases c60 : (rd y137 0) < (l0.length : Int)
                                · rw [if_pos c60] at H
                                  have c60b0 : decide ((rd y137 0) < (l0.length : Int)) = true := decide_eq_true c60
                                  clear c60
                                  by_cases c61 : x6_1.length < 8796093022208
                                  · rw [if_pos c61] at H
                                    have LMc61 := Aside0.mk c61
                                    clear c61
                                    obtain ⟨y156, hy156⟩ : ∃ y_ : List (S48), y_ = (x6_1 ++ [(⟨rd l0 (rd y137 0), rd y137 0⟩ : S48)]) := ⟨_, rfl⟩
                                    replace H : (fingerprint_Winnow.l0 kj9 l0 ji6 y156 y137 l0 (l0.length : Int) (wrap64 (x25_1 + 1))) = some (r1, r2) := by first | (rw [hy156]; with_reducible exact H) | (have H2_ := (Option.bind_some _ _).symm.trans H; rw [hy156]; with_reducible exact H2_) | (have H2_ := (Option.bind_some _ _).symm.trans H; with_reducible exact H2_) | with_reducible exact H | (rw [hy156]; exact H) | exact H
                                    have Ny156 := Aside0.mk hy156
                                    clear hy156
                                    have H' := Aside0.mk H
                                    clear H
                                    go_wp2_with (first | ((with_reducible refine gate_builtin (b := .append) (xs := #[.tmp 51, .tmp 53]) rfl ?_); (try (refine gate_guard (by rfl) ?_; dsimp only)); at_builtin; refine Kd.Q_append (Kd.int .i64) (w0 := w) w.heap.size rfl (.tmp 51) (.tmp 53) 25 3 (.int .i64 0) 8 rfl Tryd.underlying25 info3 rfl (by decide) (by omega) u7 x7_9 x25_1 [.int .i64 x25_1] (fun _ => True) (fun _ => False) rfl rfl ?aP (fun _ hk => hk.elim) ?aF ?aO ?aB ?aS ?aL ?_; (case aP => exact rfl); (case aB => exact (by repeat (first | (with_reducible first | exact HB.out | apply below_alloc | apply pw_below_drewN | apply below_drew1) | exact HB.out))); (case aF => exact (fun _ _ => trivial)); (case aO => exact (by (with_reducible repeat (first | apply Kd.Q_alloc | apply Kd.Q_drewN | apply Kd.Q_drew)); exact HO_7.out)); (case aS => exact (below_size (by repeat (first | (with_reducible first | exact HB.out | apply below_alloc | apply pw_below_drewN | apply below_drew1) | exact HB.out)))); (case aL => have := LMc23.out; omega); intro v138 w62 ho hb hg hat; rw [← Ny137.out] at ho; have n0_ := Aside0.mk (Kd.R_over' (by (with_reducible repeat (first | apply Kd.R_alloc | apply Kd.R_drewN | apply Kd.R_drew)); exact HO_6.out) (Kd.Q_typed (by (with_reducible repeat (first | apply Kd.Q_alloc | apply Kd.Q_drewN | apply Kd.Q_drew)); exact HO_7.out)) (by decide) hg); have n1_ := Aside0.mk (hb); have n2_ := Aside0.mk (ho); clear HO_6; clear HB; clear HO_7; have HO_6 := n0_; have HB := n1_; have HO139 := n2_; clear n0_ n1_ n2_; clear ho hb hg hat; obtain ⟨Ao63, co63, eo63, _⟩ := Kd.Q_slice HO139.out; subst eo63; have p140 : 0 ≤ (0 : Int) := (by omega); have q140 : 0 < (y137.length : Int) := of_decide_eq_true (by first | (with_reducible assumption) | assumption); obtain ⟨ad140, e140, hx140_0⟩ := Kd.at_int (Kd.Q_reads' HO139.out).2.2 0 p140 q140; cases e140; have qi140 : (0 < y137.length) = True := eq_true (by omega); (try rw [show ((0 : Int)).toNat = 0 from rfl] at hx140_0); (try rw [Addr.add_zero'] at hx140_0); replace p140 := eq_true p140; replace q140 := eq_true q140; have p154 : 0 ≤ (0 : Int) := (by omega); have q154 : 0 < (y137.length : Int) := of_decide_eq_true (by first | (with_reducible assumption) | assumption); obtain ⟨ad154, e154, hx154_0⟩ := Kd.at_int (Kd.Q_reads' HO139.out).2.2 0 p154 q154; obtain rfl : ad140 = ad154 := (by injection e154); have qi154 : (0 < y137.length) = True := eq_true (by omega); (try rw [show ((0 : Int)).toNat = 0 from rfl] at hx154_0); (try rw [Addr.add_zero'] at hx154_0); replace p154 := eq_true p154; replace q154 := eq_true q154; obtain ⟨Ao64, co64, eo64⟩ := Kd.R_slice HO_6.out; subst eo64; have p155 : 0 ≤ ((rd y137 0) : Int) := of_decide_eq_true (by first | (with_reducible assumption) | assumption); have q155 : (rd y137 0) < (l0.length : Int) := of_decide_eq_true (by first | (with_reducible assumption) | assumption); obtain ⟨ad155, e155, hx155_0⟩ := Kd.at_int HR0.out (rd y137 0) p155 q155; obtain rfl : ad131 = ad155 := (by injection e155); replace hx155_0 := (HB.out.cell (World.block_lt_of_cell? w _ hx155_0)).trans hx155_0; replace p155 := eq_true p155; replace q155 := eq_true q155) | ((with_reducible refine gate_builtin (b := .append) (xs := #[.tmp 87, .tmp 94]) rfl ?_); (try (refine gate_guard (by rfl) ?_; dsimp only)); at_builtin; refine Kd.R_append k48 (w0 := w) w.heap.size rfl (.tmp 87) (.tmp 94) 28 48 (.agg #[(.int .i64 0), (.int .i64 0)]) 16 rfl Tryd.underlying28 info48 rfl (by decide) (by omega) (.slice Ao64 x6_1.length co64) x6_1 (⟨rd l0 (rd y137 0), rd y137 0⟩ : S48) [.int .i64 (rd l0 (rd y137 0)), .int .i64 (rd y137 0)] (fun _ => True) (fun _ => False) rfl rfl ?aP (fun _ hk => hk.elim) ?aF ?aO ?aB ?aS ?aL ?_; (case aP => exact k48_mkM _ _ _ (⟨rd l0 (rd y137 0), rd y137 0⟩ : S48)); (case aB => exact (by repeat (first | (with_reducible first | exact HB.out | apply below_alloc | apply pw_below_drewN | apply below_drew1) | exact HB.out))); (case aF => exact (fun _ _ => trivial)); (case aO => exact (by (with_reducible repeat (first | apply Kd.R_alloc | apply Kd.R_drewN | apply Kd.R_drew)); exact HO_6.out)); (case aS => exact (below_size (by repeat (first | (with_reducible first | exact HB.out | apply below_alloc | apply pw_below_drewN | apply below_drew1) | exact HB.out)))); (case aL => have := LMc61.out; omega); intro v157 w65 ho hb hg hat; rw [← Ny156.out] at ho; have n0_ := Aside0.mk (Kd.Q_over' (by (with_reducible repeat (first | apply Kd.Q_alloc | apply Kd.Q_drewN | apply Kd.Q_drew)); exact HO139.out) (Kd.R_typed (by (with_reducible repeat (first | apply Kd.R_alloc | apply Kd.R_drewN | apply Kd.R_drew)); exact HO_6.out)) (by decide) hg); have n1_ := Aside0.mk (hb); have n2_ := Aside0.mk (ho); clear HO139; clear HB; clear HO_6; have HO139 := n0_; have HB := n1_; have HO158 := n2_; clear n0_ n1_ n2_; clear ho hb hg hat))
                                    go_roundg kj9
                                    case measure => have := HK1.out; have := HJ9.out; omega
                                    case rel => exact ⟨(y156), (y137), (wrap64 (x25_1 + 1)), (by first | rfl | (simp; done) | (simp [*]; done)), H', ⟨by have := HK1.out; have := HJ9.out; omega⟩, ⟨by (with_reducible repeat (first | apply Kd.R_alloc | apply Kd.R_drewN | apply Kd.R_drew)); exact HO158.out⟩, ⟨by (with_reducible repeat (first | apply Kd.Q_alloc | apply Kd.Q_drewN | apply Kd.Q_drew)); exact HO139.out⟩, ⟨by repeat (first | (with_reducible first | exact HB.out | apply below_alloc | apply pw_below_drewN | apply below_drew1) | exact HB.out)⟩⟩
                                  · rw [if_neg c61] at H
                                    exact absurd H (by simp)
                                · rw [if_neg c60] at H
                                  exact absurd H (by simp)
                              · rw [if_neg c59] at H
                                exact absurd H (by simp)
                            · rw [if_neg c58] at H
                              have c58b0 : ((x6_1.length : Int) == 0) = false := beq_eq_false_iff_ne.mpr c58
                              have c58b1 : ((x6_1.length : Int) != 0) = true := bne_iff_ne.mpr c58
                              have c58b2 : ¬ (x6_1 = []) := fun h_ => c58 (by rw [h_]; rfl)
                              obtain ⟨ji66, hji66⟩ : ∃ j_ : Int, (wrap64 ((x6_1.length : Int) - 1)) = j_ := ⟨_, rfl⟩
                              replace H : (if 0 ≤ (ji66) then (if (ji66) < (x6_1.length : Int) then (if ((rd_T48 x6_1 (ji66)).f1) = (rd y137 0) then (fingerprint_Winnow.l0 kj9 l0 ji6 x6_1 y137 l0 (l0.length : Int) (wrap64 (x25_1 + 1))) else (if 0 ≤ (rd y137 0) then (if (rd y137 0) < (l0.length : Int) then (if x6_1.length < 8796093022208 then (fingerprint_Winnow.l0 kj9 l0 ji6 (x6_1 ++ [(⟨rd l0 (rd y137 0), rd y137 0⟩ : S48)]) y137 l0 (l0.length : Int) (wrap64 (x25_1 + 1))) else (none)) else (none)) else (none))) else (none)) else (none)) = some (r1, r2) := by first | (rw [hji66] at H; exact H) | (simp only [hji66] at H ⊢; exact H)
                              have hji66w : (IntKind.i64.wrap ((x6_1.length : Int) - 1)) = ji66 := (i64_w _).trans hji66
                              by_cases c67 : 0 ≤ (ji66)
                              · rw [if_pos c67] at H
                                have c67b0 : decide (0 ≤ (ji66)) = true := decide_eq_true c67
                                clear c67
                                by_cases c68 : (ji66) < (x6_1.length : Int)
                                · rw [if_pos c68] at H
                                  have c68b0 : decide ((ji66) < (x6_1.length : Int)) = true := decide_eq_true c68
                                  clear c68
                                  by_cases c69 : ((rd_T48 x6_1 (ji66)).f1) = (rd y137 0)
                                  · rw [if_pos c69] at H
                                    have c69b0 : (((rd_T48 x6_1 (ji66)).f1) == (rd y137 0)) = true := beq_iff_eq.mpr c69
                                    have c69b1 : (((rd_T48 x6_1 (ji66)).f1) != (rd y137 0)) = false := bne_eq_false_iff_eq.mpr c69
                                    clear c69
                                    have H' := Aside0.mk H
                                    clear H
                                    go_wp2_with (first | ((with_reducible refine gate_builtin (b := .append) (xs := #[.tmp 51, .tmp 53]) rfl ?_); (try (refine gate_guard (by rfl) ?_; dsimp only)); at_builtin; refine Kd.Q_append (Kd.int .i64) (w0 := w) w.heap.size rfl (.tmp 51) (.tmp 53) 25 3 (.int .i64 0) 8 rfl Tryd.underlying25 info3 rfl (by decide) (by omega) u7 x7_9 x25_1 [.int .i64 x25_1] (fun _ => True) (fun _ => False) rfl rfl ?aP (fun _ hk => hk.elim) ?aF ?aO ?aB ?aS ?aL ?_; (case aP => exact rfl); (case aB => exact (by repeat (first | (with_reducible first | exact HB.out | apply below_alloc | apply pw_below_drewN | apply below_drew1) | exact HB.out))); (case aF => exact (fun _ _ => trivial)); (case aO => exact (by (with_reducible repeat (first | apply Kd.Q_alloc | apply Kd.Q_drewN | apply Kd.Q_drew)); exact HO_7.out)); (case aS => exact (below_size (by repeat (first | (with_reducible first | exact HB.out | apply below_alloc | apply pw_below_drewN | apply below_drew1) | exact HB.out)))); (case aL => have := LMc23.out; omega); intro v138 w70 ho hb hg hat; rw [← Ny137.out] at ho; have n0_ := Aside0.mk (Kd.R_over' (by (with_reducible repeat (first | apply Kd.R_alloc | apply Kd.R_drewN | apply Kd.R_drew)); exact HO_6.out) (Kd.Q_typed (by (with_reducible repeat (first | apply Kd.Q_alloc | apply Kd.Q_drewN | apply Kd.Q_drew)); exact HO_7.out)) (by decide) hg); have n1_ := Aside0.mk (hb); have n2_ := Aside0.mk (ho); clear HO_6; clear HB; clear HO_7; have HO_6 := n0_; have HB := n1_; have HO139 := n2_; clear n0_ n1_ n2_; clear ho hb hg hat; obtain ⟨Ao71, co71, eo71, _⟩ := Kd.Q_slice HO139.out; subst eo71; have p140 : 0 ≤ (0 : Int) := (by omega); have q140 : 0 < (y137.length : Int) := of_decide_eq_true (by first | (with_reducible assumption) | assumption); obtain ⟨ad140, e140, hx140_0⟩ := Kd.at_int (Kd.Q_reads' HO139.out).2.2 0 p140 q140; cases e140; have qi140 : (0 < y137.length) = True := eq_true (by omega); (try rw [show ((0 : Int)).toNat = 0 from rfl] at hx140_0); (try rw [Addr.add_zero'] at hx140_0); replace p140 := eq_true p140; replace q140 := eq_true q140; have p154 : 0 ≤ (0 : Int) := (by omega); have q154 : 0 < (y137.length : Int) := of_decide_eq_true (by first | (with_reducible assumption) | assumption); obtain ⟨ad154, e154, hx154_0⟩ := Kd.at_int (Kd.Q_reads' HO139.out).2.2 0 p154 q154; obtain rfl : ad140 = ad154 := (by injection e154); have qi154 : (0 < y137.length) = True := eq_true (by omega); (try rw [show ((0 : Int)).toNat = 0 from rfl] at hx154_0); (try rw [Addr.add_zero'] at hx154_0); replace p154 := eq_true p154; replace q154 := eq_true q154; obtain ⟨Ao72, co72, eo72⟩ := Kd.R_slice HO_6.out; subst eo72; have p159 : 0 ≤ ((ji66) : Int) := of_decide_eq_true (by first | (with_reducible assumption) | assumption); have q159 : (ji66) < (x6_1.length : Int) := of_decide_eq_true (by first | (with_reducible assumption) | assumption); obtain ⟨ad159, e159, hx159_0, hx159_1⟩ := at_T48 (Kd.R_reads' HO_6.out).2.2 (ji66) p159 q159; cases e159; replace p159 := eq_true p159; replace q159 := eq_true q159))
                                    go_roundg kj9
                                    case measure => have := HK1.out; have := HJ9.out; omega
                                    case rel => exact ⟨(x6_1), (y137), (wrap64 (x25_1 + 1)), (by first | rfl | (simp; done) | (simp [*]; done)), H', ⟨by have := HK1.out; have := HJ9.out; omega⟩, ⟨by (with_reducible repeat (first | apply Kd.R_alloc | apply Kd.R_drewN | apply Kd.R_drew)); exact HO_6.out⟩, ⟨by (with_reducible repeat (first | apply Kd.Q_alloc | apply Kd.Q_drewN | apply Kd.Q_drew)); exact HO139.out⟩, ⟨by repeat (first | (with_reducible first | exact HB.out | apply below_alloc | apply pw_below_drewN | apply below_drew1) | exact HB.out)⟩⟩
                                  · rw [if_neg c69] at H
                                    have c69b0 : (((rd_T48 x6_1 (ji66)).f1) == (rd y137 0)) = false := beq_eq_false_iff_ne.mpr c69
                                    have c69b1 : (((rd_T48 x6_1 (ji66)).f1) != (rd y137 0)) = true := bne_iff_ne.mpr c69
                                    by_cases c73 : 0 ≤ (rd y137 0)
                                    · rw [if_pos c73] at H
                                      have c73b0 : decide (0 ≤ (rd y137 0)) = true := decide_eq_true c73
                                      clear c73
                                      by_cases c74 : (rd y137 0) < (l0.length : Int)
                                      · rw [if_pos c74] at H
                                        have c74b0 : decide ((rd y137 0) < (l0.length : Int)) = true := decide_eq_true c74
                                        clear c74
                                        by_cases c75 : x6_1.length < 8796093022208
                                        · rw [if_pos c75] at H
                                          have LMc75 := Aside0.mk c75
                                          clear c75
                                          obtain ⟨y161, hy161⟩ : ∃ y_ : List (S48), y_ = (x6_1 ++ [(⟨rd l0 (rd y137 0), rd y137 0⟩ : S48)]) := ⟨_, rfl⟩
                                          replace H : (fingerprint_Winnow.l0 kj9 l0 ji6 y161 y137 l0 (l0.length : Int) (wrap64 (x25_1 + 1))) = some (r1, r2) := by first | (rw [hy161]; with_reducible exact H) | (have H2_ := (Option.bind_some _ _).symm.trans H; rw [hy161]; with_reducible exact H2_) | (have H2_ := (Option.bind_some _ _).symm.trans H; with_reducible exact H2_) | with_reducible exact H | (rw [hy161]; exact H) | exact H
                                          have Ny161 := Aside0.mk hy161
                                          clear hy161
                                          have H' := Aside0.mk H
                                          clear H
                                          go_wp2_with (first | ((with_reducible refine gate_builtin (b := .append) (xs := #[.tmp 51, .tmp 53]) rfl ?_); (try (refine gate_guard (by rfl) ?_; dsimp only)); at_builtin; refine Kd.Q_append (Kd.int .i64) (w0 := w) w.heap.size rfl (.tmp 51) (.tmp 53) 25 3 (.int .i64 0) 8 rfl Tryd.underlying25 info3 rfl (by decide) (by omega) u7 x7_9 x25_1 [.int .i64 x25_1] (fun _ => True) (fun _ => False) rfl rfl ?aP (fun _ hk => hk.elim) ?aF ?aO ?aB ?aS ?aL ?_; (case aP => exact rfl); (case aB => exact (by repeat (first | (with_reducible first | exact HB.out | apply below_alloc | apply pw_below_drewN | apply below_drew1) | exact HB.out))); (case aF => exact (fun _ _ => trivial)); (case aO => exact (by (with_reducible repeat (first | apply Kd.Q_alloc | apply Kd.Q_drewN | apply Kd.Q_drew)); exact HO_7.out)); (case aS => exact (below_size (by repeat (first | (with_reducible first | exact HB.out | apply below_alloc | apply pw_below_drewN | apply below_drew1) | exact HB.out)))); (case aL => have := LMc23.out; omega); intro v138 w76 ho hb hg hat; rw [← Ny137.out] at ho; have n0_ := Aside0.mk (Kd.R_over' (by (with_reducible repeat (first | apply Kd.R_alloc | apply Kd.R_drewN | apply Kd.R_drew)); exact HO_6.out) (Kd.Q_typed (by (with_reducible repeat (first | apply Kd.Q_alloc | apply Kd.Q_drewN | apply Kd.Q_drew)); exact HO_7.out)) (by decide) hg); have n1_ := Aside0.mk (hb); have n2_ := Aside0.mk (ho); clear HO_6; clear HB; clear HO_7; have HO_6 := n0_; have HB := n1_; have HO139 := n2_; clear n0_ n1_ n2_; clear ho hb hg hat; obtain ⟨Ao77, co77, eo77, _⟩ := Kd.Q_slice HO139.out; subst eo77; have p140 : 0 ≤ (0 : Int) := (by omega); have q140 : 0 < (y137.length : Int) := of_decide_eq_true (by first | (with_reducible assumption) | assumption); obtain ⟨ad140, e140, hx140_0⟩ := Kd.at_int (Kd.Q_reads' HO139.out).2.2 0 p140 q140; cases e140; have qi140 : (0 < y137.length) = True := eq_true (by omega); (try rw [show ((0 : Int)).toNat = 0 from rfl] at hx140_0); (try rw [Addr.add_zero'] at hx140_0); replace p140 := eq_true p140; replace q140 := eq_true q140; have p154 : 0 ≤ (0 : Int) := (by omega); have q154 : 0 < (y137.length : Int) := of_decide_eq_true (by first | (with_reducible assumption) | assumption); obtain ⟨ad154, e154, hx154_0⟩ := Kd.at_int (Kd.Q_reads' HO139.out).2.2 0 p154 q154; obtain rfl : ad140 = ad154 := (by injection e154); have qi154 : (0 < y137.length) = True := eq_true (by omega); (try rw [show ((0 : Int)).toNat = 0 from rfl] at hx154_0); (try rw [Addr.add_zero'] at hx154_0); replace p154 := eq_true p154; replace q154 := eq_true q154; obtain ⟨Ao78, co78, eo78⟩ := Kd.R_slice HO_6.out; subst eo78; have p159 : 0 ≤ ((ji66) : Int) := of_decide_eq_true (by first | (with_reducible assumption) | assumption); have q159 : (ji66) < (x6_1.length : Int) := of_decide_eq_true (by first | (with_reducible assumption) | assumption); obtain ⟨ad159, e159, hx159_0, hx159_1⟩ := at_T48 (Kd.R_reads' HO_6.out).2.2 (ji66) p159 q159; cases e159; replace p159 := eq_true p159; replace q159 := eq_true q159; have p160 : 0 ≤ ((rd y137 0) : Int) := of_decide_eq_true (by first | (with_reducible assumption) | assumption); have q160 : (rd y137 0) < (l0.length : Int) := of_decide_eq_true (by first | (with_reducible assumption) | assumption); obtain ⟨ad160, e160, hx160_0⟩ := Kd.at_int HR0.out (rd y137 0) p160 q160; obtain rfl : ad131 = ad160 := (by injection e160); replace hx160_0 := (HB.out.cell (World.block_lt_of_cell? w _ hx160_0)).trans hx160_0; replace p160 := eq_true p160; replace q160 := eq_true q160) | ((with_reducible refine gate_builtin (b := .append) (xs := #[.tmp 87, .tmp 94]) rfl ?_); (try (refine gate_guard (by rfl) ?_; dsimp only)); at_builtin; refine Kd.R_append k48 (w0 := w) w.heap.size rfl (.tmp 87) (.tmp 94) 28 48 (.agg #[(.int .i64 0), (.int .i64 0)]) 16 rfl Tryd.underlying28 info48 rfl (by decide) (by omega) (.slice (some ad159) x6_1.length co78) x6_1 (⟨rd l0 (rd y137 0), rd y137 0⟩ : S48) [.int .i64 (rd l0 (rd y137 0)), .int .i64 (rd y137 0)] (fun _ => True) (fun _ => False) rfl rfl ?aP (fun _ hk => hk.elim) ?aF ?aO ?aB ?aS ?aL ?_; (case aP => exact k48_mkM _ _ _ (⟨rd l0 (rd y137 0), rd y137 0⟩ : S48)); (case aB => exact (by repeat (first | (with_reducible first | exact HB.out | apply below_alloc | apply pw_below_drewN | apply below_drew1) | exact HB.out))); (case aF => exact (fun _ _ => trivial)); (case aO => exact (by (with_reducible repeat (first | apply Kd.R_alloc | apply Kd.R_drewN | apply Kd.R_drew)); exact HO_6.out)); (case aS => exact (below_size (by repeat (first | (with_reducible first | exact HB.out | apply below_alloc | apply pw_below_drewN | apply below_drew1) | exact HB.out)))); (case aL => have := LMc75.out; omega); intro v162 w79 ho hb hg hat; rw [← Ny161.out] at ho; have n0_ := Aside0.mk (Kd.Q_over' (by (with_reducible repeat (first | apply Kd.Q_alloc | apply Kd.Q_drewN | apply Kd.Q_drew)); exact HO139.out) (Kd.R_typed (by (with_reducible repeat (first | apply Kd.R_alloc | apply Kd.R_drewN | apply Kd.R_drew)); exact HO_6.out)) (by decide) hg); have n1_ := Aside0.mk (hb); have n2_ := Aside0.mk (ho); clear HO139; clear HB; clear HO_6; have HO139 := n0_; have HB := n1_; have HO163 := n2_; clear n0_ n1_ n2_; clear ho hb hg hat))
                                          go_roundg kj9
                                          case measure => have := HK1.out; have := HJ9.out; omega
                                          case rel => exact ⟨(y161), (y137), (wrap64 (x25_1 + 1)), (by first | rfl | (simp; done) | (simp [*]; done)), H', ⟨by have := HK1.out; have := HJ9.out; omega⟩, ⟨by (with_reducible repeat (first | apply Kd.R_alloc | apply Kd.R_drewN | apply Kd.R_drew)); exact HO163.out⟩, ⟨by (with_reducible repeat (first | apply Kd.Q_alloc | apply Kd.Q_drewN | apply Kd.Q_drew)); exact HO139.out⟩, ⟨by repeat (first | (with_reducible first | exact HB.out | apply below_alloc | apply pw_below_drewN | apply below_drew1) | exact HB.out)⟩⟩
                                        · rw [if_neg c75] at H
                                          exact absurd H (by simp)
                                      · rw [if_neg c74] at H
                                        exact absurd H (by simp)
                                    · rw [if_neg c73] at H
                                      exact absurd H (by simp)
                                · rw [if_neg c68] at H
                                  exact absurd H (by simp)
                              · rw [if_neg c67] at H
                                exact absurd H (by simp)
                          · rw [if_neg c57] at H
                            have c57b0 : decide ((wrap64 (ji6 - 1)) ≤ x25_1) = false := decide_eq_false c57
                            clear c57
                            have H' := Aside0.mk H
                            clear H
                            go_wp2_with (first | ((with_reducible refine gate_builtin (b := .append) (xs := #[.tmp 51, .tmp 53]) rfl ?_); (try (refine gate_guard (by rfl) ?_; dsimp only)); at_builtin; refine Kd.Q_append (Kd.int .i64) (w0 := w) w.heap.size rfl (.tmp 51) (.tmp 53) 25 3 (.int .i64 0) 8 rfl Tryd.underlying25 info3 rfl (by decide) (by omega) u7 x7_9 x25_1 [.int .i64 x25_1] (fun _ => True) (fun _ => False) rfl rfl ?aP (fun _ hk => hk.elim) ?aF ?aO ?aB ?aS ?aL ?_; (case aP => exact rfl); (case aB => exact (by repeat (first | (with_reducible first | exact HB.out | apply below_alloc | apply pw_below_drewN | apply below_drew1) | exact HB.out))); (case aF => exact (fun _ _ => trivial)); (case aO => exact (by (with_reducible repeat (first | apply Kd.Q_alloc | apply Kd.Q_drewN | apply Kd.Q_drew)); exact HO_7.out)); (case aS => exact (below_size (by repeat (first | (with_reducible first | exact HB.out | apply below_alloc | apply pw_below_drewN | apply below_drew1) | exact HB.out)))); (case aL => have := LMc23.out; omega); intro v138 w80 ho hb hg hat; rw [← Ny137.out] at ho; have n0_ := Aside0.mk (Kd.R_over' (by (with_reducible repeat (first | apply Kd.R_alloc | apply Kd.R_drewN | apply Kd.R_drew)); exact HO_6.out) (Kd.Q_typed (by (with_reducible repeat (first | apply Kd.Q_alloc | apply Kd.Q_drewN | apply Kd.Q_drew)); exact HO_7.out)) (by decide) hg); have n1_ := Aside0.mk (hb); have n2_ := Aside0.mk (ho); clear HO_6; clear HB; clear HO_7; have HO_6 := n0_; have HB := n1_; have HO139 := n2_; clear n0_ n1_ n2_; clear ho hb hg hat; obtain ⟨Ao81, co81, eo81, _⟩ := Kd.Q_slice HO139.out; subst eo81; have p140 : 0 ≤ (0 : Int) := (by omega); have q140 : 0 < (y137.length : Int) := of_decide_eq_true (by first | (with_reducible assumption) | assumption); obtain ⟨ad140, e140, hx140_0⟩ := Kd.at_int (Kd.Q_reads' HO139.out).2.2 0 p140 q140; cases e140; have qi140 : (0 < y137.length) = True := eq_true (by omega); (try rw [show ((0 : Int)).toNat = 0 from rfl] at hx140_0); (try rw [Addr.add_zero'] at hx140_0); replace p140 := eq_true p140; replace q140 := eq_true q140; have p154 : 0 ≤ (0 : Int) := (by omega); have q154 : 0 < (y137.length : Int) := of_decide_eq_true (by first | (with_reducible assumption) | assumption); obtain ⟨ad154, e154, hx154_0⟩ := Kd.at_int (Kd.Q_reads' HO139.out).2.2 0 p154 q154; obtain rfl : ad140 = ad154 := (by injection e154); have qi154 : (0 < y137.length) = True := eq_true (by omega); (try rw [show ((0 : Int)).toNat = 0 from rfl] at hx154_0); (try rw [Addr.add_zero'] at hx154_0); replace p154 := eq_true p154; replace q154 := eq_true q154))
                            go_roundg kj9
                            case measure => have := HK1.out; have := HJ9.out; omega
                            case rel => exact ⟨(x6_1), (y137), (wrap64 (x25_1 + 1)), (by first | rfl | (simp; done) | (simp [*]; done)), H', ⟨by have := HK1.out; have := HJ9.out; omega⟩, ⟨by (with_reducible repeat (first | apply Kd.R_alloc | apply Kd.R_drewN | apply Kd.R_drew)); exact HO_6.out⟩, ⟨by (with_reducible repeat (first | apply Kd.Q_alloc | apply Kd.Q_drewN | apply Kd.Q_drew)); exact HO139.out⟩, ⟨by repeat (first | (with_reducible first | exact HB.out | apply below_alloc | apply pw_below_drewN | apply below_drew1) | exact HB.out)⟩⟩
                      · rw [if_neg c24] at H
                        exact absurd H (by simp)
                    · rw [if_neg c23] at H
                      exact absurd H (by simp)
              · rw [if_neg c9] at H
                exact absurd H (by simp)
            · rw [if_neg c8] at H
              exact absurd H (by simp)
          · rw [if_neg c7] at H
            have c7b0 : decide (x25_1 < (l0.length : Int)) = false := decide_eq_false c7
            clear c7
            simp only [Option.some.injEq, Prod.mk.injEq] at H
            obtain ⟨rfl, rfl⟩ := H
            go_wp2
            go_ret2
            exact ⟨_, by first | rfl | (simp [errW_none, errW_some] <;> rfl) | (simp only [← hji6]; first | rfl | (simp [errW_none, errW_some] <;> rfl)) | (simp [*, errW_none, errW_some] <;> rfl), by (with_reducible repeat (first | apply Kd.R_alloc | apply Kd.R_drewN | apply Kd.R_drew)); exact HO_6.out, by repeat (first | (with_reducible first | exact HB.out | apply below_alloc | apply pw_below_drewN | apply below_drew1) | exact HB.out)⟩
  · replace c4 := Bool.eq_false_iff.mpr c4
    subst c4
    have H1 : (some (([] : List (S48)), 2)) = some (r1, r2) := by rw [if_neg (show ¬ (false = true) by decide)] at H; exact H
    clear H
    have H := H1
    clear H1
    simp only [Option.some.injEq, Prod.mk.injEq] at H
    obtain ⟨rfl, rfl⟩ := H
    go_enter Tryd.func24, Tryd.ntmps24
    go_wp2_with (first | ((with_reducible refine gate_callee (f := 31) rfl ?_); refine goesL_ (some 13) rfl rfl Tryd.func31 (by kernel_rfl) rfl #[.int .i64 a1] rfl (by (try simp only [List.map_toArray, List.map_cons, List.map_nil]); first | done | rfl | (simp only [List.length_drop, List.length_take]; rfl)) ?_; (with_reducible refine (fingerprint_ranged.calls a1 false _ A3.out).mono ?_); rintro e w' ⟨rfl, ⟨nd, rfl⟩⟩; refine ⟨_, rfl, ?_⟩))
    go_ret2
    exact ⟨_, by first | rfl | (simp [errW_none, errW_some] <;> rfl) | (simp [*, errW_none, errW_some] <;> rfl), by first | exact Kd.R_nil _ _ _ _ _ | exact Kd.N_nil _ _ _ _ _ | exact Kd.V_nil _ _ _ _ _ | exact Kd.Q_nil _ _ _ _ _ | exact Kd.S_nil _ _ _ _ _, by repeat (first | (with_reducible first | exact HB.out | apply below_alloc | apply pw_below_drewN | apply below_drew1) | exact HB.out)⟩

-- NOT PRINTED: function 12 (fingerprint_Marks)

/-! ### assessorref35_Same: function 14 -/
def assessorref35_Same.l0 : Nat → List Int → List Int → Int → Option (Bool)
  | 0, _, _, _ => none
  | k + 1, x0, x1, x5 => if x5 < (x0.length : Int) then (if 0 ≤ x5 then (if x5 < (x1.length : Int) then (if (rd x0 x5) = (rd x1 x5) then (assessorref35_Same.l0 k x0 x1 (wrap64 (x5 + 1))) else (some false)) else (none)) else (none)) else (some true)
def assessorref35_Same.f (k : Nat) (l0 : List Int) (l1 : List Int) : Option (Bool) := if (l0.length : Int) = (l1.length : Int) then (assessorref35_Same.l0 k l0 l1 0) else (some false)
theorem assessorref35_Same.mono_l : ∀ k, (∀ y0 y1 y2, LeO (assessorref35_Same.l0 k y0 y1 y2) (assessorref35_Same.l0 (k + 1) y0 y1 y2))
  | 0 => fun _ _ _ r h => by simp [assessorref35_Same.l0] at h
  | k + 1 => by
    have ih0 := assessorref35_Same.mono_l k
    · intro y0 y1 y2
      unfold assessorref35_Same.l0
      repeat' first
      | (with_reducible exact ih0 _ _ _)
      | (with_reducible exact LeO.refl _)
      | (with_reducible exact LeO.none _)
      | (with_reducible refine LeO.ite ?_ ?_)
      | (with_reducible refine LeO.bind ?_ (fun _ => ?_))
      | exact ih0 _ _ _
      | exact LeO.none _
      | refine LeO.ite ?_ ?_
      | refine LeO.bind ?_ (fun _ => ?_)
theorem assessorref35_Same.mono : ∀ a0 a1 k, LeO (assessorref35_Same.f k a0 a1) (assessorref35_Same.f (k + 1) a0 a1) := by
  intro a0 a1 k
  have ih0 := assessorref35_Same.mono_l k
  unfold assessorref35_Same.f
  repeat' first
      | (with_reducible exact ih0 _ _ _)
      | (with_reducible exact LeO.refl _)
      | (with_reducible exact LeO.none _)
      | (with_reducible refine LeO.ite ?_ ?_)
      | (with_reducible refine LeO.bind ?_ (fun _ => ?_))
      | exact ih0 _ _ _
      | exact LeO.none _
      | refine LeO.ite ?_ ?_
      | refine LeO.bind ?_ (fun _ => ?_)
set_option maxHeartbeats 8000000 in
set_option maxRecDepth 100000 in
theorem assessorref35_Same.calls (k : Nat) (A0 : Option Addr) (c0 : Nat) (l0 : List Int) (A1 : Option Addr) (c1 : Nat) (l1 : List Int) (r : Bool) (w : World) (hr0 : Kd.C (Kd.int .i64) w A0 l0.length l0) (hc0 : l0.length ≤ c0) (hr1 : Kd.C (Kd.int .i64) w A1 l1.length l1) (hc1 : l1.length ≤ c1) (h : assessorref35_Same.f k l0 l1 = some r) :
    Calls Tryd.prog 14 #[.slice A0 l0.length c0, .slice A1 l1.length c1] w fun e w' => e = .returned (.bool r) ∧ Drawn0 w w' := by
  have HR0 := Aside0.mk hr0
  have HC0 := Aside0.mk hc0
  clear hr0 hc0
  have HR1 := Aside0.mk hr1
  have HC1 := Aside0.mk hc1
  clear hr1 hc1
  have H : (if (l0.length : Int) = (l1.length : Int) then (assessorref35_Same.l0 k l0 l1 0) else (some false)) = some r := h
  clear h
  by_cases c3 : (l0.length : Int) = (l1.length : Int)
  · rw [if_pos c3] at H
    have c3b0 : ((l0.length : Int) == (l1.length : Int)) = true := beq_iff_eq.mpr c3
    have c3b1 : ((l0.length : Int) != (l1.length : Int)) = false := bne_eq_false_iff_eq.mpr c3
    have c3b2 : (l0.length == l1.length) = true := by first | simpa using c3 | (simp at c3 ⊢; omega)
    clear c3
    have H' := Aside0.mk H
    clear H
    go_enter Tryd.func14, Tryd.ntmps14
    go_wp2
    repeat (go_quiet (fail); try go_wp2)
    go_loopg [5] k (fun kq v5 w' => ∃ (x5_1 : Int), v5 = .int .i64 x5_1 ∧ Aside0 (assessorref35_Same.l0 kq l0 l1 x5_1 = some r) ∧ Aside0 (kq ≤ k) ∧ Drawn0 w w')
    case atStart => exact ⟨(0), (by first | rfl | (simp; done) | (simp [*]; done)), H', ⟨Nat.le_refl _⟩, by repeat (first | exact Drawn0.refl _ | apply Drawn0.step)⟩
    case round =>
      clear H'
      try clear c1
      try clear p2
      try clear c3
      try clear c3b0
      try clear c3b1
      try clear c3b2
      obtain ⟨x5_1, rfl, HA, HK1, ⟨m1, rfl⟩⟩ := hrel
      cases gk with
      | zero => exact absurd HA.out (by simp [assessorref35_Same.l0])
      | succ k1 =>
        have H := HA.out
        clear HA
        simp only [assessorref35_Same.l0] at H
        by_cases c4 : x5_1 < (l0.length : Int)
        · rw [if_pos c4] at H
          have c4b0 : decide (x5_1 < (l0.length : Int)) = true := decide_eq_true c4
          clear c4
          by_cases c5 : 0 ≤ x5_1
          · rw [if_pos c5] at H
            have c5b0 : decide (0 ≤ x5_1) = true := decide_eq_true c5
            clear c5
            by_cases c6 : x5_1 < (l1.length : Int)
            · rw [if_pos c6] at H
              have c6b0 : decide (x5_1 < (l1.length : Int)) = true := decide_eq_true c6
              clear c6
              by_cases c7 : (rd l0 x5_1) = (rd l1 x5_1)
              · rw [if_pos c7] at H
                have c7b0 : ((rd l0 x5_1) == (rd l1 x5_1)) = true := beq_iff_eq.mpr c7
                have c7b1 : ((rd l0 x5_1) != (rd l1 x5_1)) = false := bne_eq_false_iff_eq.mpr c7
                clear c7
                have H' := Aside0.mk H
                clear H
                have p167 : 0 ≤ (x5_1 : Int) := of_decide_eq_true (by first | (with_reducible assumption) | assumption)
                have q167 : x5_1 < (l0.length : Int) := of_decide_eq_true (by first | (with_reducible assumption) | assumption)
                obtain ⟨ad167, e167, hx167_0⟩ := Kd.at_int HR0.out x5_1 p167 q167
                cases e167
                replace p167 := eq_true p167
                replace q167 := eq_true q167
                have p168 : 0 ≤ (x5_1 : Int) := of_decide_eq_true (by first | (with_reducible assumption) | assumption)
                have q168 : x5_1 < (l1.length : Int) := of_decide_eq_true (by first | (with_reducible assumption) | assumption)
                obtain ⟨ad168, e168, hx168_0⟩ := Kd.at_int HR1.out x5_1 p168 q168
                cases e168
                replace p168 := eq_true p168
                replace q168 := eq_true q168
                go_wp2
                repeat (go_quiet (fail); try go_wp2)
                go_roundg k1
                case measure => have := HK1.out; omega
                case rel => exact ⟨(wrap64 (x5_1 + 1)), (by first | rfl | (simp; done) | (simp [*]; done)), H', ⟨by have := HK1.out; omega⟩, by repeat (first | exact Drawn0.refl _ | apply Drawn0.step)⟩
              · rw [if_neg c7] at H
                have c7b0 : ((rd l0 x5_1) == (rd l1 x5_1)) = false := beq_eq_false_iff_ne.mpr c7
                have c7b1 : ((rd l0 x5_1) != (rd l1 x5_1)) = true := bne_iff_ne.mpr c7
                obtain rfl := Option.some.inj H
                have p167 : 0 ≤ (x5_1 : Int) := of_decide_eq_true (by first | (with_reducible assumption) | assumption)
                have q167 : x5_1 < (l0.length : Int) := of_decide_eq_true (by first | (with_reducible assumption) | assumption)
                obtain ⟨ad167, e167, hx167_0⟩ := Kd.at_int HR0.out x5_1 p167 q167
                cases e167
                replace p167 := eq_true p167
                replace q167 := eq_true q167
                have p168 : 0 ≤ (x5_1 : Int) := of_decide_eq_true (by first | (with_reducible assumption) | assumption)
                have q168 : x5_1 < (l1.length : Int) := of_decide_eq_true (by first | (with_reducible assumption) | assumption)
                obtain ⟨ad168, e168, hx168_0⟩ := Kd.at_int HR1.out x5_1 p168 q168
                cases e168
                replace p168 := eq_true p168
                replace q168 := eq_true q168
                go_wp2
                repeat (go_quiet (fail); try go_wp2)
                go_ret
                exact ⟨by first | rfl | (simp; done) | (simp [*]; done), by repeat (first | exact Drawn0.refl _ | apply Drawn0.step)⟩
            · rw [if_neg c6] at H
              exact absurd H (by simp)
          · rw [if_neg c5] at H
            exact absurd H (by simp)
        · rw [if_neg c4] at H
          have c4b0 : decide (x5_1 < (l0.length : Int)) = false := decide_eq_false c4
          clear c4
          obtain rfl := Option.some.inj H
          go_wp2
          repeat (go_quiet (fail); try go_wp2)
          go_ret
          exact ⟨by first | rfl | (simp; done) | (simp [*]; done), by repeat (first | exact Drawn0.refl _ | apply Drawn0.step)⟩
  · rw [if_neg c3] at H
    have c3b0 : ((l0.length : Int) == (l1.length : Int)) = false := beq_eq_false_iff_ne.mpr c3
    have c3b1 : ((l0.length : Int) != (l1.length : Int)) = true := bne_iff_ne.mpr c3
    have c3b2 : (l0.length == l1.length) = false := by first | simpa using c3 | (simp at c3 ⊢; omega)
    obtain rfl := Option.some.inj H
    go_enter Tryd.func14, Tryd.ntmps14
    go_wp2
    repeat (go_quiet (fail); try go_wp2)
    go_ret
    exact ⟨by first | rfl | (simp; done) | (simp [*]; done), by repeat (first | exact Drawn0.refl _ | apply Drawn0.step)⟩

end Go.Proofs.YtpkjiimcoepjpaaDoor.PFingerprintSymbols
