/- The reference of chapter 43, walked: lines that print.sh printed for this seat, cut. -/
import Derived.Test.YtpkjiimcoepjpaaDoorT2
namespace Go.Proofs.YtpkjiimcoepjpaaDoor.PFingerprintSymbols
open Go.RowKit Go.Proofs.YtpkjiimcoepjpaaDoorW.PrintWords Go.Proofs.YtpkjiimcoepjpaaDoorW.PrintLast Go.Proofs.YtpkjiimcoepjpaaDoorW.PrintMore
attribute [local go_sem] max2_int min2_int max_two min_two max_three min_three max_four min_four
set_option linter.unusedVariables false
set_option linter.unusedSimpArgs false

/-! ### assessorref43_Hash: function 18 -/
def assessorref43_Hash.l0 : Nat → List Int → Int → Int → Option (Int)
  | 0, _, _, _ => none
  | k + 1, x0, x3, x4 => if x4 < (x0.length : Int) then (if 0 ≤ x4 then ((assessorref43_reduce.f (rd x0 x4)).bind fun t326 => (assessorref43_Hash.l0 k x0 (Int.tmod (wrap64 ((wrap64 (x3 * 1000003)) + t326)) 2147483647) (wrap64 (x4 + 1)))) else (none)) else (some x3)
def assessorref43_Hash.f (k : Nat) (l0 : List Int) : Option (Int) := assessorref43_Hash.l0 k l0 0 0
theorem assessorref43_Hash.mono_l : ∀ k, (∀ y0 y1 y2, LeO (assessorref43_Hash.l0 k y0 y1 y2) (assessorref43_Hash.l0 (k + 1) y0 y1 y2))
  | 0 => fun _ _ _ r h => by simp [assessorref43_Hash.l0] at h
  | k + 1 => by
    have ih0 := assessorref43_Hash.mono_l k
    · intro y0 y1 y2
      unfold assessorref43_Hash.l0
      repeat' first
      | (with_reducible exact ih0 _ _ _)
      | (with_reducible exact LeO.refl _)
      | (with_reducible exact LeO.none _)
      | (with_reducible refine LeO.ite ?_ ?_)
      | (with_reducible refine LeO.bind ?_ (fun _ => ?_))
      | exact ih0 _ _ _
      | exact LeO.none _
      | refine LeO.ite ?_ ?_
      | refine LeO.bind ?_ (fun _ => ?_)
theorem assessorref43_Hash.mono : ∀ a0 k, LeO (assessorref43_Hash.f k a0) (assessorref43_Hash.f (k + 1) a0) := by
  intro a0 k
  have ih0 := assessorref43_Hash.mono_l k
  unfold assessorref43_Hash.f
  repeat' first
      | (with_reducible exact ih0 _ _ _)
      | (with_reducible exact LeO.refl _)
      | (with_reducible exact LeO.none _)
      | (with_reducible refine LeO.ite ?_ ?_)
      | (with_reducible refine LeO.bind ?_ (fun _ => ?_))
      | exact ih0 _ _ _
      | exact LeO.none _
      | refine LeO.ite ?_ ?_
      | refine LeO.bind ?_ (fun _ => ?_)
set_option maxHeartbeats 8000000 in
set_option maxRecDepth 100000 in
theorem assessorref43_Hash.calls (k : Nat) (A0 : Option Addr) (c0 : Nat) (l0 : List Int) (r : Int) (w : World) (hr0 : Kd.C (Kd.int .i64) w A0 l0.length l0) (hc0 : l0.length ≤ c0) (h : assessorref43_Hash.f k l0 = some r) :
    Calls Tryd.prog 18 #[.slice A0 l0.length c0] w fun e w' => e = .returned (.int .i64 r) ∧ Drawn0 w w' := by
  have HR0 := Aside0.mk hr0
  have HC0 := Aside0.mk hc0
  clear hr0 hc0
  have H : (assessorref43_Hash.l0 k l0 0 0) = some r := h
  clear h
  have H' := Aside0.mk H
  clear H
  go_enter Tryd.func18, Tryd.ntmps18
  go_wp2
  go_loopg [3, 4] k (fun kq v3 v4 w' => ∃ (x3_1 : Int) (x4_1 : Int), v3 = .int .i64 x3_1 ∧ v4 = .int .i64 x4_1 ∧ Aside0 (assessorref43_Hash.l0 kq l0 x3_1 x4_1 = some r) ∧ Aside0 (kq ≤ k) ∧ Drawn0 w w')
  case atStart => exact ⟨(0), (0), (by first | rfl | (simp; done) | (simp [*]; done)), (by first | rfl | (simp; done) | (simp [*]; done)), H', ⟨Nat.le_refl _⟩, by repeat (first | exact Drawn0.refl _ | apply Drawn0.step)⟩
  case round =>
    clear H'
    try clear c1
    obtain ⟨x3_1, x4_1, rfl, rfl, HA, HK1, ⟨m1, rfl⟩⟩ := hrel
    cases gk with
    | zero => exact absurd HA.out (by simp [assessorref43_Hash.l0])
    | succ k1 =>
      have H := HA.out
      clear HA
      simp only [assessorref43_Hash.l0] at H
      by_cases c2 : x4_1 < (l0.length : Int)
      · rw [if_pos c2] at H
        have c2b0 : decide (x4_1 < (l0.length : Int)) = true := decide_eq_true c2
        clear c2
        by_cases c3 : 0 ≤ x4_1
        · rw [if_pos c3] at H
          have c3b0 : decide (0 ≤ x4_1) = true := decide_eq_true c3
          clear c3
          replace H := Option.bind_eq_some_iff.mp H
          obtain ⟨t326, A40, H⟩ := H
          replace H : (assessorref43_Hash.l0 k1 l0 (Int.tmod (wrap64 ((wrap64 (x3_1 * 1000003)) + t326)) 2147483647) (wrap64 (x4_1 + 1))) = some r := H
          have A4 := Aside0.mk A40
          clear A40
          have H' := Aside0.mk H
          clear H
          have p325 : 0 ≤ (x4_1 : Int) := of_decide_eq_true (by first | (with_reducible assumption) | assumption)
          have q325 : x4_1 < (l0.length : Int) := of_decide_eq_true (by first | (with_reducible assumption) | assumption)
          obtain ⟨ad325, e325, hx325_0⟩ := Kd.at_int HR0.out x4_1 p325 q325
          cases e325
          replace p325 := eq_true p325
          replace q325 := eq_true q325
          go_wp2_with (first | ((with_reducible refine gate_callee (f := 36) rfl ?_); refine goesL_ (some 17) rfl rfl Tryd.func36 (by kernel_rfl) rfl #[.int .i64 (rd l0 x4_1)] rfl (by (try simp only [List.map_toArray, List.map_cons, List.map_nil]); first | done | rfl | (simp only [List.length_drop, List.length_take]; rfl)) ?_; (with_reducible refine (assessorref43_reduce.calls (rd l0 x4_1) t326 _ A4.out).mono ?_); rintro e w' ⟨rfl, ⟨nd, rfl⟩⟩; refine ⟨_, rfl, ?_⟩))
          go_roundg k1
          case measure => have := HK1.out; omega
          case rel => exact ⟨(Int.tmod (wrap64 ((wrap64 (x3_1 * 1000003)) + t326)) 2147483647), (wrap64 (x4_1 + 1)), (by first | rfl | (simp; done) | (simp [*]; done)), (by first | rfl | (simp; done) | (simp [*]; done)), H', ⟨by have := HK1.out; omega⟩, by repeat (first | exact Drawn0.refl _ | apply Drawn0.step)⟩
        · rw [if_neg c3] at H
          exact absurd H (by simp)
      · rw [if_neg c2] at H
        have c2b0 : decide (x4_1 < (l0.length : Int)) = false := decide_eq_false c2
        clear c2
        obtain rfl := Option.some.inj H
        go_wp2
        go_ret
        exact ⟨by first | rfl | (simp; done) | (simp [*]; done), by repeat (first | exact Drawn0.refl _ | apply Drawn0.step)⟩

/-! ### assessorref43_Hashes: function 21 -/
mutual
def assessorref43_Hashes.j0 : Nat → List Int → Int → Bool → Option (List Int × Int)
  | 0, _, _, _ => none
  | k + 1, x0, x1, x13 => if x13 = true then (some ((([] : List Int)), 2)) else (if (x0.length : Int) > 2048 then (some ((([] : List Int)), 8)) else (assessorref43_Hashes.l0 k x0 x1 (([] : List Int)) 0))
def assessorref43_Hashes.l0 : Nat → List Int → Int → List Int → Int → Option (List Int × Int)
  | 0, _, _, _, _ => none
  | k + 1, x0, x1, x6, x7 => if (wrap64 (x7 + x1)) ≤ (x0.length : Int) then (if 0 ≤ x7 then (if x7 ≤ (wrap64 (x7 + x1)) then ((assessorref43_Hash.f k ((x0.take ((wrap64 (x7 + x1)) : Int).toNat).drop (x7 : Int).toNat)).bind fun t337 => (if x6.length < 17592186044416 then (assessorref43_Hashes.l0 k x0 x1 (x6 ++ [t337]) (wrap64 (x7 + 1))) else (none))) else (none)) else (none)) else (some (x6, 0))
end
def assessorref43_Hashes.f (k : Nat) (l0 : List Int) (a1 : Int) : Option (List Int × Int) := if a1 < 1 then (assessorref43_Hashes.j0 k l0 a1 true) else (assessorref43_Hashes.j0 k l0 a1 (decide (a1 > 64)))
theorem assessorref43_Hashes.mono_l : ∀ k, (∀ y0 y1 y2, LeO (assessorref43_Hashes.j0 k y0 y1 y2) (assessorref43_Hashes.j0 (k + 1) y0 y1 y2)) ∧ (∀ y0 y1 y2 y3, LeO (assessorref43_Hashes.l0 k y0 y1 y2 y3) (assessorref43_Hashes.l0 (k + 1) y0 y1 y2 y3))
  | 0 => ⟨fun _ _ _ r h => by simp [assessorref43_Hashes.j0] at h, fun _ _ _ _ r h => by simp [assessorref43_Hashes.l0] at h⟩
  | k + 1 => by
    obtain ⟨ih0, ih1⟩ := assessorref43_Hashes.mono_l k
    refine ⟨?_, ?_⟩
    · intro y0 y1 y2
      unfold assessorref43_Hashes.j0
      repeat' first
      | (with_reducible exact ih0 _ _ _)
      | (with_reducible exact ih1 _ _ _ _)
      | (with_reducible exact assessorref43_Hash.mono _ _)
      | (with_reducible exact LeO.refl _)
      | (with_reducible exact LeO.none _)
      | (with_reducible refine LeO.ite ?_ ?_)
      | (with_reducible refine LeO.bind ?_ (fun _ => ?_))
      | exact ih0 _ _ _
      | exact ih1 _ _ _ _
      | exact assessorref43_Hash.mono _ _
      | exact LeO.none _
      | refine LeO.ite ?_ ?_
      | refine LeO.bind ?_ (fun _ => ?_)
    · intro y0 y1 y2 y3
      unfold assessorref43_Hashes.l0
      repeat' first
      | (with_reducible exact ih0 _ _ _)
      | (with_reducible exact ih1 _ _ _ _)
      | (with_reducible exact assessorref43_Hash.mono _ _)
      | (with_reducible exact LeO.refl _)
      | (with_reducible exact LeO.none _)
      | (with_reducible refine LeO.ite ?_ ?_)
      | (with_reducible refine LeO.bind ?_ (fun _ => ?_))
      | exact ih0 _ _ _
      | exact ih1 _ _ _ _
      | exact assessorref43_Hash.mono _ _
      | exact LeO.none _
      | refine LeO.ite ?_ ?_
      | refine LeO.bind ?_ (fun _ => ?_)
theorem assessorref43_Hashes.mono : ∀ a0 a1 k, LeO (assessorref43_Hashes.f k a0 a1) (assessorref43_Hashes.f (k + 1) a0 a1) := by
  intro a0 a1 k
  obtain ⟨ih0, ih1⟩ := assessorref43_Hashes.mono_l k
  unfold assessorref43_Hashes.f
  repeat' first
      | (with_reducible exact ih0 _ _ _)
      | (with_reducible exact ih1 _ _ _ _)
      | (with_reducible exact assessorref43_Hash.mono _ _)
      | (with_reducible exact LeO.refl _)
      | (with_reducible exact LeO.none _)
      | (with_reducible refine LeO.ite ?_ ?_)
      | (with_reducible refine LeO.bind ?_ (fun _ => ?_))
      | exact ih0 _ _ _
      | exact ih1 _ _ _ _
      | exact assessorref43_Hash.mono _ _
      | exact LeO.none _
      | refine LeO.ite ?_ ?_
      | refine LeO.bind ?_ (fun _ => ?_)
set_option maxHeartbeats 8000000 in
set_option maxRecDepth 100000 in
theorem assessorref43_Hashes.calls (k : Nat) (A0 : Option Addr) (c0 : Nat) (l0 : List Int) (a1 : Int) (r1 : List Int) (r2 : Int) (w : World) (hr0 : Kd.C (Kd.int .i64) w A0 l0.length l0) (hc0 : l0.length ≤ c0) (h : assessorref43_Hashes.f k l0 a1 = some (r1, r2)) :
    Calls Tryd.prog 21 #[.slice A0 l0.length c0, .int .i64 a1] w fun e w' => ∃ v0_ : Value, e = .returned (.tuple #[v0_, .int .i64 r2]) ∧ Kd.R (Kd.int .i64) 3 w' w.heap.size (fun _ => True) v0_ r1 ∧ Below w.heap.size w w' := by
  have HR0 := Aside0.mk hr0
  have HC0 := Aside0.mk hc0
  clear hr0 hc0
  have HB := Aside0.mk (Below.refl w.heap.size w)
  have H : (if a1 < 1 then (assessorref43_Hashes.j0 k l0 a1 true) else (assessorref43_Hashes.j0 k l0 a1 (decide (a1 > 64)))) = some (r1, r2) := h
  clear h
  have HC3 := Aside0.mk H
  clear H
  go_enter Tryd.func21, Tryd.ntmps21
  go_upto_region 1 with (fail)
  go_cut [13] (fun v13 wc => ∃ (kq : Nat) (x13_2 : Bool), v13 = .bool x13_2 ∧ Aside0 (assessorref43_Hashes.j0 kq l0 a1 x13_2 = some (r1, r2)) ∧ Aside0 (kq ≤ k) ∧ Aside0 (Below w.heap.size w wc))
  case first =>
    have H := HC3.out
    clear HC3
    by_cases c4 : a1 < 1
    · rw [if_pos c4] at H
      have c4b0 : decide (a1 < 1) = true := decide_eq_true c4
      clear c4
      (first | rw [c4b0] | (simp only [i64_w, i32_w]; rw [c4b0]) | skip)
      have H' := Aside0.mk H
      clear H
      go_wp2
      go_meet
      case rel => exact ⟨_, (true), (by first | rfl | (simp; done) | (simp [*]; done)), H', ⟨by first | omega | exact Nat.le_refl _⟩, ⟨by repeat (first | (with_reducible first | exact HB.out | apply below_alloc | apply pw_below_drewN | apply below_drew1) | exact HB.out)⟩⟩
    · rw [if_neg c4] at H
      have c4b0 : decide (a1 < 1) = false := decide_eq_false c4
      clear c4
      (first | rw [c4b0] | (simp only [i64_w, i32_w]; rw [c4b0]) | skip)
      have H' := Aside0.mk H
      clear H
      go_wp2
      go_meet
      case rel => exact ⟨_, (decide (a1 > 64)), (by first | rfl | (simp; done) | (simp [*]; done)), H', ⟨by first | omega | exact Nat.le_refl _⟩, ⟨by repeat (first | (with_reducible first | exact HB.out | apply below_alloc | apply pw_below_drewN | apply below_drew1) | exact HB.out)⟩⟩
  case rest =>
    clear HC3
    try clear c2
    try clear p2
    try clear c4
    try clear c4b0
    obtain ⟨kq, x13_2, rfl, HA, HJ2, HB⟩ := hcut
    cases kq with
    | zero => exact absurd HA.out (by simp [assessorref43_Hashes.j0])
    | succ kj2 =>
      have H := HA.out
      clear HA
      simp only [assessorref43_Hashes.j0] at H
      by_cases c5 : x13_2 = true
      · subst c5
        have H1 : (some ((([] : List Int)), 2)) = some (r1, r2) := by rw [if_pos rfl] at H; exact H
        clear H
        have H := H1
        clear H1
        obtain ⟨y327, hy327⟩ : ∃ y_ : List Int, y_ = (([] : List Int)) := ⟨_, rfl⟩
        replace H : (some (y327, 2)) = some (r1, r2) := by first | (rw [hy327]; with_reducible exact H) | (have H2_ := (Option.bind_some _ _).symm.trans H; rw [hy327]; with_reducible exact H2_) | (have H2_ := (Option.bind_some _ _).symm.trans H; with_reducible exact H2_) | with_reducible exact H | (rw [hy327]; exact H) | exact H
        have Ny327 := Aside0.mk hy327
        clear hy327
        simp only [Option.some.injEq, Prod.mk.injEq] at H
        obtain ⟨rfl, rfl⟩ := H
        go_wp2_with (first | ((with_reducible refine gate_dst (N := 14) rfl ?_); refine Kd.R_lit (Kd.int .i64) _ 3 ?hg (N := 14) ?hd (xs := ([] : List Int)) (inner := []) (ok := fun _ => True) (okp := fun _ => True) ?hr ?hp (fun _ hk => hk) trivial (Below.refl _ _) (Nat.le_refl _) (by simp) ?_; (case hd => rfl); (case hg => rfl); (case hr => first | (go_simp; done) | (go_simp; rfl)); (case hp => exact (Reps.none _ _)); intro v328 w6 ho7 hb hg_ hnew_; clear hg_ hnew_; (first | rw [← Ny327.out] at ho7 | (simp only [Int.reduceToNat] at ho7; rw [← Ny327.out] at ho7)); have n0_ := Aside0.mk (Kd.R_lower ho7 (below_size (by repeat (first | (with_reducible first | exact HB.out | apply below_alloc | apply pw_below_drewN | apply below_drew1) | exact HB.out)))); have n1_ := Aside0.mk (below_step (by repeat (first | (with_reducible first | exact HB.out | apply below_alloc | apply pw_below_drewN | apply below_drew1) | exact HB.out)) hb); clear HB; have HO329 := n0_; have HB := n1_; clear n0_ n1_; clear hb ho7))
        go_ret2
        exact ⟨_, by first | rfl | (simp [errW_none, errW_some] <;> rfl) | (simp [*, errW_none, errW_some] <;> rfl), by (with_reducible repeat (first | apply Kd.R_alloc | apply Kd.R_drewN | apply Kd.R_drew)); exact HO329.out, by repeat (first | (with_reducible first | exact HB.out | apply below_alloc | apply pw_below_drewN | apply below_drew1) | exact HB.out)⟩
      · replace c5 := Bool.eq_false_iff.mpr c5
        subst c5
        have H1 : (if (l0.length : Int) > 2048 then (some ((([] : List Int)), 8)) else (assessorref43_Hashes.l0 kj2 l0 a1 (([] : List Int)) 0)) = some (r1, r2) := by rw [if_neg (show ¬ (false = true) by decide)] at H; exact H
        clear H
        have H := H1
        clear H1
        by_cases c8 : (l0.length : Int) > 2048
        · rw [if_pos c8] at H
          have c8b0 : decide (2048 < (l0.length : Int)) = true := decide_eq_true c8
          have c8b1 : decide (2048 < l0.length) = true := decide_eq_true (by omega)
          clear c8
          obtain ⟨y330, hy330⟩ : ∃ y_ : List Int, y_ = (([] : List Int)) := ⟨_, rfl⟩
          replace H : (some (y330, 8)) = some (r1, r2) := by first | (rw [hy330]; with_reducible exact H) | (have H2_ := (Option.bind_some _ _).symm.trans H; rw [hy330]; with_reducible exact H2_) | (have H2_ := (Option.bind_some _ _).symm.trans H; with_reducible exact H2_) | with_reducible exact H | (rw [hy330]; exact H) | exact H
          have Ny330 := Aside0.mk hy330
          clear hy330
          simp only [Option.some.injEq, Prod.mk.injEq] at H
          obtain ⟨rfl, rfl⟩ := H
          go_wp2_with (first | ((with_reducible refine gate_dst (N := 18) rfl ?_); refine Kd.R_lit (Kd.int .i64) _ 3 ?hg (N := 18) ?hd (xs := ([] : List Int)) (inner := []) (ok := fun _ => True) (okp := fun _ => True) ?hr ?hp (fun _ hk => hk) trivial (Below.refl _ _) (Nat.le_refl _) (by simp) ?_; (case hd => rfl); (case hg => rfl); (case hr => first | (go_simp; done) | (go_simp; rfl)); (case hp => exact (Reps.none _ _)); intro v331 w9 ho10 hb hg_ hnew_; clear hg_ hnew_; (first | rw [← Ny330.out] at ho10 | (simp only [Int.reduceToNat] at ho10; rw [← Ny330.out] at ho10)); have n0_ := Aside0.mk (Kd.R_lower ho10 (below_size (by repeat (first | (with_reducible first | exact HB.out | apply below_alloc | apply pw_below_drewN | apply below_drew1) | exact HB.out)))); have n1_ := Aside0.mk (below_step (by repeat (first | (with_reducible first | exact HB.out | apply below_alloc | apply pw_below_drewN | apply below_drew1) | exact HB.out)) hb); clear HB; have HO332 := n0_; have HB := n1_; clear n0_ n1_; clear hb ho10))
          go_ret2
          exact ⟨_, by first | rfl | (simp [errW_none, errW_some] <;> rfl) | (simp [*, errW_none, errW_some] <;> rfl), by (with_reducible repeat (first | apply Kd.R_alloc | apply Kd.R_drewN | apply Kd.R_drew)); exact HO332.out, by repeat (first | (with_reducible first | exact HB.out | apply below_alloc | apply pw_below_drewN | apply below_drew1) | exact HB.out)⟩
        · rw [if_neg c8] at H
          have c8b0 : decide (2048 < (l0.length : Int)) = false := decide_eq_false c8
          have c8b1 : decide (2048 < l0.length) = false := decide_eq_false (by omega)
          clear c8
          obtain ⟨y333, hy333⟩ : ∃ y_ : List Int, y_ = (([] : List Int)) := ⟨_, rfl⟩
          replace H : (assessorref43_Hashes.l0 kj2 l0 a1 y333 0) = some (r1, r2) := by first | (rw [hy333]; with_reducible exact H) | (have H2_ := (Option.bind_some _ _).symm.trans H; rw [hy333]; with_reducible exact H2_) | (have H2_ := (Option.bind_some _ _).symm.trans H; with_reducible exact H2_) | with_reducible exact H | (rw [hy333]; exact H) | exact H
          have Ny333 := Aside0.mk hy333
          clear hy333
          have H' := Aside0.mk H
          clear H
          go_wp2_with (first | ((with_reducible refine gate_dst (N := 19) rfl ?_); refine Kd.R_lit (Kd.int .i64) _ 3 ?hg (N := 19) ?hd (xs := ([] : List Int)) (inner := []) (ok := fun _ => True) (okp := fun _ => True) ?hr ?hp (fun _ hk => hk) trivial (Below.refl _ _) (Nat.le_refl _) (by simp) ?_; (case hd => rfl); (case hg => rfl); (case hr => first | (go_simp; done) | (go_simp; rfl)); (case hp => exact (Reps.none _ _)); intro v334 w11 ho12 hb hg_ hnew_; clear hg_ hnew_; (first | rw [← Ny333.out] at ho12 | (simp only [Int.reduceToNat] at ho12; rw [← Ny333.out] at ho12)); have n0_ := Aside0.mk (Kd.R_lower ho12 (below_size (by repeat (first | (with_reducible first | exact HB.out | apply below_alloc | apply pw_below_drewN | apply below_drew1) | exact HB.out)))); have n1_ := Aside0.mk (below_step (by repeat (first | (with_reducible first | exact HB.out | apply below_alloc | apply pw_below_drewN | apply below_drew1) | exact HB.out)) hb); clear HB; have HO335 := n0_; have HB := n1_; clear n0_ n1_; clear hb ho12))
          go_loopg [6, 7] kj2 (fun kq v6 v7 w' => ∃ (x6_2 : List Int) (x7_2 : Int), v7 = .int .i64 x7_2 ∧ Aside0 (assessorref43_Hashes.l0 kq l0 a1 x6_2 x7_2 = some (r1, r2)) ∧ Aside0 (kq ≤ kj2) ∧ Aside0 (Kd.R (Kd.int .i64) 3 w' w.heap.size (fun _ => True) v6 x6_2) ∧ Aside0 (Below w.heap.size w w'))
          case atStart => exact ⟨(y333), (0), (by first | rfl | (simp; done) | (simp [*]; done)), H', ⟨Nat.le_refl _⟩, ⟨by (with_reducible repeat (first | apply Kd.R_alloc | apply Kd.R_drewN | apply Kd.R_drew)); exact HO335.out⟩, ⟨by repeat (first | (with_reducible first | exact HB.out | apply below_alloc | apply pw_below_drewN | apply below_drew1) | exact HB.out)⟩⟩
          case round =>
            clear H'
            try clear c2
            try clear p2
            try clear c4
            try clear c4b0
            try clear c5
            try clear c8
            try clear c8b0
            try clear c8b1
            try clear p2
            obtain ⟨x6_2, x7_2, rfl, HA, HK2, HO_6, HB⟩ := hrel
            cases gk with
            | zero => exact absurd HA.out (by simp [assessorref43_Hashes.l0])
            | succ k2 =>
              have H := HA.out
              clear HA
              simp only [assessorref43_Hashes.l0] at H
              by_cases c13 : (wrap64 (x7_2 + a1)) ≤ (l0.length : Int)
              · rw [if_pos c13] at H
                have c13b0 : decide ((wrap64 (x7_2 + a1)) ≤ (l0.length : Int)) = true := decide_eq_true c13
                clear c13
                by_cases c14 : 0 ≤ x7_2
                · rw [if_pos c14] at H
                  have c14b0 := eq_true c14
                  have c14b1 : decide (0 ≤ x7_2) = true := decide_eq_true c14
                  clear c14
                  by_cases c15 : x7_2 ≤ (wrap64 (x7_2 + a1))
                  · rw [if_pos c15] at H
                    have c15b0 := eq_true c15
                    have c15b1 : decide (x7_2 ≤ (wrap64 (x7_2 + a1))) = true := decide_eq_true c15
                    have c16b0 := eq_true (of_decide_eq_true (by first | (with_reducible assumption) | assumption) : (wrap64 (x7_2 + a1)) ≤ (l0.length : Int))
                    replace H := Option.bind_eq_some_iff.mp H
                    obtain ⟨t337, A170, H⟩ := H
                    replace H : (if x6_2.length < 17592186044416 then (assessorref43_Hashes.l0 k2 l0 a1 (x6_2 ++ [t337]) (wrap64 (x7_2 + 1))) else (none)) = some (r1, r2) := H
                    have A17 := Aside0.mk A170
                    clear A170
                    by_cases c18 : x6_2.length < 17592186044416
                    · rw [if_pos c18] at H
                      have LMc18 := Aside0.mk c18
                      clear c18
                      obtain ⟨y338, hy338⟩ : ∃ y_ : List Int, y_ = (x6_2 ++ [t337]) := ⟨_, rfl⟩
                      replace H : (assessorref43_Hashes.l0 k2 l0 a1 y338 (wrap64 (x7_2 + 1))) = some (r1, r2) := by first | (rw [hy338]; with_reducible exact H) | (have H2_ := (Option.bind_some _ _).symm.trans H; rw [hy338]; with_reducible exact H2_) | (have H2_ := (Option.bind_some _ _).symm.trans H; with_reducible exact H2_) | with_reducible exact H | (rw [hy338]; exact H) | exact H
                      have Ny338 := Aside0.mk hy338
                      clear hy338
                      have H' := Aside0.mk H
                      clear H
                      obtain ⟨i019, hi019, _, hsz19, _⟩ := info_parts info3
                      obtain ⟨A19, hcut19, hA19, hC19⟩ := print_mid_of (P := Tryd.prog) (Value.int .i64) 0 25 3 .i64 .i64 Tryd.underlying25 hi019 hsz19 A0 c0 l0 x7_2 (wrap64 (x7_2 + a1)) (of_decide_eq_true (by first | (with_reducible assumption) | assumption)) (by first | omega | exact of_decide_eq_true (by first | (with_reducible assumption) | assumption)) (of_decide_eq_true (by first | (with_reducible assumption) | assumption)) HC0.out
                      have HR336 := Aside0.mk (Kd.C_of_reads (h1 := fun _ => rfl) (hA19 _ (Kd.reads_of_C HR0.out)))
                      have HC336 := Aside0.mk hC19
                      clear hA19 hC19 hi019 hsz19
                      go_wp2_with (first | ((with_reducible refine gate_callee (f := 18) rfl ?_); refine goesL_ (some 35) rfl rfl Tryd.func18 (by kernel_rfl) rfl #[.slice A19 ((l0.take ((wrap64 (x7_2 + a1)) : Int).toNat).drop (x7_2 : Int).toNat).length (c0 - x7_2.toNat)] rfl (by (try simp only [List.map_toArray, List.map_cons, List.map_nil]); first | done | (rw [show ((l0.take ((wrap64 (x7_2 + a1)) : Int).toNat).drop (x7_2 : Int).toNat).length = ((wrap64 (x7_2 + a1)).toNat - x7_2.toNat) from (by rw [List.length_drop, List.length_take]; have h_ : ((wrap64 (x7_2 + a1)) : Int) ≤ (l0.length : Int) := of_decide_eq_true (by first | (with_reducible assumption) | assumption); omega)] <;> rfl) | rfl | (simp only [List.length_drop, List.length_take]; rfl)) ?_; (with_reducible refine (assessorref43_Hash.calls k2 _ _ ((l0.take ((wrap64 (x7_2 + a1)) : Int).toNat).drop (x7_2 : Int).toNat) t337 _ ?side1 ?side2 A17.out).mono ?_); (case side1 => repeat (first | exact (Kd.C_below HR336.out HB.out) | (with_reducible refine Kd.C_alloc ?_ _) | (with_reducible refine Kd.C_drewN ?_ _) | (with_reducible refine Kd.C_drew ?_))); (case side2 => exact HC336.out); rintro e w' ⟨rfl, ⟨nd, rfl⟩⟩; refine ⟨_, rfl, ?_⟩) | ((with_reducible refine gate_builtin (b := .append) (xs := #[.tmp 28, .tmp 36]) rfl ?_); at_builtin; refine Kd.R_append (Kd.int .i64) (w0 := w) w.heap.size rfl (.tmp 28) (.tmp 36) 25 3 (.int .i64 0) 8 rfl Tryd.underlying25 info3 rfl (by decide) (by omega) u6 x6_2 t337 [.int .i64 t337] (fun _ => True) (fun _ => False) rfl rfl ?aP (fun _ hk => hk.elim) ?aF ?aO ?aB ?aS ?aL ?_; (case aP => exact rfl); (case aB => exact (by repeat (first | (with_reducible first | exact HB.out | apply below_alloc | apply pw_below_drewN | apply below_drew1) | exact HB.out))); (case aF => exact (fun _ _ => trivial)); (case aO => exact (by (with_reducible repeat (first | apply Kd.R_alloc | apply Kd.R_drewN | apply Kd.R_drew)); exact HO_6.out)); (case aS => exact (below_size (by repeat (first | (with_reducible first | exact HB.out | apply below_alloc | apply pw_below_drewN | apply below_drew1) | exact HB.out)))); (case aL => have := LMc18.out; omega); intro v339 w20 ho hb hg hat; rw [← Ny338.out] at ho; have n0_ := Aside0.mk (hb); have n1_ := Aside0.mk (ho); clear HB; clear HO_6; have HB := n0_; have HO340 := n1_; clear n0_ n1_; clear ho hb hg hat))
                      go_roundg k2
                      case measure => have := HJ2.out; have := HK2.out; omega
                      case rel => exact ⟨(y338), (wrap64 (x7_2 + 1)), (by first | rfl | (simp; done) | (simp [*]; done)), H', ⟨by have := HJ2.out; have := HK2.out; omega⟩, ⟨by (with_reducible repeat (first | apply Kd.R_alloc | apply Kd.R_drewN | apply Kd.R_drew)); exact HO340.out⟩, ⟨by repeat (first | (with_reducible first | exact HB.out | apply below_alloc | apply pw_below_drewN | apply below_drew1) | exact HB.out)⟩⟩
                    · rw [if_neg c18] at H
                      exact absurd H (by simp)
                  · rw [if_neg c15] at H
                    exact absurd H (by simp)
                · rw [if_neg c14] at H
                  exact absurd H (by simp)
              · rw [if_neg c13] at H
                have c13b0 : decide ((wrap64 (x7_2 + a1)) ≤ (l0.length : Int)) = false := decide_eq_false c13
                clear c13
                simp only [Option.some.injEq, Prod.mk.injEq] at H
                obtain ⟨rfl, rfl⟩ := H
                go_wp2
                go_ret2
                exact ⟨_, by first | rfl | (simp [errW_none, errW_some] <;> rfl) | (simp [*, errW_none, errW_some] <;> rfl), by (with_reducible repeat (first | apply Kd.R_alloc | apply Kd.R_drewN | apply Kd.R_drew)); exact HO_6.out, by repeat (first | (with_reducible first | exact HB.out | apply below_alloc | apply pw_below_drewN | apply below_drew1) | exact HB.out)⟩

/-! ### assessorref43_least: function 38 -/
def assessorref43_least.l0 : Nat → List Int → Int → Int → Int → Option (Int)
  | 0, _, _, _, _ => none
  | k + 1, x0, x2, x7, x8 => if x8 < x2 then (if 0 ≤ x8 then (if x8 < (x0.length : Int) then (if 0 ≤ x7 then (if x7 < (x0.length : Int) then (if (rd x0 x8) ≤ (rd x0 x7) then (assessorref43_least.l0 k x0 x2 x8 (wrap64 (x8 + 1))) else (assessorref43_least.l0 k x0 x2 x7 (wrap64 (x8 + 1)))) else (none)) else (none)) else (none)) else (none)) else (some x7)
def assessorref43_least.f (k : Nat) (l0 : List Int) (a1 : Int) (a2 : Int) : Option (Int) := assessorref43_least.l0 k l0 a2 a1 a1
theorem assessorref43_least.mono_l : ∀ k, (∀ y0 y1 y2 y3, LeO (assessorref43_least.l0 k y0 y1 y2 y3) (assessorref43_least.l0 (k + 1) y0 y1 y2 y3))
  | 0 => fun _ _ _ _ r h => by simp [assessorref43_least.l0] at h
  | k + 1 => by
    have ih0 := assessorref43_least.mono_l k
    · intro y0 y1 y2 y3
      unfold assessorref43_least.l0
      repeat' first
      | (with_reducible exact ih0 _ _ _ _)
      | (with_reducible exact LeO.refl _)
      | (with_reducible exact LeO.none _)
      | (with_reducible refine LeO.ite ?_ ?_)
      | (with_reducible refine LeO.bind ?_ (fun _ => ?_))
      | exact ih0 _ _ _ _
      | exact LeO.none _
      | refine LeO.ite ?_ ?_
      | refine LeO.bind ?_ (fun _ => ?_)
theorem assessorref43_least.mono : ∀ a0 a1 a2 k, LeO (assessorref43_least.f k a0 a1 a2) (assessorref43_least.f (k + 1) a0 a1 a2) := by
  intro a0 a1 a2 k
  have ih0 := assessorref43_least.mono_l k
  unfold assessorref43_least.f
  repeat' first
      | (with_reducible exact ih0 _ _ _ _)
      | (with_reducible exact LeO.refl _)
      | (with_reducible exact LeO.none _)
      | (with_reducible refine LeO.ite ?_ ?_)
      | (with_reducible refine LeO.bind ?_ (fun _ => ?_))
      | exact ih0 _ _ _ _
      | exact LeO.none _
      | refine LeO.ite ?_ ?_
      | refine LeO.bind ?_ (fun _ => ?_)
set_option maxHeartbeats 8000000 in
set_option maxRecDepth 100000 in
theorem assessorref43_least.calls (k : Nat) (A0 : Option Addr) (c0 : Nat) (l0 : List Int) (a1 : Int) (a2 : Int) (r : Int) (w : World) (hr0 : Kd.C (Kd.int .i64) w A0 l0.length l0) (hc0 : l0.length ≤ c0) (h : assessorref43_least.f k l0 a1 a2 = some r) :
    Calls Tryd.prog 38 #[.slice A0 l0.length c0, .int .i64 a1, .int .i64 a2] w fun e w' => e = .returned (.int .i64 r) ∧ Drawn0 w w' := by
  have HR0 := Aside0.mk hr0
  have HC0 := Aside0.mk hc0
  clear hr0 hc0
  have H : (assessorref43_least.l0 k l0 a2 a1 a1) = some r := h
  clear h
  have H' := Aside0.mk H
  clear H
  go_enter Tryd.func38, Tryd.ntmps38
  go_wp2
  repeat (go_quiet (fail); try go_wp2)
  go_loopg [7, 8] k (fun kq v7 v8 w' => ∃ (x7_1 : Int) (x8_1 : Int), v7 = .int .i64 x7_1 ∧ v8 = .int .i64 x8_1 ∧ Aside0 (assessorref43_least.l0 kq l0 a2 x7_1 x8_1 = some r) ∧ Aside0 (kq ≤ k) ∧ Drawn0 w w')
  case atStart => exact ⟨(a1), (a1), (by first | rfl | (simp; done) | (simp [*]; done)), (by first | rfl | (simp; done) | (simp [*]; done)), H', ⟨Nat.le_refl _⟩, by repeat (first | exact Drawn0.refl _ | apply Drawn0.step)⟩
  case round =>
    clear H'
    try clear p2
    try clear c3
    obtain ⟨x7_1, x8_1, rfl, rfl, HA, HK1, ⟨m1, rfl⟩⟩ := hrel
    cases gk with
    | zero => exact absurd HA.out (by simp [assessorref43_least.l0])
    | succ k1 =>
      have H := HA.out
      clear HA
      simp only [assessorref43_least.l0] at H
      by_cases c4 : x8_1 < a2
      · rw [if_pos c4] at H
        have c4b0 : decide (x8_1 < a2) = true := decide_eq_true c4
        clear c4
        by_cases c5 : 0 ≤ x8_1
        · rw [if_pos c5] at H
          have c5b0 : decide (0 ≤ x8_1) = true := decide_eq_true c5
          clear c5
          by_cases c6 : x8_1 < (l0.length : Int)
          · rw [if_pos c6] at H
            have c6b0 : decide (x8_1 < (l0.length : Int)) = true := decide_eq_true c6
            clear c6
            by_cases c7 : 0 ≤ x7_1
            · rw [if_pos c7] at H
              have c7b0 : decide (0 ≤ x7_1) = true := decide_eq_true c7
              clear c7
              by_cases c8 : x7_1 < (l0.length : Int)
              · rw [if_pos c8] at H
                have c8b0 : decide (x7_1 < (l0.length : Int)) = true := decide_eq_true c8
                clear c8
                by_cases c9 : (rd l0 x8_1) ≤ (rd l0 x7_1)
                · rw [if_pos c9] at H
                  have c9b0 : decide ((rd l0 x8_1) ≤ (rd l0 x7_1)) = true := decide_eq_true c9
                  clear c9
                  have H' := Aside0.mk H
                  clear H
                  have p341 : 0 ≤ (x8_1 : Int) := of_decide_eq_true (by first | (with_reducible assumption) | assumption)
                  have q341 : x8_1 < (l0.length : Int) := of_decide_eq_true (by first | (with_reducible assumption) | assumption)
                  obtain ⟨ad341, e341, hx341_0⟩ := Kd.at_int HR0.out x8_1 p341 q341
                  cases e341
                  replace p341 := eq_true p341
                  replace q341 := eq_true q341
                  have p342 : 0 ≤ (x7_1 : Int) := of_decide_eq_true (by first | (with_reducible assumption) | assumption)
                  have q342 : x7_1 < (l0.length : Int) := of_decide_eq_true (by first | (with_reducible assumption) | assumption)
                  obtain ⟨ad342, e342, hx342_0⟩ := Kd.at_int HR0.out x7_1 p342 q342
                  obtain rfl : ad341 = ad342 := (by injection e342)
                  replace p342 := eq_true p342
                  replace q342 := eq_true q342
                  go_wp2
                  repeat (go_quiet (fail); try go_wp2)
                  go_roundg k1
                  case measure => have := HK1.out; omega
                  case rel => exact ⟨(x8_1), (wrap64 (x8_1 + 1)), (by first | rfl | (simp; done) | (simp [*]; done)), (by first | rfl | (simp; done) | (simp [*]; done)), H', ⟨by have := HK1.out; omega⟩, by repeat (first | exact Drawn0.refl _ | apply Drawn0.step)⟩
                · rw [if_neg c9] at H
                  have c9b0 : decide ((rd l0 x8_1) ≤ (rd l0 x7_1)) = false := decide_eq_false c9
                  clear c9
                  have H' := Aside0.mk H
                  clear H
                  have p341 : 0 ≤ (x8_1 : Int) := of_decide_eq_true (by first | (with_reducible assumption) | assumption)
                  have q341 : x8_1 < (l0.length : Int) := of_decide_eq_true (by first | (with_reducible assumption) | assumption)
                  obtain ⟨ad341, e341, hx341_0⟩ := Kd.at_int HR0.out x8_1 p341 q341
                  cases e341
                  replace p341 := eq_true p341
                  replace q341 := eq_true q341
                  have p342 : 0 ≤ (x7_1 : Int) := of_decide_eq_true (by first | (with_reducible assumption) | assumption)
                  have q342 : x7_1 < (l0.length : Int) := of_decide_eq_true (by first | (with_reducible assumption) | assumption)
                  obtain ⟨ad342, e342, hx342_0⟩ := Kd.at_int HR0.out x7_1 p342 q342
                  obtain rfl : ad341 = ad342 := (by injection e342)
                  replace p342 := eq_true p342
                  replace q342 := eq_true q342
                  go_wp2
                  repeat (go_quiet (fail); try go_wp2)
                  go_roundg k1
                  case measure => have := HK1.out; omega
                  case rel => exact ⟨(x7_1), (wrap64 (x8_1 + 1)), (by first | rfl | (simp; done) | (simp [*]; done)), (by first | rfl | (simp; done) | (simp [*]; done)), H', ⟨by have := HK1.out; omega⟩, by repeat (first | exact Drawn0.refl _ | apply Drawn0.step)⟩
              · rw [if_neg c8] at H
                exact absurd H (by simp)
            · rw [if_neg c7] at H
              exact absurd H (by simp)
          · rw [if_neg c6] at H
            exact absurd H (by simp)
        · rw [if_neg c5] at H
          exact absurd H (by simp)
      · rw [if_neg c4] at H
        have c4b0 : decide (x8_1 < a2) = false := decide_eq_false c4
        clear c4
        obtain rfl := Option.some.inj H
        go_wp2
        repeat (go_quiet (fail); try go_wp2)
        go_ret
        exact ⟨by first | rfl | (simp; done) | (simp [*]; done), by repeat (first | exact Drawn0.refl _ | apply Drawn0.step)⟩

/-! ### assessorref43_Roll: function 23 -/
mutual
def assessorref43_Roll.j0 : Nat → Int → Int → Int → Int → Bool → Option (Int × Int)
  | 0, _, _, _, _, _ => none
  | k + 1, x0, x1, x2, x3, x26 => if x26 = true then (some (0, 2)) else (assessorref43_Roll.l0 k x0 x1 x2 x3 1 1)
def assessorref43_Roll.l0 : Nat → Int → Int → Int → Int → Int → Int → Option (Int × Int)
  | 0, _, _, _, _, _, _ => none
  | k + 1, x0, x1, x2, x3, x10, x11 => if x11 < x3 then (assessorref43_Roll.l0 k x0 x1 x2 x3 (Int.tmod (wrap64 (x10 * 1000003)) 2147483647) (wrap64 (x11 + 1))) else ((assessorref43_reduce.f x1).bind fun t318 => ((assessorref43_reduce.f (wrap64 (x0 - (Int.tmod (wrap64 (t318 * x10)) 2147483647)))).bind fun t319 => ((assessorref43_reduce.f x2).bind fun t320 => (some (Int.tmod (wrap64 ((wrap64 (t319 * 1000003)) + t320)) 2147483647, 0)))))
end
def assessorref43_Roll.f (k : Nat) (a0 : Int) (a1 : Int) (a2 : Int) (a3 : Int) : Option (Int × Int) := if a3 < 1 then (assessorref43_Roll.j0 k a0 a1 a2 a3 true) else (if a3 > 64 then (assessorref43_Roll.j0 k a0 a1 a2 a3 true) else (if a0 < 0 then (assessorref43_Roll.j0 k a0 a1 a2 a3 true) else (assessorref43_Roll.j0 k a0 a1 a2 a3 (decide (a0 ≥ 2147483647)))))
theorem assessorref43_Roll.mono_l : ∀ k, (∀ y0 y1 y2 y3 y4, LeO (assessorref43_Roll.j0 k y0 y1 y2 y3 y4) (assessorref43_Roll.j0 (k + 1) y0 y1 y2 y3 y4)) ∧ (∀ y0 y1 y2 y3 y4 y5, LeO (assessorref43_Roll.l0 k y0 y1 y2 y3 y4 y5) (assessorref43_Roll.l0 (k + 1) y0 y1 y2 y3 y4 y5))
  | 0 => ⟨fun _ _ _ _ _ r h => by simp [assessorref43_Roll.j0] at h, fun _ _ _ _ _ _ r h => by simp [assessorref43_Roll.l0] at h⟩
  | k + 1 => by
    obtain ⟨ih0, ih1⟩ := assessorref43_Roll.mono_l k
    refine ⟨?_, ?_⟩
    · intro y0 y1 y2 y3 y4
      unfold assessorref43_Roll.j0
      repeat' first
      | (with_reducible exact ih0 _ _ _ _ _)
      | (with_reducible exact ih1 _ _ _ _ _ _)
      | (with_reducible exact LeO.refl _)
      | (with_reducible exact LeO.none _)
      | (with_reducible refine LeO.ite ?_ ?_)
      | (with_reducible refine LeO.bind ?_ (fun _ => ?_))
      | exact ih0 _ _ _ _ _
      | exact ih1 _ _ _ _ _ _
      | exact LeO.none _
      | refine LeO.ite ?_ ?_
      | refine LeO.bind ?_ (fun _ => ?_)
    · intro y0 y1 y2 y3 y4 y5
      unfold assessorref43_Roll.l0
      repeat' first
      | (with_reducible exact ih0 _ _ _ _ _)
      | (with_reducible exact ih1 _ _ _ _ _ _)
      | (with_reducible exact LeO.refl _)
      | (with_reducible exact LeO.none _)
      | (with_reducible refine LeO.ite ?_ ?_)
      | (with_reducible refine LeO.bind ?_ (fun _ => ?_))
      | exact ih0 _ _ _ _ _
      | exact ih1 _ _ _ _ _ _
      | exact LeO.none _
      | refine LeO.ite ?_ ?_
      | refine LeO.bind ?_ (fun _ => ?_)
theorem assessorref43_Roll.mono : ∀ a0 a1 a2 a3 k, LeO (assessorref43_Roll.f k a0 a1 a2 a3) (assessorref43_Roll.f (k + 1) a0 a1 a2 a3) := by
  intro a0 a1 a2 a3 k
  obtain ⟨ih0, ih1⟩ := assessorref43_Roll.mono_l k
  unfold assessorref43_Roll.f
  repeat' first
      | (with_reducible exact ih0 _ _ _ _ _)
      | (with_reducible exact ih1 _ _ _ _ _ _)
      | (with_reducible exact LeO.refl _)
      | (with_reducible exact LeO.none _)
      | (with_reducible refine LeO.ite ?_ ?_)
      | (with_reducible refine LeO.bind ?_ (fun _ => ?_))
      | exact ih0 _ _ _ _ _
      | exact ih1 _ _ _ _ _ _
      | exact LeO.none _
      | refine LeO.ite ?_ ?_
      | refine LeO.bind ?_ (fun _ => ?_)
set_option maxHeartbeats 8000000 in
set_option maxRecDepth 100000 in
theorem assessorref43_Roll.calls (k : Nat) (a0 : Int) (a1 : Int) (a2 : Int) (a3 : Int) (r1 : Int) (r2 : Int) (w : World) (h : assessorref43_Roll.f k a0 a1 a2 a3 = some (r1, r2)) :
    Calls Tryd.prog 23 #[.int .i64 a0, .int .i64 a1, .int .i64 a2, .int .i64 a3] w fun e w' => e = .returned (.tuple #[.int .i64 r1, .int .i64 r2]) ∧ Drawn0 w w' := by
  have H : (if a3 < 1 then (assessorref43_Roll.j0 k a0 a1 a2 a3 true) else (if a3 > 64 then (assessorref43_Roll.j0 k a0 a1 a2 a3 true) else (if a0 < 0 then (assessorref43_Roll.j0 k a0 a1 a2 a3 true) else (assessorref43_Roll.j0 k a0 a1 a2 a3 (decide (a0 ≥ 2147483647)))))) = some (r1, r2) := h
  clear h
  have HC5 := Aside0.mk H
  clear H
  go_enter Tryd.func23, Tryd.ntmps23
  go_upto_region 1 with (fail)
  go_cut [26] (fun v26 wc => ∃ (kq : Nat) (x26_4 : Bool), v26 = .bool x26_4 ∧ Aside0 (assessorref43_Roll.j0 kq a0 a1 a2 a3 x26_4 = some (r1, r2)) ∧ Aside0 (kq ≤ k) ∧ Drawn0 w wc)
  case first =>
    have H := HC5.out
    clear HC5
    by_cases c6 : a3 < 1
    · rw [if_pos c6] at H
      have c6b0 : decide (a3 < 1) = true := decide_eq_true c6
      clear c6
      (first | rw [c6b0] | (simp only [i64_w, i32_w]; rw [c6b0]) | skip)
      have H' := Aside0.mk H
      clear H
      go_wp2
      go_meet
      case rel => exact ⟨_, (true), (by first | rfl | (simp; done) | (simp [*]; done)), H', ⟨by first | omega | exact Nat.le_refl _⟩, by repeat (first | exact Drawn0.refl _ | apply Drawn0.step)⟩
    · rw [if_neg c6] at H
      have c6b0 : decide (a3 < 1) = false := decide_eq_false c6
      clear c6
      (first | rw [c6b0] | (simp only [i64_w, i32_w]; rw [c6b0]) | skip)
      by_cases c7 : a3 > 64
      · rw [if_pos c7] at H
        have c7b0 : decide (64 < a3) = true := decide_eq_true c7
        clear c7
        have H' := Aside0.mk H
        clear H
        go_wp2
        go_meet
        case rel => exact ⟨_, (true), (by first | rfl | (simp; done) | (simp [*]; done)), H', ⟨by first | omega | exact Nat.le_refl _⟩, by repeat (first | exact Drawn0.refl _ | apply Drawn0.step)⟩
      · rw [if_neg c7] at H
        have c7b0 : decide (64 < a3) = false := decide_eq_false c7
        clear c7
        by_cases c8 : a0 < 0
        · rw [if_pos c8] at H
          have c8b0 : decide (a0 < 0) = true := decide_eq_true c8
          clear c8
          have H' := Aside0.mk H
          clear H
          go_wp2
          go_meet
          case rel => exact ⟨_, (true), (by first | rfl | (simp; done) | (simp [*]; done)), H', ⟨by first | omega | exact Nat.le_refl _⟩, by repeat (first | exact Drawn0.refl _ | apply Drawn0.step)⟩
        · rw [if_neg c8] at H
          have c8b0 : decide (a0 < 0) = false := decide_eq_false c8
          clear c8
          have H' := Aside0.mk H
          clear H
          go_wp2
          go_meet
          case rel => exact ⟨_, (decide (a0 ≥ 2147483647)), (by first | rfl | (simp; done) | (simp [*]; done)), H', ⟨by first | omega | exact Nat.le_refl _⟩, by repeat (first | exact Drawn0.refl _ | apply Drawn0.step)⟩
  case rest =>
    clear HC5
    try clear c2
    try clear p2
    try clear c6
    try clear c6b0
    try clear c7
    try clear c7b0
    try clear c8
    try clear c8b0
    obtain ⟨kq, x26_4, rfl, HA, HJ4, ⟨mc4, rfl⟩⟩ := hcut
    cases kq with
    | zero => exact absurd HA.out (by simp [assessorref43_Roll.j0])
    | succ kj4 =>
      have H := HA.out
      clear HA
      simp only [assessorref43_Roll.j0] at H
      by_cases c9 : x26_4 = true
      · subst c9
        have H1 : (some (0, 2)) = some (r1, r2) := by rw [if_pos rfl] at H; exact H
        clear H
        have H := H1
        clear H1
        simp only [Option.some.injEq, Prod.mk.injEq] at H
        obtain ⟨rfl, rfl⟩ := H
        go_wp2
        go_ret2
        exact ⟨by first | rfl | (simp; done) | (simp [*]; done), by repeat (first | exact Drawn0.refl _ | apply Drawn0.step)⟩
      · replace c9 := Bool.eq_false_iff.mpr c9
        subst c9
        have H1 : (assessorref43_Roll.l0 kj4 a0 a1 a2 a3 1 1) = some (r1, r2) := by rw [if_neg (show ¬ (false = true) by decide)] at H; exact H
        clear H
        have H := H1
        clear H1
        have H' := Aside0.mk H
        clear H
        go_wp2
        go_loopg [10, 11] kj4 (fun kq v10 v11 w' => ∃ (x10_2 : Int) (x11_2 : Int), v10 = .int .i64 x10_2 ∧ v11 = .int .i64 x11_2 ∧ Aside0 (assessorref43_Roll.l0 kq a0 a1 a2 a3 x10_2 x11_2 = some (r1, r2)) ∧ Aside0 (kq ≤ kj4) ∧ Drawn0 w w')
        case atStart => exact ⟨(1), (1), (by first | rfl | (simp; done) | (simp [*]; done)), (by first | rfl | (simp; done) | (simp [*]; done)), H', ⟨Nat.le_refl _⟩, by repeat (first | exact Drawn0.refl _ | apply Drawn0.step)⟩
        case round =>
          clear H'
          try clear c2
          try clear p2
          try clear c4
          try clear c6
          try clear c6b0
          try clear c7
          try clear c7b0
          try clear c8
          try clear c8b0
          try clear c9
          try clear p2
          obtain ⟨x10_2, x11_2, rfl, rfl, HA, HK2, ⟨m2, rfl⟩⟩ := hrel
          cases gk with
          | zero => exact absurd HA.out (by simp [assessorref43_Roll.l0])
          | succ k2 =>
            have H := HA.out
            clear HA
            simp only [assessorref43_Roll.l0] at H
            by_cases c10 : x11_2 < a3
            · rw [if_pos c10] at H
              have c10b0 : decide (x11_2 < a3) = true := decide_eq_true c10
              clear c10
              have H' := Aside0.mk H
              clear H
              go_wp2
              go_roundg k2
              case measure => have := HJ4.out; have := HK2.out; omega
              case rel => exact ⟨(Int.tmod (wrap64 (x10_2 * 1000003)) 2147483647), (wrap64 (x11_2 + 1)), (by first | rfl | (simp; done) | (simp [*]; done)), (by first | rfl | (simp; done) | (simp [*]; done)), H', ⟨by have := HJ4.out; have := HK2.out; omega⟩, by repeat (first | exact Drawn0.refl _ | apply Drawn0.step)⟩
            · rw [if_neg c10] at H
              have c10b0 : decide (x11_2 < a3) = false := decide_eq_false c10
              clear c10
              replace H := Option.bind_eq_some_iff.mp H
              obtain ⟨t318, A110, H⟩ := H
              replace H : ((assessorref43_reduce.f (wrap64 (a0 - (Int.tmod (wrap64 (t318 * x10_2)) 2147483647)))).bind fun t319 => ((assessorref43_reduce.f a2).bind fun t320 => (some (Int.tmod (wrap64 ((wrap64 (t319 * 1000003)) + t320)) 2147483647, 0)))) = some (r1, r2) := H
              have A11 := Aside0.mk A110
              clear A110
              replace H := Option.bind_eq_some_iff.mp H
              obtain ⟨t319, A120, H⟩ := H
              replace H : ((assessorref43_reduce.f a2).bind fun t320 => (some (Int.tmod (wrap64 ((wrap64 (t319 * 1000003)) + t320)) 2147483647, 0))) = some (r1, r2) := H
              have A12 := Aside0.mk A120
              clear A120
              replace H := Option.bind_eq_some_iff.mp H
              obtain ⟨t320, A130, H⟩ := H
              replace H : (some (Int.tmod (wrap64 ((wrap64 (t319 * 1000003)) + t320)) 2147483647, 0)) = some (r1, r2) := H
              have A13 := Aside0.mk A130
              clear A130
              simp only [Option.some.injEq, Prod.mk.injEq] at H
              obtain ⟨rfl, rfl⟩ := H
              go_wp2_with (first | ((with_reducible refine gate_callee (f := 36) rfl ?_); refine goesL_ (some 37) rfl rfl Tryd.func36 (by kernel_rfl) rfl #[.int .i64 a1] rfl (by (try simp only [List.map_toArray, List.map_cons, List.map_nil]); first | done | rfl | (simp only [List.length_drop, List.length_take]; rfl)) ?_; (with_reducible refine (assessorref43_reduce.calls a1 t318 _ A11.out).mono ?_); rintro e w' ⟨rfl, ⟨nd, rfl⟩⟩; refine ⟨_, rfl, ?_⟩) | ((with_reducible refine gate_callee (f := 36) rfl ?_); refine goesL_ (some 42) rfl rfl Tryd.func36 (by kernel_rfl) rfl #[.int .i64 (wrap64 (a0 - (Int.tmod (wrap64 (t318 * x10_2)) 2147483647)))] rfl (by (try simp only [List.map_toArray, List.map_cons, List.map_nil]); first | done | rfl | (simp only [List.length_drop, List.length_take]; rfl)) ?_; (with_reducible refine (assessorref43_reduce.calls (wrap64 (a0 - (Int.tmod (wrap64 (t318 * x10_2)) 2147483647))) t319 _ A12.out).mono ?_); rintro e w' ⟨rfl, ⟨nd, rfl⟩⟩; refine ⟨_, rfl, ?_⟩) | ((with_reducible refine gate_callee (f := 36) rfl ?_); refine goesL_ (some 46) rfl rfl Tryd.func36 (by kernel_rfl) rfl #[.int .i64 a2] rfl (by (try simp only [List.map_toArray, List.map_cons, List.map_nil]); first | done | rfl | (simp only [List.length_drop, List.length_take]; rfl)) ?_; (with_reducible refine (assessorref43_reduce.calls a2 t320 _ A13.out).mono ?_); rintro e w' ⟨rfl, ⟨nd, rfl⟩⟩; refine ⟨_, rfl, ?_⟩))
              go_ret2
              exact ⟨by first | rfl | (simp; done) | (simp [*]; done), by repeat (first | exact Drawn0.refl _ | apply Drawn0.step)⟩

-- NOT PRINTED: function 4 (assessorlaw43_FingerprintHashes)

/-! ### assessorref43_has: function 41 -/
def assessorref43_has.l0 : Nat → List (S48) → Int → Int → Option (Bool)
  | 0, _, _, _ => none
  | k + 1, x0, x1, x5 => if x5 < (x0.length : Int) then (if 0 ≤ x5 then (if ((rd_T48 x0 x5).f0) = x1 then (some true) else (assessorref43_has.l0 k x0 x1 (wrap64 (x5 + 1)))) else (none)) else (some false)
def assessorref43_has.f (k : Nat) (l0 : List (S48)) (a1 : Int) : Option (Bool) := assessorref43_has.l0 k l0 a1 0
theorem assessorref43_has.mono_l : ∀ k, (∀ y0 y1 y2, LeO (assessorref43_has.l0 k y0 y1 y2) (assessorref43_has.l0 (k + 1) y0 y1 y2))
  | 0 => fun _ _ _ r h => by simp [assessorref43_has.l0] at h
  | k + 1 => by
    have ih0 := assessorref43_has.mono_l k
    · intro y0 y1 y2
      unfold assessorref43_has.l0
      repeat' first
      | (with_reducible exact ih0 _ _ _)
      | (with_reducible exact LeO.refl _)
      | (with_reducible exact LeO.none _)
      | (with_reducible refine LeO.ite ?_ ?_)
      | (with_reducible refine LeO.bind ?_ (fun _ => ?_))
      | exact ih0 _ _ _
      | exact LeO.none _
      | refine LeO.ite ?_ ?_
      | refine LeO.bind ?_ (fun _ => ?_)
theorem assessorref43_has.mono : ∀ a0 a1 k, LeO (assessorref43_has.f k a0 a1) (assessorref43_has.f (k + 1) a0 a1) := by
  intro a0 a1 k
  have ih0 := assessorref43_has.mono_l k
  unfold assessorref43_has.f
  repeat' first
      | (with_reducible exact ih0 _ _ _)
      | (with_reducible exact LeO.refl _)
      | (with_reducible exact LeO.none _)
      | (with_reducible refine LeO.ite ?_ ?_)
      | (with_reducible refine LeO.bind ?_ (fun _ => ?_))
      | exact ih0 _ _ _
      | exact LeO.none _
      | refine LeO.ite ?_ ?_
      | refine LeO.bind ?_ (fun _ => ?_)
set_option maxHeartbeats 8000000 in
set_option maxRecDepth 100000 in
theorem assessorref43_has.calls (k : Nat) (A0 : Option Addr) (c0 : Nat) (l0 : List (S48)) (a1 : Int) (r : Bool) (w : World) (hr0 : Kd.C k48 w A0 l0.length l0) (hc0 : l0.length ≤ c0) (h : assessorref43_has.f k l0 a1 = some r) :
    Calls Tryd.prog 41 #[.slice A0 l0.length c0, .int .i64 a1] w fun e w' => e = .returned (.bool r) ∧ Drawn0 w w' := by
  have HR0 := Aside0.mk hr0
  have HC0 := Aside0.mk hc0
  clear hr0 hc0
  have H : (assessorref43_has.l0 k l0 a1 0) = some r := h
  clear h
  have H' := Aside0.mk H
  clear H
  go_enter Tryd.func41, Tryd.ntmps41
  go_wp2
  go_loopg [5] k (fun kq v5 w' => ∃ (x5_1 : Int), v5 = .int .i64 x5_1 ∧ Aside0 (assessorref43_has.l0 kq l0 a1 x5_1 = some r) ∧ Aside0 (kq ≤ k) ∧ Drawn0 w w')
  case atStart => exact ⟨(0), (by first | rfl | (simp; done) | (simp [*]; done)), H', ⟨Nat.le_refl _⟩, by repeat (first | exact Drawn0.refl _ | apply Drawn0.step)⟩
  case round =>
    clear H'
    try clear p2
    obtain ⟨x5_1, rfl, HA, HK1, ⟨m1, rfl⟩⟩ := hrel
    cases gk with
    | zero => exact absurd HA.out (by simp [assessorref43_has.l0])
    | succ k1 =>
      have H := HA.out
      clear HA
      simp only [assessorref43_has.l0] at H
      by_cases c3 : x5_1 < (l0.length : Int)
      · rw [if_pos c3] at H
        have c3b0 : decide (x5_1 < (l0.length : Int)) = true := decide_eq_true c3
        clear c3
        by_cases c4 : 0 ≤ x5_1
        · rw [if_pos c4] at H
          have c4b0 : decide (0 ≤ x5_1) = true := decide_eq_true c4
          clear c4
          by_cases c5 : ((rd_T48 l0 x5_1).f0) = a1
          · rw [if_pos c5] at H
            have c5b0 : (((rd_T48 l0 x5_1).f0) == a1) = true := beq_iff_eq.mpr c5
            have c5b1 : (((rd_T48 l0 x5_1).f0) != a1) = false := bne_eq_false_iff_eq.mpr c5
            clear c5
            obtain rfl := Option.some.inj H
            have p325 : 0 ≤ (x5_1 : Int) := of_decide_eq_true (by first | (with_reducible assumption) | assumption)
            have q325 : x5_1 < (l0.length : Int) := of_decide_eq_true (by first | (with_reducible assumption) | assumption)
            obtain ⟨ad325, e325, hx325_0, hx325_1⟩ := at_T48 HR0.out x5_1 p325 q325
            cases e325
            replace p325 := eq_true p325
            replace q325 := eq_true q325
            go_wp2
            go_ret
            exact ⟨by first | rfl | (simp; done) | (simp [*]; done), by repeat (first | exact Drawn0.refl _ | apply Drawn0.step)⟩
          · rw [if_neg c5] at H
            have c5b0 : (((rd_T48 l0 x5_1).f0) == a1) = false := beq_eq_false_iff_ne.mpr c5
            have c5b1 : (((rd_T48 l0 x5_1).f0) != a1) = true := bne_iff_ne.mpr c5
            have H' := Aside0.mk H
            clear H
            have p325 : 0 ≤ (x5_1 : Int) := of_decide_eq_true (by first | (with_reducible assumption) | assumption)
            have q325 : x5_1 < (l0.length : Int) := of_decide_eq_true (by first | (with_reducible assumption) | assumption)
            obtain ⟨ad325, e325, hx325_0, hx325_1⟩ := at_T48 HR0.out x5_1 p325 q325
            cases e325
            replace p325 := eq_true p325
            replace q325 := eq_true q325
            go_wp2
            go_roundg k1
            case measure => have := HK1.out; omega
            case rel => exact ⟨(wrap64 (x5_1 + 1)), (by first | rfl | (simp; done) | (simp [*]; done)), H', ⟨by have := HK1.out; omega⟩, by repeat (first | exact Drawn0.refl _ | apply Drawn0.step)⟩
        · rw [if_neg c4] at H
          exact absurd H (by simp)
      · rw [if_neg c3] at H
        have c3b0 : decide (x5_1 < (l0.length : Int)) = false := decide_eq_false c3
        clear c3
        obtain rfl := Option.some.inj H
        go_wp2
        go_ret
        exact ⟨by first | rfl | (simp; done) | (simp [*]; done), by repeat (first | exact Drawn0.refl _ | apply Drawn0.step)⟩

-- NOT PRINTED: function 42 (assessorref43_Add)

-- NOT PRINTED: function 27 (assessorref43_Shared)

-- NOT PRINTED: function 6 (assessorlaw43_FingerprintWinnows)

end Go.Proofs.YtpkjiimcoepjpaaDoor.PFingerprintSymbols
