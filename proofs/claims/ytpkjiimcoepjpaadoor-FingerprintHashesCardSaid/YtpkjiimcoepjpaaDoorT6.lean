/- Hashing: the printed functions' values; roller, Roll walked. -/
import Derived.Test.YtpkjiimcoepjpaaDoorT1
import Derived.Test.YtpkjiimcoepjpaaDoorT4
import Derived.Below
import Derived.WalkKit
import Derived.OwnWalk
import Derived.WalkSmall
import Derived.Lib.Hide
import Derived.Laws.NewBlocks
import Derived.LoopTactic
import Derived.Outline
import Derived.StillTailTactics
import Derived.RangeFuncNested
import Derived.RangeFuncBound
import Derived.RangeFuncCalls
import Derived.RangeFuncLeaves
import Derived.Shelf.Abstract
import Derived.Shelf.RegionOpen
import Derived.OwnWalkIn
import Derived.TacticsInMore
import Derived.LoopNIn
import Derived.LoopIn
import Derived.Deep.OwnRows
import Derived.Laws.StructEq
import Derived.WalkLawsBesides
import Derived.Deep.RegionHeld3
import Derived.Deep.DrawnRows
namespace Go.Proofs.YtpkjiimcoepjpaaDoor
set_option linter.unusedVariables false
set_option linter.unusedSimpArgs false
open Go.RowKit Go.Proofs.YtpkjiimcoepjpaaDoorW.PrintWords
open PFingerprintSymbols

theorem rd_get (l : List Int) (i : Nat) (h : i < l.length) : rd l (i : Nat) = l[i] := by
  unfold rd; rw [Int.toNat_natCast, List.getD_eq_getElem?_getD, List.getElem?_eq_getElem h]; rfl
theorem modulo_f (n : Int) : fingerprint_modulo.f n = some (md n) := by unfold fingerprint_modulo.f; rw [modulo_eq]
theorem reduce_f (n : Int) : assessorref43_reduce.f n = some (md n) := by unfold assessorref43_reduce.f; rw [modulo_eq]
theorem hash_ev (l : List Int) (hl : l.length ≤ 1000000) (n : Nat) : ∀ (i : Nat) (h : Int), l.length - i = n → i ≤ l.length → 0 ≤ h → h < 2147483647 →
    Ev (fun k => fingerprint_Hash.l0 k h l ((l.length : Nat) : Int) ((i : Nat) : Int)) ((l.drop i).foldl stepH h) := by
  induction n with
  | zero =>
    intro i h hn hi h0 h1
    obtain rfl : i = l.length := by omega
    rw [List.drop_eq_nil_of_le (Nat.le_refl _)]
    refine Ev.step (f := fun _ => some h) (fun k => ?_) (Ev.now _)
    simp only [fingerprint_Hash.l0]
    rw [if_neg (by omega)]
  | succ n ih =>
    intro i h hn hi h0 h1
    have hi2 : i < l.length := by omega
    rw [List.drop_eq_getElem_cons hi2, List.foldl_cons]
    refine Ev.step (fun k => ?_) (ih (i + 1) (stepH h l[i]) (by omega) (by omega) (step_lo _ _) (step_hi _ _))
    simp only [fingerprint_Hash.l0]
    rw [if_pos (by omega), if_pos (by omega), if_pos (by omega), rd_get l i hi2, modulo_f, Option.bind_some, go_step h _ h0 h1, w64in _ (by omega)]
    rfl
theorem hash_f (l : List Int) (hl : l.length ≤ 1000000) : ∃ k, fingerprint_Hash.f k l = some (hashS l) := by
  have h := hash_ev l hl _ 0 0 rfl (Nat.zero_le _) (by decide) (by decide)
  exact h.rounds
theorem refhash_ev (l : List Int) (hl : l.length ≤ 1000000) (n : Nat) : ∀ (i : Nat) (h : Int), l.length - i = n → i ≤ l.length → 0 ≤ h → h < 2147483647 →
    Ev (fun k => assessorref43_Hash.l0 k l h ((i : Nat) : Int)) ((l.drop i).foldl stepH h) := by
  induction n with
  | zero =>
    intro i h hn hi h0 h1
    obtain rfl : i = l.length := by omega
    rw [List.drop_eq_nil_of_le (Nat.le_refl _)]
    refine Ev.step (f := fun _ => some h) (fun k => ?_) (Ev.now _)
    simp only [assessorref43_Hash.l0]
    rw [if_neg (by omega)]
  | succ n ih =>
    intro i h hn hi h0 h1
    have hi2 : i < l.length := by omega
    rw [List.drop_eq_getElem_cons hi2, List.foldl_cons]
    refine Ev.step (fun k => ?_) (ih (i + 1) (stepH h l[i]) (by omega) (by omega) (step_lo _ _) (step_hi _ _))
    simp only [assessorref43_Hash.l0]
    rw [if_pos (by omega), if_pos (by omega), rd_get l i hi2, reduce_f, Option.bind_some, go_step h _ h0 h1, w64in _ (by omega)]
    rfl
theorem refhash_f (l : List Int) (hl : l.length ≤ 1000000) : Ev (fun k => assessorref43_Hash.f k l) (hashS l) :=
  refhash_ev l hl _ 0 0 rfl (Nat.zero_le _) (by decide) (by decide)
theorem power_ev (m : Nat) (hm : m ≤ 1000000) (n : Nat) : ∀ (i : Nat), m - i = n → i ≤ m → Ev (fun k => fingerprint_power.l0 k (pwS i) ((m : Nat) : Int) ((i : Nat) : Int)) (pwS m) := by
  induction n with
  | zero =>
    intro i hn hi
    obtain rfl : i = m := by omega
    refine Ev.step (f := fun _ => some (pwS i)) (fun k => ?_) (Ev.now _)
    simp only [fingerprint_power.l0]
    rw [if_neg (by omega)]
  | succ n ih =>
    intro i hn hi
    refine Ev.step (fun k => ?_) (ih (i + 1) (by omega) (by omega))
    simp only [fingerprint_power.l0]
    rw [if_pos (by omega), go_pw, w64in _ (by omega)]
    rfl
theorem power_f (m : Nat) (hm : m ≤ 1000000) : ∃ k, fingerprint_power.f k ((m : Nat) : Int) = some (pwS m) := (power_ev m hm _ 0 rfl (Nat.zero_le _)).rounds

theorem drawn_below {w W : World} (h : Drawn0 w W) : Below w.heap.size w W := h.below
theorem moduloW (n : Int) (w : World) : Calls Tryd.prog 35 #[.int .i64 n] w fun e w' => e = .returned (.int .i64 (md n)) ∧ Drawn0 w w' := fingerprint_modulo.calls n _ w (modulo_f n)
theorem powerW (m : Nat) (hm : m ≤ 1000000) (w : World) : Calls Tryd.prog 44 #[.int .i64 (m : Nat)] w fun e w' => e = .returned (.int .i64 (pwS m)) ∧ Drawn0 w w' := by
  obtain ⟨k, hk⟩ := power_f m hm
  exact fingerprint_power.calls k _ _ w hk

theorem go_roll (most h f n : Int) (hm0 : 0 ≤ most) (hm1 : most < 2147483647) (h0 : 0 ≤ h) (h1 : h < 2147483647) :
    (IntKind.i64.wrap (IntKind.i64.wrap (md (IntKind.i64.wrap (h - (IntKind.i64.wrap (md f * most)).tmod 2147483647)) * 1000003) + md n)).tmod 2147483647 = rollS most h f n := by
  have a0 := md_lo f
  have a1 := md_hi f
  have p0 : 0 ≤ md f * most := Int.mul_nonneg a0 hm0
  have p1 : md f * most ≤ 2147483647 * 2147483647 := Int.mul_le_mul (by omega) (by omega) hm0 (by omega)
  have p2 : (2147483647 : Int) * 2147483647 = 4611686014132420609 := by decide
  rw [IntWalk.i64_in (md f * most) (by omega), tmod_nn p0]
  have b0 := md_lo (md f * most)
  have b1 := md_hi (md f * most)
  rw [IntWalk.i64_in (h - md (md f * most)) (by omega)]
  have c0 := md_lo (h - md (md f * most))
  have c1 := md_hi (h - md (md f * most))
  have d0 := md_lo n
  have d1 := md_hi n
  rw [IntWalk.i64_in (md (h - md (md f * most)) * 1000003) (by omega), IntWalk.i64_in _ (by omega), tmod_nn (by omega)]
  rfl

set_option maxRecDepth 100000 in
set_option maxHeartbeats 4000000 in
theorem rollerW1 (most h f n : Int) (b : Nat) (w : World) (hm0 : 0 ≤ most) (hm1 : most < 2147483647) (h0 : 0 ≤ h) (h1 : h < 2147483647) (hb : w.cell? ⟨b, 0, none⟩ = some (.int .i64 most)) :
    Calls Tryd.prog 45 #[.int .i64 h, .int .i64 f, .int .i64 n, .pointer (some ⟨b, 0, none⟩)] w fun e w' => e = .returned (.int .i64 (rollS most h f n)) ∧ Below w.heap.size w w' := by
  have hlt := World.block_lt_of_cell? w _ hb
  have HM := Lib.hid (fun (n : Int) (W : World) => moduloW n W)
  have HK := Lib.hid (show ∀ W, Below w.heap.size w W → (Below w.heap.size w W ∧ W.cell? ⟨b, 0, none⟩ = some (.int .i64 most)) from fun W h => ⟨h, (h.cell (p := ⟨b, 0, none⟩) hlt).trans hb⟩)
  have h3 : Below w.heap.size w w := Below.refl _ _
  go_enter Tryd.func45, Tryd.ntmps45
  go_wp2_with fail
  go_region_held3 (fun W => Below w.heap.size w W ∧ W.cell? ⟨b, 0, none⟩ = some (.int .i64 most))
    (first | with_reducible exact HK.out _ h6 | with_reducible exact HK.out _ h5 | with_reducible exact HK.out _ h4 | with_reducible exact HK.out _ h3.drew)
    (first | (go_at_call 35; (with_reducible refine (HM.out f _).mono ?_); (rintro e w4 ⟨rfl, hb4⟩); (have h4 := h3.drew.trans (hb4.below.mono h3.drew.size))) | (go_at_call 35; (with_reducible refine (HM.out n _).mono ?_); (rintro e w6 ⟨rfl, hb6⟩); (have h6 := h5.trans (hb6.below.mono h5.size))) | (go_at_call 35; (with_reducible refine (HM.out _ _).mono ?_); (rintro e w5 ⟨rfl, hb5⟩); (have h5 := h4.trans (hb5.below.mono h4.size))))
  rw [go_roll most h f n hm0 hm1 h0 h1]
  go_wp2_with fail
  go_ret
  exact ⟨rfl, h6⟩

set_option maxRecDepth 100000 in
set_option maxHeartbeats 4000000 in
theorem rollerW (m : Nat) (hm : m ≤ 1000) (w : World) :
    Calls Tryd.prog 37 #[.int .i64 ((m + 1 : Nat) : Int)] w fun e w' => (∃ b, e = .returned (.func (.func 45) #[] #[.pointer (some ⟨b, 0, none⟩)]) ∧ w.heap.size ≤ b ∧ w'.cell? ⟨b, 0, none⟩ = some (.int .i64 (pwS m))) ∧ Below w.heap.size w w' := by
  have HP := Lib.hid (fun W => powerW m (by omega) W)
  have e1 : (((m + 1 : Nat) : Int) - 1) = ((m : Nat) : Int) := by omega
  obtain ⟨K, hK⟩ : ∃ K : Int, ((m + 1 : Nat) : Int) = K := ⟨_, rfl⟩
  rw [hK] at e1 ⊢
  have e2 : IntKind.i64.wrap (K - 1) = ((m : Nat) : Int) := by rw [e1]; exact IntWalk.i64_in _ (by omega)
  clear hK
  go_enter Tryd.func37, Tryd.ntmps37
  go_wp2_with fail
  refine (HP.out w).mono ?_
  rintro e w1 ⟨rfl, hb⟩
  go_wp2_with fail
  go_ret
  refine ⟨⟨w1.heap.size, rfl, hb.below.size, ?_⟩, hb.below.trans (((Below.refl _ _).alloc (Nat.le_refl _) _).mono hb.below.size)⟩
  unfold World.cell?
  rw [heap_alloc_new w1 (.cells #[.int .i64 (pwS m)] 3)]
  rfl

/-- what Roll answers -/
def rollV (hash first next k : Int) : Int := if 1 ≤ k ∧ k ≤ 64 ∧ 0 ≤ hash ∧ hash < 2147483647 then rollS (pwS (k.toNat - 1)) hash first next else 0
def rollC (hash k : Int) : Int := if 1 ≤ k ∧ k ≤ 64 ∧ 0 ≤ hash ∧ hash < 2147483647 then 0 else 2
theorem ranged_f (k : Int) : fingerprint_ranged.f k = some (decide (1 ≤ k ∧ k ≤ 64)) := by
  unfold fingerprint_ranged.f
  by_cases h : 1 ≤ k
  · rw [if_pos (by omega)]; simp [h]
  · rw [if_neg (by omega)]; simp [h]
theorem rangedW (k : Int) (w : World) : Calls Tryd.prog 31 #[.int .i64 k] w fun e w' => e = .returned (.bool (decide (1 ≤ k ∧ k ≤ 64))) ∧ Drawn0 w w' := fingerprint_ranged.calls k _ w (ranged_f k)

set_option maxRecDepth 100000 in
set_option maxHeartbeats 4000000 in
theorem RollW (hash first next k : Int) (w : World) :
    Calls Tryd.prog 22 #[.int .i64 hash, .int .i64 first, .int .i64 next, .int .i64 k] w fun e w' => e = .returned (.tuple #[.int .i64 (rollV hash first next k), .int .i64 (rollC hash k)]) ∧ Below w.heap.size w w' := by
  have HR := Lib.hid (rangedW k w)
  by_cases hk : 1 ≤ k ∧ k ≤ 64
  · have HR1 := HR.out
    rw [decide_eq_true hk] at HR1
    have HR2 := Lib.hid HR1
    clear HR HR1
    obtain ⟨m, hm⟩ : ∃ m : Nat, k = ((m + 1 : Nat) : Int) := ⟨k.toNat - 1, by omega⟩
    have HRo := Lib.hid (fun W => rollerW m (by omega) W)
    rw [← hm] at HRo
    by_cases h0 : 0 ≤ hash
    · have d0 : decide (hash < 0) = false := by rw [decide_eq_false_iff_not]; omega
      by_cases h1 : hash < 2147483647
      · have d1 : decide (hash ≥ 2147483647) = false := by rw [decide_eq_false_iff_not]; omega
        have hv : rollV hash first next k = rollS (pwS m) hash first next := by
          unfold rollV; rw [if_pos ⟨hk.1, hk.2, h0, h1⟩, hm]; rfl
        have hc : rollC hash k = 0 := by unfold rollC; rw [if_pos ⟨hk.1, hk.2, h0, h1⟩]
        have HV := Lib.hid (And.intro hv hc)
        have HPB := Lib.hid (pwS_bd m)
        clear hv hc hm
        go_enter Tryd.func22, Tryd.ntmps22
        go_wp2_with fail
        refine HR2.out.mono ?_
        rintro e w1 ⟨rfl, hb⟩
        have HB := Lib.hid hb.below
        clear hb
        go_wp2_with fail
        refine (HRo.out w1).mono ?_
        rintro e w2 ⟨⟨b, rfl, _, hcl⟩, hb2⟩
        have HB2 := Lib.hid (HB.out.trans (hb2.mono HB.out.size))
        have HC := Lib.hid hcl
        clear hb2 hcl
        go_wp2_with fail
        refine (rollerW1 (pwS m) hash first next b w2 HPB.out.1 HPB.out.2 h0 h1 HC.out).mono ?_
        rintro e w3 ⟨rfl, hb3⟩
        have HB3 := Lib.hid (HB2.out.trans (hb3.mono HB2.out.size))
        clear hb3
        go_wp2_with fail
        go_ret2
        rw [HV.out.1, HV.out.2]
        exact ⟨rfl, HB3.out⟩
      · have hv : rollV hash first next k = 0 := by unfold rollV; rw [if_neg (by omega)]
        have hc : rollC hash k = 2 := by unfold rollC; rw [if_neg (by omega)]
        have HV := Lib.hid (And.intro hv hc)
        clear hv hc hm
        have d1 : decide (hash ≥ 2147483647) = true := by rw [decide_eq_true_iff]; omega
        go_enter Tryd.func22, Tryd.ntmps22
        go_wp2_with fail
        refine HR2.out.mono ?_
        rintro e w1 ⟨rfl, hb⟩
        have HB := Lib.hid hb.below
        clear hb
        go_wp2_with fail
        go_ret2
        rw [HV.out.1, HV.out.2]
        exact ⟨rfl, HB.out⟩
    · have hv : rollV hash first next k = 0 := by unfold rollV; rw [if_neg (by omega)]
      have hc : rollC hash k = 2 := by unfold rollC; rw [if_neg (by omega)]
      have HV := Lib.hid (And.intro hv hc)
      clear hv hc hm
      have d0 : decide (hash < 0) = true := by rw [decide_eq_true_iff]; omega
      go_enter Tryd.func22, Tryd.ntmps22
      go_wp2_with fail
      refine HR2.out.mono ?_
      rintro e w1 ⟨rfl, hb⟩
      have HB := Lib.hid hb.below
      clear hb
      go_wp2_with fail
      go_ret2
      rw [HV.out.1, HV.out.2]
      exact ⟨rfl, HB.out⟩
  · have hv : rollV hash first next k = 0 := by unfold rollV; rw [if_neg (by omega)]
    have hc : rollC hash k = 2 := by unfold rollC; rw [if_neg (by omega)]
    have HV := Lib.hid (And.intro hv hc)
    clear hv hc
    have HR1 := HR.out
    rw [decide_eq_false hk] at HR1
    have HR2 := Lib.hid HR1
    clear HR HR1
    go_enter Tryd.func22, Tryd.ntmps22
    go_wp2_with fail
    refine HR2.out.mono ?_
    rintro e w1 ⟨rfl, hb⟩
    have HB := Lib.hid hb.below
    clear hb
    go_wp2_with fail
    go_ret2
    rw [HV.out.1, HV.out.2]
    exact ⟨rfl, HB.out⟩
end Go.Proofs.YtpkjiimcoepjpaaDoor
