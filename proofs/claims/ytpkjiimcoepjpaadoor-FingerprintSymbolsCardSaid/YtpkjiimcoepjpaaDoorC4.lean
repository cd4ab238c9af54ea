/- Seat 43, texts merged: hashing walked. Lemmas for the laws of chapter 43; no conditions of their own beyond what each states. -/
import Derived.Test.YtpkjiimcoepjpaaDoorC1
import Derived.Test.YtpkjiimcoepjpaaDoorC3
import Derived.Below
import Derived.WalkKit
import Derived.OwnWalk
import Derived.WalkSmall
import Derived.Lib.Hide
import Derived.Laws.NewBlocks
import Derived.LoopTactic
import Derived.Outline
import Derived.StillTailTactics
import Derived.RangeFuncNested
import Derived.RangeFuncBound
import Derived.RangeFuncCalls
import Derived.RangeFuncLeaves
import Derived.Shelf.Abstract
import Derived.Shelf.RegionOpen
import Derived.OwnWalkIn
import Derived.TacticsInMore
import Derived.LoopNIn
import Derived.LoopIn
import Derived.Deep.OwnRows
import Derived.Laws.StructEq
import Derived.WalkLawsBesides
import Derived.Deep.RegionHeld3
import Derived.Deep.DrawnRows
import Derived.Orders
import Derived.Laws.EntriesVeiled
import Derived.Deep.AppendLies
import Derived.RegionTactic
import Derived.ChangeAlike
import Derived.BigRegion
namespace Go.Proofs.YtpkjiimcoepjpaaDoor
set_option linter.unusedVariables false
set_option linter.unusedSimpArgs false
open Go.RowKit Go.Proofs.YtpkjiimcoepjpaaDoorW.PrintWords
open PFingerprintSymbols

theorem rd_get (l : List Int) (i : Nat) (h : i < l.length) : rd l (i : Nat) = l[i] := by
  unfold rd; rw [Int.toNat_natCast, List.getD_eq_getElem?_getD, List.getElem?_eq_getElem h]; rfl
theorem modulo_f (n : Int) : fingerprint_modulo.f n = some (md n) := by unfold fingerprint_modulo.f; rw [modulo_eq]
theorem reduce_f (n : Int) : assessorref43_reduce.f n = some (md n) := by unfold assessorref43_reduce.f; rw [modulo_eq]
theorem hash_ev (l : List Int) (hl : l.length ≤ 1000000) (n : Nat) : ∀ (i : Nat) (h : Int), l.length - i = n → i ≤ l.length → 0 ≤ h → h < 2147483647 →
    Ev (fun k => fingerprint_Hash.l0 k h l ((l.length : Nat) : Int) ((i : Nat) : Int)) ((l.drop i).foldl stepH h) := by
  induction n with
  | zero =>
    intro i h hn hi h0 h1
    obtain rfl : i = l.length := by omega
    rw [List.drop_eq_nil_of_le (Nat.le_refl _)]
    refine Ev.step (f := fun _ => some h) (fun k => ?_) (Ev.now _)
    simp only [fingerprint_Hash.l0]
    rw [if_neg (by omega)]
  | succ n ih =>
    intro i h hn hi h0 h1
    have hi2 : i < l.length := by omega
    rw [List.drop_eq_getElem_cons hi2, List.foldl_cons]
    refine Ev.step (fun k => ?_) (ih (i + 1) (stepH h l[i]) (by omega) (by omega) (step_lo _ _) (step_hi _ _))
    simp only [fingerprint_Hash.l0]
    rw [if_pos (by omega), if_pos (by omega), if_pos (by omega), rd_get l i hi2, modulo_f, Option.bind_some, go_step h _ h0 h1, w64in _ (by omega)]
    rfl
theorem hash_f (l : List Int) (hl : l.length ≤ 1000000) : ∃ k, fingerprint_Hash.f k l = some (hashS l) := by
  have h := hash_ev l hl _ 0 0 rfl (Nat.zero_le _) (by decide) (by decide)
  exact h.rounds
theorem refhash_ev (l : List Int) (hl : l.length ≤ 1000000) (n : Nat) : ∀ (i : Nat) (h : Int), l.length - i = n → i ≤ l.length → 0 ≤ h → h < 2147483647 →
    Ev (fun k => assessorref43_Hash.l0 k l h ((i : Nat) : Int)) ((l.drop i).foldl stepH h) := by
  induction n with
  | zero =>
    intro i h hn hi h0 h1
    obtain rfl : i = l.length := by omega
    rw [List.drop_eq_nil_of_le (Nat.le_refl _)]
    refine Ev.step (f := fun _ => some h) (fun k => ?_) (Ev.now _)
    simp only [assessorref43_Hash.l0]
    rw [if_neg (by omega)]
  | succ n ih =>
    intro i h hn hi h0 h1
    have hi2 : i < l.length := by omega
    rw [List.drop_eq_getElem_cons hi2, List.foldl_cons]
    refine Ev.step (fun k => ?_) (ih (i + 1) (stepH h l[i]) (by omega) (by omega) (step_lo _ _) (step_hi _ _))
    simp only [assessorref43_Hash.l0]
    rw [if_pos (by omega), if_pos (by omega), rd_get l i hi2, reduce_f, Option.bind_some, go_step h _ h0 h1, w64in _ (by omega)]
    rfl
theorem refhash_f (l : List Int) (hl : l.length ≤ 1000000) : Ev (fun k => assessorref43_Hash.f k l) (hashS l) :=
  refhash_ev l hl _ 0 0 rfl (Nat.zero_le _) (by decide) (by decide)
theorem power_ev (m : Nat) (hm : m ≤ 1000000) (n : Nat) : ∀ (i : Nat), m - i = n → i ≤ m → Ev (fun k => fingerprint_power.l0 k (pwS i) ((m : Nat) : Int) ((i : Nat) : Int)) (pwS m) := by
  induction n with
  | zero =>
    intro i hn hi
    obtain rfl : i = m := by omega
    refine Ev.step (f := fun _ => some (pwS i)) (fun k => ?_) (Ev.now _)
    simp only [fingerprint_power.l0]
    rw [if_neg (by omega)]
  | succ n ih =>
    intro i hn hi
    refine Ev.step (fun k => ?_) (ih (i + 1) (by omega) (by omega))
    simp only [fingerprint_power.l0]
    rw [if_pos (by omega), go_pw, w64in _ (by omega)]
    rfl
theorem power_f (m : Nat) (hm : m ≤ 1000000) : ∃ k, fingerprint_power.f k ((m : Nat) : Int) = some (pwS m) := (power_ev m hm _ 0 rfl (Nat.zero_le _)).rounds

theorem drawn_below {w W : World} (h : Drawn0 w W) : Below w.heap.size w W := h.below
theorem moduloW (n : Int) (w : World) : Calls Tryd.prog 35 #[.int .i64 n] w fun e w' => e = .returned (.int .i64 (md n)) ∧ Drawn0 w w' := fingerprint_modulo.calls n _ w (modulo_f n)
theorem powerW (m : Nat) (hm : m ≤ 1000000) (w : World) : Calls Tryd.prog 44 #[.int .i64 (m : Nat)] w fun e w' => e = .returned (.int .i64 (pwS m)) ∧ Drawn0 w w' := by
  obtain ⟨k, hk⟩ := power_f m hm
  exact fingerprint_power.calls k _ _ w hk

theorem go_roll (most h f n : Int) (hm0 : 0 ≤ most) (hm1 : most < 2147483647) (h0 : 0 ≤ h) (h1 : h < 2147483647) :
    (IntKind.i64.wrap (IntKind.i64.wrap (md (IntKind.i64.wrap (h - (IntKind.i64.wrap (md f * most)).tmod 2147483647)) * 1000003) + md n)).tmod 2147483647 = rollS most h f n := by
  have a0 := md_lo f
  have a1 := md_hi f
  have p0 : 0 ≤ md f * most := Int.mul_nonneg a0 hm0
  have p1 : md f * most ≤ 2147483647 * 2147483647 := Int.mul_le_mul (by omega) (by omega) hm0 (by omega)
  have p2 : (2147483647 : Int) * 2147483647 = 4611686014132420609 := by decide
  rw [IntWalk.i64_in (md f * most) (by omega), tmod_nn p0]
  have b0 := md_lo (md f * most)
  have b1 := md_hi (md f * most)
  rw [IntWalk.i64_in (h - md (md f * most)) (by omega)]
  have c0 := md_lo (h - md (md f * most))
  have c1 := md_hi (h - md (md f * most))
  have d0 := md_lo n
  have d1 := md_hi n
  rw [IntWalk.i64_in (md (h - md (md f * most)) * 1000003) (by omega), IntWalk.i64_in _ (by omega), tmod_nn (by omega)]
  rfl

set_option maxRecDepth 100000 in
set_option maxHeartbeats 4000000 in
theorem rollerW1 (most h f n : Int) (b : Nat) (w : World) (hm0 : 0 ≤ most) (hm1 : most < 2147483647) (h0 : 0 ≤ h) (h1 : h < 2147483647) (hb : w.cell? ⟨b, 0, none⟩ = some (.int .i64 most)) :
    Calls Tryd.prog 45 #[.int .i64 h, .int .i64 f, .int .i64 n, .pointer (some ⟨b, 0, none⟩)] w fun e w' => e = .returned (.int .i64 (rollS most h f n)) ∧ Below w.heap.size w w' := by
  have hlt := World.block_lt_of_cell? w _ hb
  have HM := Lib.hid (fun (n : Int) (W : World) => moduloW n W)
  have HK := Lib.hid (show ∀ W, Below w.heap.size w W → (Below w.heap.size w W ∧ W.cell? ⟨b, 0, none⟩ = some (.int .i64 most)) from fun W h => ⟨h, (h.cell (p := ⟨b, 0, none⟩) hlt).trans hb⟩)
  have h3 : Below w.heap.size w w := Below.refl _ _
  go_enter Tryd.func45, Tryd.ntmps45
  go_wp2_with fail
  go_region_held3 (fun W => Below w.heap.size w W ∧ W.cell? ⟨b, 0, none⟩ = some (.int .i64 most))
    (first | with_reducible exact HK.out _ h6 | with_reducible exact HK.out _ h5 | with_reducible exact HK.out _ h4 | with_reducible exact HK.out _ h3.drew)
    (first | (go_at_call 35; (with_reducible refine (HM.out f _).mono ?_); (rintro e w4 ⟨rfl, hb4⟩); (have h4 := h3.drew.trans (hb4.below.mono h3.drew.size))) | (go_at_call 35; (with_reducible refine (HM.out n _).mono ?_); (rintro e w6 ⟨rfl, hb6⟩); (have h6 := h5.trans (hb6.below.mono h5.size))) | (go_at_call 35; (with_reducible refine (HM.out _ _).mono ?_); (rintro e w5 ⟨rfl, hb5⟩); (have h5 := h4.trans (hb5.below.mono h4.size))))
  rw [go_roll most h f n hm0 hm1 h0 h1]
  go_wp2_with fail
  go_ret
  exact ⟨rfl, h6⟩

set_option maxRecDepth 100000 in
set_option maxHeartbeats 4000000 in
theorem rollerW (m : Nat) (hm : m ≤ 1000) (w : World) :
    Calls Tryd.prog 37 #[.int .i64 ((m + 1 : Nat) : Int)] w fun e w' => (∃ b, e = .returned (.func (.func 45) #[] #[.pointer (some ⟨b, 0, none⟩)]) ∧ w.heap.size ≤ b ∧ w'.cell? ⟨b, 0, none⟩ = some (.int .i64 (pwS m))) ∧ Below w.heap.size w w' := by
  have HP := Lib.hid (fun W => powerW m (by omega) W)
  have e1 : (((m + 1 : Nat) : Int) - 1) = ((m : Nat) : Int) := by omega
  obtain ⟨K, hK⟩ : ∃ K : Int, ((m + 1 : Nat) : Int) = K := ⟨_, rfl⟩
  rw [hK] at e1 ⊢
  have e2 : IntKind.i64.wrap (K - 1) = ((m : Nat) : Int) := by rw [e1]; exact IntWalk.i64_in _ (by omega)
  clear hK
  go_enter Tryd.func37, Tryd.ntmps37
  go_wp2_with fail
  refine (HP.out w).mono ?_
  rintro e w1 ⟨rfl, hb⟩
  go_wp2_with fail
  go_ret
  refine ⟨⟨w1.heap.size, rfl, hb.below.size, ?_⟩, hb.below.trans (((Below.refl _ _).alloc (Nat.le_refl _) _).mono hb.below.size)⟩
  unfold World.cell?
  rw [heap_alloc_new w1 (.cells #[.int .i64 (pwS m)] 3)]
  rfl

/-- what Roll answers -/
def rollV (hash first next k : Int) : Int := if 1 ≤ k ∧ k ≤ 64 ∧ 0 ≤ hash ∧ hash < 2147483647 then rollS (pwS (k.toNat - 1)) hash first next else 0
def rollC (hash k : Int) : Int := if 1 ≤ k ∧ k ≤ 64 ∧ 0 ≤ hash ∧ hash < 2147483647 then 0 else 2
theorem ranged_f (k : Int) : fingerprint_ranged.f k = some (decide (1 ≤ k ∧ k ≤ 64)) := by
  unfold fingerprint_ranged.f
  by_cases h : 1 ≤ k
  · rw [if_pos (by omega)]; simp [h]
  · rw [if_neg (by omega)]; simp [h]
theorem rangedW (k : Int) (w : World) : Calls Tryd.prog 31 #[.int .i64 k] w fun e w' => e = .returned (.bool (decide (1 ≤ k ∧ k ≤ 64))) ∧ Drawn0 w w' := fingerprint_ranged.calls k _ w (ranged_f k)

set_option maxRecDepth 100000 in
set_option maxHeartbeats 4000000 in
theorem RollW (hash first next k : Int) (w : World) :
    Calls Tryd.prog 22 #[.int .i64 hash, .int .i64 first, .int .i64 next, .int .i64 k] w fun e w' => e = .returned (.tuple #[.int .i64 (rollV hash first next k), .int .i64 (rollC hash k)]) ∧ Below w.heap.size w w' := by
  have HR := Lib.hid (rangedW k w)
  by_cases hk : 1 ≤ k ∧ k ≤ 64
  · have HR1 := HR.out
    rw [decide_eq_true hk] at HR1
    have HR2 := Lib.hid HR1
    clear HR HR1
    obtain ⟨m, hm⟩ : ∃ m : Nat, k = ((m + 1 : Nat) : Int) := ⟨k.toNat - 1, by omega⟩
    have HRo := Lib.hid (fun W => rollerW m (by omega) W)
    rw [← hm] at HRo
    by_cases h0 : 0 ≤ hash
    · have d0 : decide (hash < 0) = false := by rw [decide_eq_false_iff_not]; omega
      by_cases h1 : hash < 2147483647
      · have d1 : decide (hash ≥ 2147483647) = false := by rw [decide_eq_false_iff_not]; omega
        have hv : rollV hash first next k = rollS (pwS m) hash first next := by
          unfold rollV; rw [if_pos ⟨hk.1, hk.2, h0, h1⟩, hm]; rfl
        have hc : rollC hash k = 0 := by unfold rollC; rw [if_pos ⟨hk.1, hk.2, h0, h1⟩]
        have HV := Lib.hid (And.intro hv hc)
        have HPB := Lib.hid (pwS_bd m)
        clear hv hc hm
        go_enter Tryd.func22, Tryd.ntmps22
        go_wp2_with fail
        refine HR2.out.mono ?_
        rintro e w1 ⟨rfl, hb⟩
        have HB := Lib.hid hb.below
        clear hb
        go_wp2_with fail
        refine (HRo.out w1).mono ?_
        rintro e w2 ⟨⟨b, rfl, _, hcl⟩, hb2⟩
        have HB2 := Lib.hid (HB.out.trans (hb2.mono HB.out.size))
        have HC := Lib.hid hcl
        clear hb2 hcl
        go_wp2_with fail
        refine (rollerW1 (pwS m) hash first next b w2 HPB.out.1 HPB.out.2 h0 h1 HC.out).mono ?_
        rintro e w3 ⟨rfl, hb3⟩
        have HB3 := Lib.hid (HB2.out.trans (hb3.mono HB2.out.size))
        clear hb3
        go_wp2_with fail
        go_ret2
        rw [HV.out.1, HV.out.2]
        exact ⟨rfl, HB3.out⟩
      · have hv : rollV hash first next k = 0 := by unfold rollV; rw [if_neg (by omega)]
        have hc : rollC hash k = 2 := by unfold rollC; rw [if_neg (by omega)]
        have HV := Lib.hid (And.intro hv hc)
        clear hv hc hm
        have d1 : decide (hash ≥ 2147483647) = true := by rw [decide_eq_true_iff]; omega
        go_enter Tryd.func22, Tryd.ntmps22
        go_wp2_with fail
        refine HR2.out.mono ?_
        rintro e w1 ⟨rfl, hb⟩
        have HB := Lib.hid hb.below
        clear hb
        go_wp2_with fail
        go_ret2
        rw [HV.out.1, HV.out.2]
        exact ⟨rfl, HB.out⟩
    · have hv : rollV hash first next k = 0 := by unfold rollV; rw [if_neg (by omega)]
      have hc : rollC hash k = 2 := by unfold rollC; rw [if_neg (by omega)]
      have HV := Lib.hid (And.intro hv hc)
      clear hv hc hm
      have d0 : decide (hash < 0) = true := by rw [decide_eq_true_iff]; omega
      go_enter Tryd.func22, Tryd.ntmps22
      go_wp2_with fail
      refine HR2.out.mono ?_
      rintro e w1 ⟨rfl, hb⟩
      have HB := Lib.hid hb.below
      clear hb
      go_wp2_with fail
      go_ret2
      rw [HV.out.1, HV.out.2]
      exact ⟨rfl, HB.out⟩
  · have hv : rollV hash first next k = 0 := by unfold rollV; rw [if_neg (by omega)]
    have hc : rollC hash k = 2 := by unfold rollC; rw [if_neg (by omega)]
    have HV := Lib.hid (And.intro hv hc)
    clear hv hc
    have HR1 := HR.out
    rw [decide_eq_false hk] at HR1
    have HR2 := Lib.hid HR1
    clear HR HR1
    go_enter Tryd.func22, Tryd.ntmps22
    go_wp2_with fail
    refine HR2.out.mono ?_
    rintro e w1 ⟨rfl, hb⟩
    have HB := Lib.hid hb.below
    clear hb
    go_wp2_with fail
    go_ret2
    rw [HV.out.1, HV.out.2]
    exact ⟨rfl, HB.out⟩
end Go.Proofs.YtpkjiimcoepjpaaDoor

namespace Go.Proofs.YtpkjiimcoepjpaaDoor
set_option linter.unusedVariables false
set_option linter.unusedSimpArgs false
open Go.RowKit

/-- Every edge that binds points back. -/
def backB (ops : Array Oper) : Bool := (List.range ops.size).all fun i => ((ops[i]?).map fun o => o.after.all fun e => !Region.binds .any e || decide (e.on < i)).getD true

theorem ready_of {ops : Array Oper} {L : Array Bool} {i : Nat} (h : i ∈ Region.ready .any ops L) : i < ops.size ∧ L.getD i true = false ∧ ∃ o, ops[i]? = some o ∧ ∀ e ∈ o.after, Region.binds .any e = true → L.getD e.on false = true := by
  unfold Region.ready at h
  rw [List.mem_filter, List.mem_range] at h
  obtain ⟨h1, h2⟩ := h
  obtain ⟨h2, h3⟩ := Bool.and_eq_true_iff.1 h2
  refine ⟨h1, by simpa using h2, ?_⟩
  cases ho : ops[i]? with
  | none => rw [ho] at h3; simp at h3
  | some o =>
    rw [ho] at h3
    refine ⟨o, rfl, fun e he hb => ?_⟩
    simp only [Option.map_some, Option.getD_some] at h3
    have := Array.all_eq_true_iff_forall_mem.1 h3 e he
    rw [hb] at this
    simpa using this
theorem all_done {ops : Array Oper} (hback : backB ops = true) {L : Array Bool} (hs : L.size = ops.size) (h : Region.ready .any ops L = []) : ∀ i, i < ops.size → L.getD i false = true := by
  intro i
  induction i using Nat.strongRecOn with
  | _ i ih =>
    intro hi
    have hb := List.all_eq_true.1 hback i (List.mem_range.2 hi)
    have hge : L.getD i false = L[i]'(by omega) := by simp [Array.getD, show i < L.size by omega]
    have hgt : L.getD i true = L[i]'(by omega) := by simp [Array.getD, show i < L.size by omega]
    rw [hge]
    cases hl : L[i]'(by omega) with
    | true => rfl
    | false =>
      exfalso
      have hmem : i ∈ Region.ready .any ops L := by
        unfold Region.ready
        rw [List.mem_filter, List.mem_range]
        refine ⟨hi, ?_⟩
        rw [hgt, hl]
        simp only [Bool.not_false, Bool.true_and]
        rw [Array.getElem?_eq_getElem hi] at hb ⊢
        simp only [Option.map_some, Option.getD_some] at hb ⊢
        rw [Array.all_eq_true_iff_forall_mem] at hb ⊢
        intro e he
        have h2 := hb e he
        cases hbe : Region.binds .any e with
        | false => simp
        | true =>
          rw [hbe] at h2
          have hlt : e.on < i := by simpa using h2
          simp [ih e.on hlt (by omega)]
      rw [h] at hmem
      cases hmem

def falses (L : Array Bool) : Nat := (L.toList.filter (! ·)).length
theorem falses_set {L : Array Bool} {i : Nat} (hi : i < L.size) (h : L[i] = false) : falses (L.setIfInBounds i true) + 1 = falses L := by
  have key : ∀ (l : List Bool) (i : Nat) (hi : i < l.length), l[i] = false → ((l.set i true).filter (! ·)).length + 1 = (l.filter (! ·)).length := by
    intro l
    induction l with
    | nil => intro i hi; simp at hi
    | cons b l ih =>
      intro i hi h
      cases i with
      | zero =>
        simp only [List.getElem_cons_zero] at h
        subst h
        simp
      | succ i =>
        simp only [List.getElem_cons_succ] at h
        have := ih i (by simpa using hi) h
        simp only [List.set_cons_succ, List.filter_cons]
        split <;> simp_all
  unfold falses
  rw [Array.toList_setIfInBounds]
  exact key L.toList i (by simpa using hi) (by simpa using h)

theorem wpAny_inv {P : Program} {ops : Array Oper} {Q : Exit → Act → World → Prop} (hback : backB ops = true) (Inv : Array Bool → Act → World → Prop)
    (hstep : ∀ (i : Nat) (o : Oper) (L : Array Bool) (a : Act) (w : World), ops[i]? = some o → L.size = ops.size → Inv L a w → L.getD i false = false → (∀ e ∈ o.after, Region.binds .any e = true → L.getD e.on false = true) →
      if Region.wanted o (yielded ops a.tmps) then o.wp P a w (Inv (L.setIfInBounds i true)) Q else Inv (L.setIfInBounds i true) (a.put o.dst undef) w)
    (hend : ∀ (L : Array Bool) (a : Act) (w : World), L.size = ops.size → (∀ i, i < ops.size → L.getD i false = true) → Inv L a w → Q .normal a w) :
    ∀ (fuel : Nat) (L : Array Bool) (a : Act) (w : World), L.size = ops.size → falses L ≤ fuel → Inv L a w → wpAny P .any ops Q fuel L a w := by
  intro fuel
  induction fuel with
  | zero =>
    intro L a w hs hf hi
    have hr : Region.ready .any ops L = [] := by
      apply List.eq_nil_iff_forall_not_mem.2
      intro i hm
      obtain ⟨h1, h2, _⟩ := ready_of hm
      have : L[i]'(by omega) = false := by simpa [Array.getD, show i < L.size by omega] using h2
      have := falses_set (L := L) (i := i) (by omega) this
      omega
    exact ⟨hr, hend L a w hs (all_done hback hs hr) hi⟩
  | succ n ih =>
    intro L a w hs hf hi
    refine ⟨fun hr => hend L a w hs (all_done hback hs hr) hi, fun i hm => ?_⟩
    obtain ⟨h1, h2, o, ho, h3⟩ := ready_of hm
    have hl : L[i]'(by omega) = false := by simpa [Array.getD, show i < L.size by omega] using h2
    have hst := hstep i o L a w ho hs hi (by simp [Array.getD, show i < L.size by omega, hl]) h3
    have hf2 := falses_set (L := L) (i := i) (by omega) hl
    unfold wpOp
    simp only [ho]
    by_cases hw : Region.wanted o (yielded ops a.tmps) = true
    · rw [if_pos hw] at hst ⊢
      exact .inl (Oper.wp_mono (fun a' w' h => ih _ a' w' (by simpa using hs) (by omega) h) hst)
    · rw [if_neg hw] at hst ⊢
      exact ih _ _ _ (by simpa using hs) (by omega) hst

theorem wp_region_inv {P : Program} {id : Nat} {ops : Array Oper} {Q : Exit → Act → World → Prop} {a : Act} {w : World} (hm : P.follows .mixedOrders = true) (hback : backB ops = true) (Inv : Array Bool → Act → World → Prop)
    (h0 : Inv (Array.replicate ops.size false) a w.drew)
    (hstep : ∀ (i : Nat) (o : Oper) (L : Array Bool) (a : Act) (w : World), ops[i]? = some o → L.size = ops.size → Inv L a w → L.getD i false = false → (∀ e ∈ o.after, Region.binds .any e = true → L.getD e.on false = true) →
      if Region.wanted o (yielded ops a.tmps) then o.wp P a w (Inv (L.setIfInBounds i true)) Q else Inv (L.setIfInBounds i true) (a.put o.dst undef) w)
    (hend : ∀ (L : Array Bool) (a : Act) (w : World), L.size = ops.size → (∀ i, i < ops.size → L.getD i false = true) → Inv L a w → Q .normal a w) : (Code.region id ops true).wp P Q a w := by
  refine wp_region_any hm (wpAny_inv hback Inv hstep hend ops.size _ a _ (by simp) ?_ h0)
  unfold falses
  exact Nat.le_trans (List.length_filter_le _ _) (by simp)
def dstOf (ops : Array Oper) (i : Nat) : Option Nat := (ops[i]?).bind (·.dst)
def updF (f : Nat → Value) (i : Nat) (v : Value) : Nat → Value := fun j => if j = i then v else f j
theorem updF_same (f : Nat → Value) (i : Nat) (v : Value) : updF f i v i = v := by simp [updF]
theorem updF_other (f : Nat → Value) {i j : Nat} (v : Value) (h : j ≠ i) : updF f i v j = f j := by simp [updF, h]
/-- The slots behind the region, all done. -/
def setAll (f : Nat → Value) : Nat → List (Option Nat) → Array Value → Array Value
  | _, [], b => b
  | i, none :: r, b => setAll f (i + 1) r b
  | i, some d :: r, b => setAll f (i + 1) r (b.setIfInBounds d (f i))

theorem getD_setv (b : Array Value) (d s : Nat) (v : Value) : (b.setIfInBounds d v).getD s undef = if d = s ∧ d < b.size then v else b.getD s undef := by
  simp only [Array.getD_eq_getD_getElem?, Array.getElem?_setIfInBounds]
  by_cases h : d = s
  · subst h
    by_cases h2 : d < b.size
    · simp [h2]
    · simp [h2]
  · simp [h]
theorem arr_ext {a b : Array Value} (hs : a.size = b.size) (h : ∀ s, a.getD s undef = b.getD s undef) : a = b := by
  apply Array.ext hs
  intro i h1 h2
  have := h i
  simpa [Array.getD, h1, h2] using this
theorem setAll_size (f : Nat → Value) : ∀ (r : List (Option Nat)) (i : Nat) (b : Array Value), (setAll f i r b).size = b.size
  | [], _, _ => rfl
  | none :: r, i, b => setAll_size f r (i + 1) b
  | some d :: r, i, b => by unfold setAll; rw [setAll_size f r (i + 1)]; simp
theorem setAll_base (f : Nat → Value) (s : Nat) : ∀ (r : List (Option Nat)) (i : Nat) (b : Array Value), (∀ j : Nat, r[j]? ≠ some (some s)) → (setAll f i r b).getD s undef = b.getD s undef
  | [], _, _, _ => rfl
  | none :: r, i, b, h => setAll_base f s r (i + 1) b (fun j => by have := h (j + 1); simpa using this)
  | some d :: r, i, b, h => by
    unfold setAll
    rw [setAll_base f s r (i + 1) _ (fun j => by have := h (j + 1); simpa using this), getD_setv, if_neg]
    rintro ⟨rfl, _⟩
    exact h 0 (by simp)
theorem setAll_get (f : Nat → Value) (s : Nat) : ∀ (r : List (Option Nat)) (i : Nat) (b : Array Value) (j : Nat), r[j]? = some (some s) → (∀ k : Nat, r[k]? = some (some s) → k = j) → s < b.size → (setAll f i r b).getD s undef = f (i + j)
  | [], _, _, _, h, _, _ => by simp at h
  | none :: r, i, b, j, h, hu, hs => by
    cases j with
    | zero => simp at h
    | succ j =>
      have := setAll_get f s r (i + 1) b j (by simpa using h) (fun k hk => by have := hu (k + 1) (by simpa using hk); omega) hs
      unfold setAll
      rw [this]
      congr 1
      omega
  | some d :: r, i, b, j, h, hu, hs => by
    cases j with
    | zero =>
      simp only [List.getElem?_cons_zero, Option.some.injEq] at h
      subst h
      unfold setAll
      rw [setAll_base f d r (i + 1) _ (fun j hj => by have := hu (j + 1) (by simpa using hj); omega), getD_setv, if_pos ⟨rfl, hs⟩]
      rfl
    | succ j =>
      have := setAll_get f s r (i + 1) (b.setIfInBounds d (f i)) j (by simpa using h) (fun k hk => by have := hu (k + 1) (by simpa using hk); omega) (by simpa using hs)
      unfold setAll
      rw [this]
      congr 1
      omega

/-- Distinct slots, all inside. -/
def slotsOk (ds : List (Option Nat)) (n : Nat) : Bool := (List.range ds.length).all fun i => (List.range ds.length).all fun j => match ds[i]?, ds[j]? with
  | some (some a), some (some b) => (a != b || i == j) && decide (a < n)
  | _, _ => true
theorem slotsOk_get {ds : List (Option Nat)} {n : Nat} (h : slotsOk ds n = true) {i j a : Nat} (hi : ds[i]? = some (some a)) (hj : ds[j]? = some (some a)) : i = j ∧ a < n := by
  have h1 := List.all_eq_true.1 h i (List.mem_range.2 (List.getElem?_eq_some_iff.1 hi).1)
  have h2 := List.all_eq_true.1 h1 j (List.mem_range.2 (List.getElem?_eq_some_iff.1 hj).1)
  rw [hi, hj] at h2
  simpa using h2
/-- What an operation's meaning leans on lies behind its edges. -/
def depsOk (ops : Array Oper) (deps : Nat → List Nat) : Bool := (List.range ops.size).all fun j => (deps j).all fun k => k == j || ((ops[j]?).map fun o => o.after.any fun e => Region.binds .any e && (k == e.on || (deps e.on).contains k)).getD false

structure MInv (ops : Array Oper) (b : Array Value) (ds : List Deferred) (M : Nat → (Nat → Value) → World → Prop) (I : Array Bool → (Nat → Value) → World → Prop) (L : Array Bool) (f : Nat → Value) (a : Act) (W : World) : Prop where
  sz : a.tmps.size = b.size
  df : a.defers = ds
  bs : ∀ s, (∀ j, L.getD j false = true → dstOf ops j ≠ some s) → a.tmps.getD s undef = b.getD s undef
  sl : ∀ j d, L.getD j false = true → dstOf ops j = some d → a.tmps.getD d undef = f j
  cl : ∀ j o, ops[j]? = some o → L.getD j false = true → ∀ e ∈ o.after, Region.binds .any e = true → L.getD e.on false = true
  me : ∀ j, L.getD j false = true → M j f W
  iv : I L f W

theorem getDs {L : Array Bool} {i : Nat} (hi : i < L.size) (j : Nat) : (L.setIfInBounds i true).getD j false = (decide (j = i) || L.getD j false) := by
  simp only [Array.getD_eq_getD_getElem?, Array.getElem?_setIfInBounds]
  by_cases h : i = j
  · subst h; simp [hi]
  · rw [if_neg h]; simp [show ¬ j = i from fun e => h e.symm]

theorem MInv.deps {ops : Array Oper} {b : Array Value} {ds : List Deferred} {M : Nat → (Nat → Value) → World → Prop} {I : Array Bool → (Nat → Value) → World → Prop} {L : Array Bool} {f : Nat → Value} {a : Act} {W : World}
    (h : MInv ops b ds M I L f a W) (hL : L.size = ops.size) (hback : backB ops = true) {deps : Nat → List Nat} (hd : depsOk ops deps = true) : ∀ j, L.getD j false = true → ∀ k ∈ deps j, L.getD k false = true := by
  intro j
  induction j using Nat.strongRecOn with
  | _ j ih =>
    intro hj k hk
    have hlt : j < ops.size := by
      rw [← hL]
      by_cases hlt : j < L.size
      · exact hlt
      · simp [Array.getD, hlt] at hj
    have h1 := List.all_eq_true.1 hd j (List.mem_range.2 hlt)
    have h2 := List.all_eq_true.1 h1 k hk
    rcases Bool.or_eq_true_iff.1 h2 with h2 | h2
    · have : k = j := by simpa using h2
      rw [this]; exact hj
    · have hb := List.all_eq_true.1 hback j (List.mem_range.2 hlt)
      rw [Array.getElem?_eq_getElem hlt] at h2 hb
      simp only [Option.map_some, Option.getD_some] at h2 hb
      obtain ⟨e, he, h3⟩ := Array.any_eq_true'.1 h2
      obtain ⟨h3, h4⟩ := Bool.and_eq_true_iff.1 h3
      have hon := h.cl j _ (Array.getElem?_eq_getElem hlt) hj e he h3
      rw [Array.all_eq_true_iff_forall_mem] at hb
      have hbe := hb e he
      rw [h3] at hbe
      have hlt2 : e.on < j := by simpa using hbe
      rcases Bool.or_eq_true_iff.1 h4 with h4 | h4
      · have : k = e.on := by simpa using h4
        rw [this]; exact hon
      · exact ih e.on hlt2 hon k (by simpa using h4)

/-- The rule. 'M j f W': what operation j's result f j means, once it is done; 'I': what is true besides. -/
theorem wp_region_M {P : Program} {id : Nat} {ops : Array Oper} {Q : Exit → Act → World → Prop} {b : Array Value} {df : List Deferred} {w : World} (hm : P.follows .mixedOrders = true) (hback : backB ops = true)
    (ds : List (Option Nat)) (hds : ops.toList.map (·.dst) = ds) (hok : slotsOk ds b.size = true) (hng : (ops.all fun o => o.guard.isNone) = true)
    (M : Nat → (Nat → Value) → World → Prop) (I : Array Bool → (Nat → Value) → World → Prop) (deps : Nat → List Nat) (hdeps : depsOk ops deps = true)
    (hdep : ∀ j f f' W, (∀ k ∈ deps j, f k = f' k) → M j f W → M j f' W)
    (h0 : I (Array.replicate ops.size false) (fun _ => undef) w.drew)
    (hstep : ∀ (i : Nat) (o : Oper) (L : Array Bool) (f : Nat → Value) (a : Act) (W : World), ops[i]? = some o → L.size = ops.size → I L f W → (∀ j, L.getD j false = true → M j f W) → L.getD i false = false →
      (∀ e ∈ o.after, Region.binds .any e = true → L.getD e.on false = true) → (∀ s, (∀ j, L.getD j false = true → ds[j]? ≠ some (some s)) → a.tmps.getD s undef = b.getD s undef) → (∀ j d, L.getD j false = true → ds[j]? = some (some d) → a.tmps.getD d undef = f j) →
      (∀ j, L.getD j false = true → ∀ k ∈ deps j, L.getD k false = true) → ∀ K : Act → World → Prop, (∀ v W', I (L.setIfInBounds i true) (updF f i v) W' → (∀ j, j ≠ i → L.getD j false = true → M j f W → M j f W') → M i (updF f i v) W' → K (a.put o.dst v) W') → o.wp P a W K Q)
    (hend : ∀ (L : Array Bool) (f : Nat → Value) (W : World), L.size = ops.size → (∀ j, j < ops.size → L.getD j false = true) → I L f W → (∀ j, j < ops.size → M j f W) → Q .normal ⟨setAll f 0 ds b, df⟩ W) : (Code.region id ops true).wp P Q ⟨b, df⟩ w := by
  have hdst : ∀ j, dstOf ops j = (ds[j]?).join := fun j => by
    unfold dstOf
    rw [← hds, List.getElem?_map, Array.getElem?_toList]
    cases ops[j]? <;> rfl
  have hdlen : ds.length = ops.size := by rw [← hds]; simp
  have hdsome : ∀ j d, dstOf ops j = some d ↔ ds[j]? = some (some d) := fun j d => by
    rw [hdst]
    cases ds[j]? with
    | none => simp
    | some x => simp
  have hLlt : ∀ (L : Array Bool) j, L.size = ops.size → L.getD j false = true → j < ops.size := fun L j hL hj => by
    rw [← hL]
    by_cases hlt : j < L.size
    · exact hlt
    · simp [Array.getD, hlt] at hj
  refine wp_region_inv hm hback (fun L a W => ∃ f, MInv ops b df M I L f a W) ⟨fun _ => undef, rfl, rfl, fun s _ => rfl, fun j d h => ?_, fun j o _ h => ?_, fun j h => ?_, h0⟩ ?_ ?_
  · simp [Array.getD] at h
  · simp [Array.getD] at h
  · simp [Array.getD] at h
  · rintro i o L a W ho hL ⟨f, h⟩ hf hpre
    have hg : o.guard = none := by
      have := Array.all_eq_true'.1 hng o (Array.mem_of_getElem? ho)
      simpa using this
    have hw : Region.wanted o (yielded ops a.tmps) = true := by simp [Region.wanted, hg]
    rw [if_pos hw]
    have hi : i < ops.size := (Array.getElem?_eq_some_iff.1 ho).1
    have hiL : i < L.size := by omega
    refine hstep i o L f a W ho hL h.iv h.me hf hpre (fun s hs => h.bs s fun j hj hd => hs j hj ((hdsome j s).1 hd)) (fun j d hj hd => h.sl j d hj ((hdsome j d).2 hd)) (h.deps hL hback hdeps) _ ?_
    intro v W' hI hmono hM
    have hdi : dstOf ops i = o.dst := by unfold dstOf; rw [ho]; rfl
    refine ⟨updF f i v, ?_, ?_, fun s hs => ?_, fun j d hj hd => ?_, fun j o' ho' hj e he hb => ?_, fun j hj => ?_, hI⟩
    · have := h.sz
      unfold Act.put
      split <;> simp [this]
    · have := h.df
      unfold Act.put
      split <;> simp [this]
    · have h1 := h.bs s (fun j hj => hs j (by rw [getDs hiL, hj]; simp))
      have h2 := hs i (by rw [getDs hiL]; simp)
      rw [hdi] at h2
      unfold Act.put
      split
      · rename_i d hd
        simp only
        rw [getD_setv, if_neg, h1]
        rintro ⟨rfl, _⟩
        exact h2 hd
      · exact h1
    · rw [getDs hiL] at hj
      by_cases hij : j = i
      · subst hij
        rw [updF_same]
        rw [hdi] at hd
        rw [hd]
        unfold Act.put
        simp only
        have hlt := (slotsOk_get hok ((hdsome j d).1 (by rw [hdi, hd])) ((hdsome j d).1 (by rw [hdi, hd]))).2
        rw [getD_setv, if_pos ⟨rfl, by rw [h.sz]; exact hlt⟩]
      · have hj' : L.getD j false = true := by simpa [hij] using hj
        rw [updF_other _ _ hij, ← h.sl j d hj' hd]
        unfold Act.put
        split
        · rename_i d' hd'
          simp only
          rw [getD_setv, if_neg]
          rintro ⟨rfl, _⟩
          exact hij (slotsOk_get hok ((hdsome j d').1 hd) ((hdsome i d').1 (by rw [hdi, hd']))).1
        · rfl
    · rw [getDs hiL] at hj ⊢
      by_cases hij : j = i
      · subst hij
        obtain rfl : o' = o := Option.some.inj (ho'.symm.trans ho)
        rw [hpre e he hb]; simp
      · rw [h.cl j o' ho' (by simpa [hij] using hj) e he hb]; simp
    · rw [getDs hiL] at hj
      by_cases hij : j = i
      · rw [hij]; exact hM
      · have hj' : L.getD j false = true := by simpa [hij] using hj
        refine hdep j f _ W' (fun k hk => ?_) (hmono j hij hj' (h.me j hj'))
        have := h.deps hL hback hdeps j hj' k hk
        rw [updF_other]
        rintro rfl
        rw [hf] at this
        cases this
  · rintro L a W hL hall ⟨f, h⟩
    have ha : a = ⟨setAll f 0 ds b, df⟩ := by
      obtain ⟨t, d⟩ := a
      have h1 : d = df := h.df
      have h2 : t = setAll f 0 ds b := by
        refine arr_ext ((h.sz).trans (setAll_size f ds 0 b).symm) fun s => ?_
        by_cases hs : ∃ j : Nat, ds[j]? = some (some s)
        · obtain ⟨j, hj⟩ := hs
          have hjl : j < ops.size := by rw [← hdlen]; exact (List.getElem?_eq_some_iff.1 hj).1
          rw [setAll_get f s ds 0 b j hj (fun k hk => (slotsOk_get hok hk hj).1) (slotsOk_get hok hj hj).2, Nat.zero_add]
          exact h.sl j s (hall j hjl) ((hdsome j s).2 hj)
        · rw [setAll_base f s ds 0 b (fun j hj => hs ⟨j, hj⟩)]
          exact h.bs s (fun j hj hd => hs ⟨j, (hdsome j s).1 hd⟩)
      rw [h1, h2]
    rw [ha]
    exact hend L f W hL hall h.iv (fun j hj => h.me j (hall j hj))
end Go.Proofs.YtpkjiimcoepjpaaDoor

namespace Go.Proofs.YtpkjiimcoepjpaaDoor
set_option linter.unusedVariables false
set_option linter.unusedSimpArgs false
open Go.RowKit

def firstReg (k : Nat) : Code → Option (Array Oper)
  | .region j ops _ => if j = k then some ops else none
  | .seq x y => match firstReg k x with | some o => some o | none => firstReg k y
  | .cond _ x y => match firstReg k x with | some o => some o | none => firstReg k y
  | .block _ x => firstReg k x
  | .loop x => firstReg k x
  | .scope x => firstReg k x
  | _ => none
theorem notT {x : Bool} (h : x = false) : ¬ x = true := by rw [h]; simp
theorem hltW {w : World} {b : Nat} {o : Obj} (h : w.heap[b]? = some o) : b < w.heap.size := (Array.getElem?_eq_some_iff.1 h).1
theorem inf3 : (Tryd.prog.info? 3).map (fun i => (i.zero, i.size, i.bytes)) = some (some (.int .i64 0), 1, 8) := by kernel_rfl
def ints (l : List Int) : List Value := l.map (Value.int .i64)
theorem ownKeep {w w1 : World} {base : Nat} {e : TypeId} {size n : Nat} {v : Value} {xs : List Value} (h : w.ownsRow base e size v n xs) (hb : Below w.heap.size w w1) : w1.ownsRow base e size v n xs :=
  h.kept (row := none) ⟨hb.os, hb.tape, hb.output, hb.size, fun k hk _ => hb.block k hk⟩ (by cases hv : v.ownBlock <;> simp)

noncomputable def ops12 : Array Oper := ((Tryd.f20.body.bind (firstReg 12)).getD #[])
def ds12 : List (Option Nat) := [some 39, some 40, some 41, some 42, some 43, some 44, some 45, some 46, some 47, some 48, some 49, some 50, some 51, some 52, some 6]
def deps12 : Nat → List Nat
  | 14 => [0, 1, 2, 3, 4, 5, 6, 7, 8, 9, 10, 11, 12, 13, 14]
  | 13 => [0, 5, 9, 11, 12, 13]
  | 12 => [5, 9, 11, 12]
  | 11 => [5, 9, 11]
  | j => [j]
structure P12 where
  w0 : World
  base : Nat
  g : Nat
  m : Nat
  cap : Nat
  hs : List Int
  bq : Nat
  most : Int
  i : Nat
  hi : Int
  si : Int
  nx : Int
  bS : Nat
  oS : Nat
  n : Nat
  c : Nat
def P12.fv (P : P12) : Value := .func (.func 45) #[] #[.pointer (some ⟨P.bq, 0, none⟩)]
def P12.new (P : P12) : Int := rollS P.most P.hi P.si P.nx
structure P12.Ok (P : P12) : Prop where
  own : P.w0.ownsRow P.base 3 1 (.slice (some ⟨P.g, 0, none⟩) P.m P.cap) P.m (ints P.hs)
  base : P.base ≤ P.w0.heap.size
  cell : P.w0.cell? ⟨P.bq, 0, none⟩ = some (.int .i64 P.most)
  m0 : 0 ≤ P.most
  m1 : P.most < 2147483647
  h0 : 0 ≤ P.hi
  h1 : P.hi < 2147483647
  hI : P.i < P.m
  at_ : P.w0.cell? ⟨P.g, P.i, none⟩ = some (.int .i64 P.hi)
  sI : P.i < P.n
  sat : P.w0.cell? ⟨P.bS, P.oS + P.i, none⟩ = some (.int .i64 P.si)
  mm : P.m ≤ 1000000
def M12 (P : P12) : Nat → (Nat → Value) → World → Prop
  | 0, f, _ => f 0 = .slice (some ⟨P.g, 0, none⟩) P.m P.cap
  | 1, f, _ => f 1 = P.fv
  | 2, f, _ => f 2 = .slice (some ⟨P.g, 0, none⟩) P.m P.cap
  | 3, f, _ => f 3 = .int .i64 (P.i : Nat)
  | 4, f, _ => f 4 = .pointer (some ⟨P.g, P.i, none⟩)
  | 5, f, _ => f 5 = .int .i64 P.hi
  | 6, f, _ => f 6 = .slice (some ⟨P.bS, P.oS, none⟩) P.n P.c
  | 7, f, _ => f 7 = .int .i64 (P.i : Nat)
  | 8, f, _ => f 8 = .pointer (some ⟨P.bS, P.oS + P.i, none⟩)
  | 9, f, _ => f 9 = .int .i64 P.si
  | 10, f, _ => f 10 = .int .i64 P.nx
  | 11, f, _ => f 11 = .int .i64 P.new
  | 14, f, _ => f 14 = f 13
  | _, _, _ => True
theorem M12_w {P : P12} (j : Nat) {f : Nat → Value} {W : World} (W' : World) (h : M12 P j f W) : M12 P j f W' := by
  rcases j with _ | _ | _ | _ | _ | _ | _ | _ | _ | _ | _ | _ | _ | _ | _ | j <;> exact h
structure I12 (P : P12) (L : Array Bool) (f : Nat → Value) (W : World) : Prop where
  pre : L.getD 13 false = false → Below P.w0.heap.size P.w0 W
  post : L.getD 13 false = true → ∃ g' cap', f 13 = .slice (some ⟨g', 0, none⟩) (P.m + 1) cap' ∧ W.ownsRow P.base 3 1 (.slice (some ⟨g', 0, none⟩) (P.m + 1) cap') (P.m + 1) (ints (P.hs ++ [P.new])) ∧ Below P.base P.w0 W ∧ (∀ q, q < P.w0.heap.size → q ≠ P.g → W.heap[q]? = P.w0.heap[q]?) ∧ (g' = P.g ∨ P.w0.heap.size ≤ g')
  box : L.getD 12 false = true → L.getD 13 false = false → ∃ p, f 12 = .slice (some ⟨p, 0, none⟩) 1 1 ∧ W.heap[p]? = some (.cells #[.int .i64 P.new] 3 (0, 0))
theorem I12.pure {P : P12} {L : Array Bool} {f : Nat → Value} {W : World} (h : I12 P L f W) (hL : L.size = 15) {i : Nat} (hi : i < 15) (h1 : i ≠ 12) (h2 : i ≠ 13) (v : Value) : I12 P (L.setIfInBounds i true) (updF f i v) W := by
  have k : ∀ j, j ≠ i → (L.setIfInBounds i true).getD j false = L.getD j false := fun j hj => by rw [getDs (by omega)]; simp [hj]
  obtain ⟨h3, h4, h5⟩ := h
  refine ⟨?_, ?_, ?_⟩ <;> simp only [k 12 (Ne.symm h1), k 13 (Ne.symm h2), updF_other f v (Ne.symm h1), updF_other f v (Ne.symm h2)] <;> assumption
theorem I12.call {P : P12} {L : Array Bool} {f : Nat → Value} {W W' : World} (h : I12 P L f W) (hL : L.size = 15) (hf12 : L.getD 12 false = false) (hf13 : L.getD 13 false = false) (hb : Below W.heap.size W W') (v : Value) : I12 P (L.setIfInBounds 11 true) (updF f 11 v) W' := by
  have k : ∀ j, j ≠ 11 → (L.setIfInBounds 11 true).getD j false = L.getD j false := fun j hj => by rw [getDs (by omega)]; simp [hj]
  refine ⟨?_, ?_, ?_⟩ <;> simp only [k 12 (by omega), k 13 (by omega)]
  · intro _; exact (h.pre hf13).trans (hb.mono (h.pre hf13).size)
  · intro l; exact absurd l (notT hf13)
  · intro l; exact absurd l (notT hf12)
theorem I12.build {P : P12} {L : Array Bool} {f : Nat → Value} {W : World} (h : I12 P L f W) (hL : L.size = 15) (hf13 : L.getD 13 false = false) : I12 P (L.setIfInBounds 12 true) (updF f 12 (.slice (some ⟨W.heap.size, 0, none⟩) 1 1)) (W.alloc (.cells #[.int .i64 P.new] 3)) := by
  have k : ∀ j, j ≠ 12 → (L.setIfInBounds 12 true).getD j false = L.getD j false := fun j hj => by rw [getDs (by omega)]; simp [hj]
  refine ⟨?_, ?_, ?_⟩ <;> simp only [k 13 (by omega), updF_same]
  · intro _; exact (h.pre hf13).alloc (h.pre hf13).size _
  · intro l; exact absurd l (notT hf13)
  · intro _ _; exact ⟨_, rfl, heap_alloc_new W _⟩
theorem I12.app {P : P12} (ok : P.Ok) {L : Array Bool} {f : Nat → Value} {W W' : World} (h : I12 P L f W) (hL : L.size = 15) (hf13 : L.getD 13 false = false) {g' cap' : Nat} (ho : W'.ownsRow P.base 3 1 (.slice (some ⟨g', 0, none⟩) (P.m + 1) cap') (P.m + 1) (ints P.hs ++ [.int .i64 P.new]))
    (hg : W.grownBy W' (some P.g)) (hat : g' = P.g ∨ W.heap.size ≤ g') : I12 P (L.setIfInBounds 13 true) (updF f 13 (.slice (some ⟨g', 0, none⟩) (P.m + 1) cap')) W' := by
  have kk : (L.setIfInBounds 13 true).getD 13 false = true := by rw [getDs (by omega)]; simp
  have hgl := ok.own.lt P.g rfl
  refine ⟨fun l => ?_, fun _ => ?_, fun _ l => ?_⟩
  · rw [kk] at l; cases l
  · refine ⟨g', cap', updF_same _ _ _, by unfold ints at *; rw [List.map_append]; exact ho, ?_, ?_, ?_⟩
    all_goals have hb := h.pre hf13
    · exact (hb.mono ok.base).grown hg (by have := hb.size; have := ok.base; omega) (fun q hq => by injection hq with hq; omega)
    · intro q hq hne
      rw [hg.block q (Nat.lt_of_lt_of_le hq hb.size) (fun e => by injection e with e; exact hne e)]
      exact hb.block q hq
    · rcases hat with h1 | h1
      · exact .inl h1
      · exact .inr (Nat.le_trans hb.size h1)
  · rw [kk] at l; cases l

set_option maxRecDepth 100000 in
set_option maxHeartbeats 1000000 in
theorem region12 (P : P12) (ok : P.Ok) (b : Array Value) (hb : b.size = 55) (b0 : b.getD 0 undef = .slice (some ⟨P.bS, P.oS, none⟩) P.n P.c) (b6 : b.getD 6 undef = .slice (some ⟨P.g, 0, none⟩) P.m P.cap) (b7 : b.getD 7 undef = P.fv) (b8 : b.getD 8 undef = .int .i64 (P.i : Nat)) (b9 : b.getD 9 undef = .int .i64 P.nx)
    (Q : Exit → Act → World → Prop) (w : World) (hw : Below P.w0.heap.size P.w0 w)
    (hend : ∀ (f : Nat → Value) (W : World) (g' cap' : Nat), f 13 = .slice (some ⟨g', 0, none⟩) (P.m + 1) cap' → f 14 = f 13 → W.ownsRow P.base 3 1 (.slice (some ⟨g', 0, none⟩) (P.m + 1) cap') (P.m + 1) (ints (P.hs ++ [P.new])) → Below P.base P.w0 W → (∀ q, q < P.w0.heap.size → q ≠ P.g → W.heap[q]? = P.w0.heap[q]?) → (g' = P.g ∨ P.w0.heap.size ≤ g') → Q .normal ⟨setAll f 0 ds12 b, []⟩ W) :
    (Code.region 12 ops12 true).wp Tryd.prog Q ⟨b, []⟩ w := by
  obtain ⟨i3, hi3, hz0, hz1, hz2⟩ := info_parts inf3
  refine wp_region_M (by kernel_rfl) (by kernel_rfl) ds12 (by kernel_rfl) (by rw [hb]; decide) (by kernel_rfl) (M12 P) (I12 P) deps12 (by kernel_rfl) ?_ ?_ ?_ (fun L f W hL hall hI hM => ?_)
  · intro j f f' W h hm
    rcases j with _ | _ | _ | _ | _ | _ | _ | _ | _ | _ | _ | _ | _ | _ | _ | j
    all_goals simp only [deps12, List.mem_cons, List.not_mem_nil, or_false, forall_eq, forall_eq_or_imp, M12, Nat.zero_add, Nat.reduceAdd] at h hm ⊢
    all_goals first | trivial | (rw [← h]; exact hm) | (simp only [← h]; exact hm)
  · refine ⟨fun _ => hw.drew, ?_, ?_⟩ <;> intro e <;> exact absurd e (by simp [Array.getD])
  · intro i o L f a' W ho hs hI hM hf hpre hbs hsl hdc K hK
    have hL : L.size = 15 := hs
    have hi : i < 15 := (Array.getElem?_eq_some_iff.1 ho).1
    conv at ho => lhs; arg 1; whnf
    have hjlt : ∀ j, L.getD j false = true → j < 15 := fun j hj => by
      rw [← hL]
      by_cases hlt : j < L.size
      · exact hlt
      · simp [Array.getD, hlt] at hj
    have nb : ∀ s, (∀ j : Nat, j < 15 → ds12[j]? ≠ some (some s)) → a'.tmps.getD s undef = b.getD s undef := fun s hs => hbs s (fun j hj => hs j (hjlt j hj))
    have s0 := (nb 0 (by decide)).trans b0
    have s7 := (nb 7 (by decide)).trans b7
    have s8 := (nb 8 (by decide)).trans b8
    have s9 := (nb 9 (by decide)).trans b9
    have HK := Lib.hid hK
    have HOK := Lib.hid ok
    have hIi : (P.i : Int) < (P.m : Int) := by have := ok.hI; omega
    have hSi : (P.i : Int) < (P.n : Int) := by have := ok.sI; omega
    clear hK nb b0 b7 b8 b9 ok
    rcases i with _ | _ | _ | _ | _ | _ | _ | _ | _ | _ | _ | _ | _ | _ | _ | i
    -- operation 0
    · simp only [List.getElem?_toArray, List.getElem?_cons_zero, List.getElem?_cons_succ, Option.some.injEq] at ho
      subst ho
      simp only [Nat.zero_add, Nat.reduceAdd] at hf hpre ⊢
      have h14 : L.getD 14 false = false := by
        cases h : L.getD 14 false with
        | false => rfl
        | true => rw [hdc 14 h 0 (by simp [deps12])] at hf; cases hf
      have s6 := (hbs 6 (fun j hj hd => by
        have hj14 : j = 14 := by
          have hlt : j < 15 := by have := (List.getElem?_eq_some_iff.1 hd).1; simpa [ds12] using this
          have : j = 0 ∨ j = 1 ∨ j = 2 ∨ j = 3 ∨ j = 4 ∨ j = 5 ∨ j = 6 ∨ j = 7 ∨ j = 8 ∨ j = 9 ∨ j = 10 ∨ j = 11 ∨ j = 12 ∨ j = 13 ∨ j = 14 := by omega
          rcases this with rfl | rfl | rfl | rfl | rfl | rfl | rfl | rfl | rfl | rfl | rfl | rfl | rfl | rfl | rfl
          all_goals first | rfl | (simp [ds12] at hd)
        rw [hj14, h14] at hj; cases hj)).trans b6
      have s6' : a'.tmps[6]?.getD undef = .slice (some ⟨P.g, 0, none⟩) P.m P.cap := by rw [← Array.getD_eq_getD_getElem?]; exact s6
      have HQ := Lib.hid (HK.out (.slice (some ⟨P.g, 0, none⟩) P.m P.cap) W (hI.pure hL (by omega) (by omega) (by omega) _) (fun _ _ _ h => h) (by simp [M12, updF_same]))
      clear hI hM hpre hsl HK hbs hdc
      go_simp
      exact HQ.out
    -- operation 1
    · simp only [List.getElem?_toArray, List.getElem?_cons_zero, List.getElem?_cons_succ, Option.some.injEq] at ho
      subst ho
      simp only [Nat.zero_add, Nat.reduceAdd] at hf hpre ⊢
      have s7' : a'.tmps[7]?.getD undef = P.fv := by rw [← Array.getD_eq_getD_getElem?]; exact s7
      have HQ := Lib.hid (HK.out (P.fv) W (hI.pure hL (by omega) (by omega) (by omega) _) (fun _ _ _ h => h) (by simp [M12, updF_same]))
      clear hI hM hpre hsl HK hbs hdc
      go_simp
      exact HQ.out
    -- operation 2
    · simp only [List.getElem?_toArray, List.getElem?_cons_zero, List.getElem?_cons_succ, Option.some.injEq] at ho
      subst ho
      simp only [Nat.zero_add, Nat.reduceAdd] at hf hpre ⊢
      have h14 : L.getD 14 false = false := by
        cases h : L.getD 14 false with
        | false => rfl
        | true => rw [hdc 14 h 2 (by simp [deps12])] at hf; cases hf
      have s6 := (hbs 6 (fun j hj hd => by
        have hj14 : j = 14 := by
          have hlt : j < 15 := by have := (List.getElem?_eq_some_iff.1 hd).1; simpa [ds12] using this
          have : j = 0 ∨ j = 1 ∨ j = 2 ∨ j = 3 ∨ j = 4 ∨ j = 5 ∨ j = 6 ∨ j = 7 ∨ j = 8 ∨ j = 9 ∨ j = 10 ∨ j = 11 ∨ j = 12 ∨ j = 13 ∨ j = 14 := by omega
          rcases this with rfl | rfl | rfl | rfl | rfl | rfl | rfl | rfl | rfl | rfl | rfl | rfl | rfl | rfl | rfl
          all_goals first | rfl | (simp [ds12] at hd)
        rw [hj14, h14] at hj; cases hj)).trans b6
      have s6' : a'.tmps[6]?.getD undef = .slice (some ⟨P.g, 0, none⟩) P.m P.cap := by rw [← Array.getD_eq_getD_getElem?]; exact s6
      have HQ := Lib.hid (HK.out (.slice (some ⟨P.g, 0, none⟩) P.m P.cap) W (hI.pure hL (by omega) (by omega) (by omega) _) (fun _ _ _ h => h) (by simp [M12, updF_same]))
      clear hI hM hpre hsl HK hbs hdc
      go_simp
      exact HQ.out
    -- operation 3
    · simp only [List.getElem?_toArray, List.getElem?_cons_zero, List.getElem?_cons_succ, Option.some.injEq] at ho
      subst ho
      simp only [Nat.zero_add, Nat.reduceAdd] at hf hpre ⊢
      have s8' : a'.tmps[8]?.getD undef = .int .i64 (P.i : Nat) := by rw [← Array.getD_eq_getD_getElem?]; exact s8
      have HQ := Lib.hid (HK.out (.int .i64 (P.i : Nat)) W (hI.pure hL (by omega) (by omega) (by omega) _) (fun _ _ _ h => h) (by simp [M12, updF_same]))
      clear hI hM hpre hsl HK hbs hdc
      go_simp
      exact HQ.out
    -- operation 4
    · simp only [List.getElem?_toArray, List.getElem?_cons_zero, List.getElem?_cons_succ, Option.some.injEq] at ho
      subst ho
      simp only [Nat.zero_add, Nat.reduceAdd] at hf hpre ⊢
      have l2 := (hpre ⟨2, .data⟩ (by simp) rfl)
      have q2 := (hsl 2 41 l2 rfl).trans (hM 2 l2)
      have l3 := (hpre ⟨3, .data⟩ (by simp) rfl)
      have q3 := (hsl 3 42 l3 rfl).trans (hM 3 l3)
      have q2' : a'.tmps[41]?.getD undef = .slice (some ⟨P.g, 0, none⟩) P.m P.cap := by rw [← Array.getD_eq_getD_getElem?]; exact q2
      have q3' : a'.tmps[42]?.getD undef = .int .i64 (P.i : Nat) := by rw [← Array.getD_eq_getD_getElem?]; exact q3
      have HQ := Lib.hid (HK.out (.pointer (some ⟨P.g, P.i, none⟩)) W (hI.pure hL (by omega) (by omega) (by omega) _) (fun _ _ _ h => h) (by simp [M12, updF_same]))
      clear hI hM hpre hsl HK hbs hdc
      go_simp
      exact HQ.out
    -- operation 5
    · simp only [List.getElem?_toArray, List.getElem?_cons_zero, List.getElem?_cons_succ, Option.some.injEq] at ho
      subst ho
      simp only [Nat.zero_add, Nat.reduceAdd] at hf hpre ⊢
      have l4 := (hpre ⟨4, .data⟩ (by simp) rfl)
      have q4 := (hsl 4 43 l4 rfl).trans (hM 4 l4)
      have q4' : a'.tmps[43]?.getD undef = .pointer (some ⟨P.g, P.i, none⟩) := by rw [← Array.getD_eq_getD_getElem?]; exact q4
      have h13 : L.getD 13 false = false := by
        cases h : L.getD 13 false with
        | false => rfl
        | true => rw [hdc 13 h 5 (by simp [deps12])] at hf; cases hf
      have hc := ((hI.pre h13).cell (p := ⟨P.g, P.i, none⟩) (World.block_lt_of_cell? _ _ HOK.out.at_)).trans HOK.out.at_
      have HQ := Lib.hid (HK.out (.int .i64 P.hi) W (hI.pure hL (by omega) (by omega) (by omega) _) (fun _ _ _ h => h) (by simp [M12, updF_same]))
      clear hI hM hpre hsl HK hbs hdc
      go_simp
      exact HQ.out
    -- operation 6
    · simp only [List.getElem?_toArray, List.getElem?_cons_zero, List.getElem?_cons_succ, Option.some.injEq] at ho
      subst ho
      simp only [Nat.zero_add, Nat.reduceAdd] at hf hpre ⊢
      have s0' : a'.tmps[0]?.getD undef = .slice (some ⟨P.bS, P.oS, none⟩) P.n P.c := by rw [← Array.getD_eq_getD_getElem?]; exact s0
      have HQ := Lib.hid (HK.out (.slice (some ⟨P.bS, P.oS, none⟩) P.n P.c) W (hI.pure hL (by omega) (by omega) (by omega) _) (fun _ _ _ h => h) (by simp [M12, updF_same]))
      clear hI hM hpre hsl HK hbs hdc
      go_simp
      exact HQ.out
    -- operation 7
    · simp only [List.getElem?_toArray, List.getElem?_cons_zero, List.getElem?_cons_succ, Option.some.injEq] at ho
      subst ho
      simp only [Nat.zero_add, Nat.reduceAdd] at hf hpre ⊢
      have s8' : a'.tmps[8]?.getD undef = .int .i64 (P.i : Nat) := by rw [← Array.getD_eq_getD_getElem?]; exact s8
      have HQ := Lib.hid (HK.out (.int .i64 (P.i : Nat)) W (hI.pure hL (by omega) (by omega) (by omega) _) (fun _ _ _ h => h) (by simp [M12, updF_same]))
      clear hI hM hpre hsl HK hbs hdc
      go_simp
      exact HQ.out
    -- operation 8
    · simp only [List.getElem?_toArray, List.getElem?_cons_zero, List.getElem?_cons_succ, Option.some.injEq] at ho
      subst ho
      simp only [Nat.zero_add, Nat.reduceAdd] at hf hpre ⊢
      have l6 := (hpre ⟨6, .data⟩ (by simp) rfl)
      have q6 := (hsl 6 45 l6 rfl).trans (hM 6 l6)
      have l7 := (hpre ⟨7, .data⟩ (by simp) rfl)
      have q7 := (hsl 7 46 l7 rfl).trans (hM 7 l7)
      have q6' : a'.tmps[45]?.getD undef = .slice (some ⟨P.bS, P.oS, none⟩) P.n P.c := by rw [← Array.getD_eq_getD_getElem?]; exact q6
      have q7' : a'.tmps[46]?.getD undef = .int .i64 (P.i : Nat) := by rw [← Array.getD_eq_getD_getElem?]; exact q7
      have HQ := Lib.hid (HK.out (.pointer (some ⟨P.bS, P.oS + P.i, none⟩)) W (hI.pure hL (by omega) (by omega) (by omega) _) (fun _ _ _ h => h) (by simp [M12, updF_same]))
      clear hI hM hpre hsl HK hbs hdc
      go_simp
      exact HQ.out
    -- operation 9
    · simp only [List.getElem?_toArray, List.getElem?_cons_zero, List.getElem?_cons_succ, Option.some.injEq] at ho
      subst ho
      simp only [Nat.zero_add, Nat.reduceAdd] at hf hpre ⊢
      have l8 := (hpre ⟨8, .data⟩ (by simp) rfl)
      have q8 := (hsl 8 47 l8 rfl).trans (hM 8 l8)
      have q8' : a'.tmps[47]?.getD undef = .pointer (some ⟨P.bS, P.oS + P.i, none⟩) := by rw [← Array.getD_eq_getD_getElem?]; exact q8
      have hnot13 : L.getD 13 false = false := by
        cases h : L.getD 13 false with
        | false => rfl
        | true =>
          have h11 := hdc 13 h 11 (by simp [deps12])
          have h9 := hdc 11 h11 9 (by simp [deps12])
          rw [h9] at hf; cases hf
      have hc := ((hI.pre hnot13).cell (p := ⟨P.bS, P.oS + P.i, none⟩) (World.block_lt_of_cell? _ _ HOK.out.sat)).trans HOK.out.sat
      have HQ := Lib.hid (HK.out (.int .i64 P.si) W (hI.pure hL (by omega) (by omega) (by omega) _) (fun _ _ _ h => h) (by simp [M12, updF_same]))
      clear hI hM hpre hsl HK hbs hdc
      go_simp
      exact HQ.out
    -- operation 10
    · simp only [List.getElem?_toArray, List.getElem?_cons_zero, List.getElem?_cons_succ, Option.some.injEq] at ho
      subst ho
      simp only [Nat.zero_add, Nat.reduceAdd] at hf hpre ⊢
      have s9' : a'.tmps[9]?.getD undef = .int .i64 P.nx := by rw [← Array.getD_eq_getD_getElem?]; exact s9
      have HQ := Lib.hid (HK.out (.int .i64 P.nx) W (hI.pure hL (by omega) (by omega) (by omega) _) (fun _ _ _ h => h) (by simp [M12, updF_same]))
      clear hI hM hpre hsl HK hbs hdc
      go_simp
      exact HQ.out
    -- operation 11
    · simp only [List.getElem?_toArray, List.getElem?_cons_zero, List.getElem?_cons_succ, Option.some.injEq] at ho
      subst ho
      simp only [Nat.zero_add, Nat.reduceAdd] at hf hpre ⊢
      have l1 := (hpre ⟨1, .data⟩ (by simp) rfl)
      have q1 := (hsl 1 40 l1 rfl).trans (hM 1 l1)
      have l5 := (hpre ⟨5, .data⟩ (by simp) rfl)
      have q5 := (hsl 5 44 l5 rfl).trans (hM 5 l5)
      have l9 := (hpre ⟨9, .data⟩ (by simp) rfl)
      have q9 := (hsl 9 48 l9 rfl).trans (hM 9 l9)
      have l10 := (hpre ⟨10, .data⟩ (by simp) rfl)
      have q10 := (hsl 10 49 l10 rfl).trans (hM 10 l10)
      have q1' : a'.tmps[40]?.getD undef = P.fv := by rw [← Array.getD_eq_getD_getElem?]; exact q1
      have q5' : a'.tmps[44]?.getD undef = .int .i64 P.hi := by rw [← Array.getD_eq_getD_getElem?]; exact q5
      have q9' : a'.tmps[48]?.getD undef = .int .i64 P.si := by rw [← Array.getD_eq_getD_getElem?]; exact q9
      have q10' : a'.tmps[49]?.getD undef = .int .i64 P.nx := by rw [← Array.getD_eq_getD_getElem?]; exact q10
      have h13 : L.getD 13 false = false := by
        cases h : L.getD 13 false with
        | false => rfl
        | true => rw [hdc 13 h 11 (by simp [deps12])] at hf; cases hf
      have h12 : L.getD 12 false = false := by
        cases h : L.getD 12 false with
        | false => rfl
        | true => rw [hdc 12 h 11 (by simp [deps12])] at hf; cases hf
      have hpre13 := hI.pre h13
      have hc := (hpre13.cell (p := ⟨P.bq, 0, none⟩) (World.block_lt_of_cell? _ _ HOK.out.cell)).trans HOK.out.cell
      have HC := Lib.hid (rollerW1 P.most P.hi P.si P.nx P.bq W HOK.out.m0 HOK.out.m1 HOK.out.h0 HOK.out.h1 hc)
      unfold P12.fv at q1 q1'
      go_simp
      refine HC.out.mono ?_
      rintro e w' ⟨rfl, hb'⟩
      exact HK.out _ _ (hI.call hL h12 h13 hb' _) (fun j _ _ h => M12_w j _ h) (by simp [M12, updF_same]; rfl)
    -- operation 12
    · simp only [List.getElem?_toArray, List.getElem?_cons_zero, List.getElem?_cons_succ, Option.some.injEq] at ho
      subst ho
      simp only [Nat.zero_add, Nat.reduceAdd] at hf hpre ⊢
      have l11 := (hpre ⟨11, .data⟩ (by simp) rfl)
      have q11 := (hsl 11 50 l11 rfl).trans (hM 11 l11)
      have q11' : a'.tmps[50]?.getD undef = .int .i64 P.new := by rw [← Array.getD_eq_getD_getElem?]; exact q11
      have h13 : L.getD 13 false = false := by
        cases h : L.getD 13 false with
        | false => rfl
        | true => rw [hdc 13 h 12 (by simp [deps12])] at hf; cases hf
      have HQ := Lib.hid (HK.out (.slice (some ⟨W.heap.size, 0, none⟩) 1 1) _ (hI.build hL h13) (fun j _ _ h => M12_w j _ h) trivial)
      clear hI hM hpre hsl HK hbs hdc
      go_simp
      exact HQ.out
    -- operation 13
    · simp only [List.getElem?_toArray, List.getElem?_cons_zero, List.getElem?_cons_succ, Option.some.injEq] at ho
      subst ho
      simp only [Nat.zero_add, Nat.reduceAdd] at hf hpre ⊢
      have l0 := (hpre ⟨0, .data⟩ (by simp) rfl)
      have q0 := (hsl 0 39 l0 rfl).trans (hM 0 l0)
      have q0' : a'.tmps[39]?.getD undef = .slice (some ⟨P.g, 0, none⟩) P.m P.cap := by rw [← Array.getD_eq_getD_getElem?]; exact q0
      have l12 := (hpre ⟨12, .data⟩ (by simp) rfl)
      obtain ⟨p, ep, hp⟩ := hI.box l12 hf
      have q12 := (hsl 12 51 l12 rfl).trans ep
      have hb13 := hI.pre hf
      refine wp_append_lies W _ _ 25 rfl P.base 3 i3 _ 1 8 Tryd.underlying25 hi3 hz0 hz1 hz2 rfl (by decide) (.slice (some ⟨P.g, 0, none⟩) P.m P.cap) P.m (ints P.hs) (by exact q0) (ownKeep HOK.out.own hb13) ⟨p, 0, none⟩ 1 1 [.int .i64 P.new] (by exact q12) rfl ?_ (by simp [Value.oneCell']) (by omega) (by have := HOK.out.mm; unfold maxLen; omega) (by have := HOK.out.mm; omega) (by have := HOK.out.base; have := hb13.size; omega) W.heap.size rfl ?_
      · intro q u hu
        have hq : q = 0 := by have := (List.getElem?_eq_some_iff.1 hu).1; simp at this; exact this
        subst hq
        rw [Go.WideShapes.add_plain]
        simp [World.cell?, hp] at hu ⊢
        exact hu
      · intro g' cap' w' hown hgrow hat hglt
        exact HK.out _ _ (hI.app HOK.out hL hf hown hgrow (hat.imp (fun e => by injection e with e; exact e.symm) (fun e => by omega))) (fun j _ _ h => M12_w j _ h) trivial
    -- operation 14
    · simp only [List.getElem?_toArray, List.getElem?_cons_zero, List.getElem?_cons_succ, Option.some.injEq] at ho
      subst ho
      simp only [Nat.zero_add, Nat.reduceAdd] at hf hpre ⊢
      have l13 := (hpre ⟨13, .data⟩ (by simp) rfl)
      have q13 := (hsl 13 52 l13 rfl)
      have q13' : a'.tmps[52]?.getD undef = f 13 := by rw [← Array.getD_eq_getD_getElem?]; exact q13
      have HQ := Lib.hid (HK.out (f 13) W (hI.pure hL (by omega) (by omega) (by omega) _) (fun _ _ _ h => h) (by simp [M12, updF]))
      clear hI hM hpre hsl HK hbs hdc
      go_simp
      exact HQ.out
    · omega
  · obtain ⟨g', cap', e, ho, hbl, hot, hgg⟩ := hI.post (hall 13 (by show 13 < ops12.size; rw [show ops12.size = 15 from rfl]; omega))
    exact hend f W g' cap' e (hM 14 (by rw [show ops12.size = 15 from rfl]; omega)) ho hbl hot hgg
end Go.Proofs.YtpkjiimcoepjpaaDoor

namespace Go.Proofs.YtpkjiimcoepjpaaDoor
set_option linter.unusedVariables false
set_option linter.unusedSimpArgs false
open Go.RowKit Go.Proofs.YtpkjiimcoepjpaaDoorW.PrintWords
open PFingerprintSymbols (fingerprint_Hash.calls)

/-- a row of numbers, read -/
def InR (w : World) (A : Option Addr) (c : Nat) (l : List Int) : Prop :=
  l.length ≤ c ∧ l.length ≤ 9223372036854775807 ∧ (0 < l.length → ∃ b o, A = some ⟨b, o, none⟩ ∧ ∀ i (h : i < l.length), w.cell? ⟨b, o + i, none⟩ = some (.int .i64 l[i]))
theorem InR.below {w w1 : World} {A : Option Addr} {c : Nat} {l : List Int} (h : InR w A c l) (hb : Below w.heap.size w w1) : InR w1 A c l :=
  ⟨h.1, h.2.1, fun hp => by
    obtain ⟨b, o, e, hc⟩ := h.2.2 hp
    exact ⟨b, o, e, fun i hi => (hb.cell (p := ⟨b, o + i, none⟩) (World.block_lt_of_cell? w _ (hc i hi))).trans (hc i hi)⟩⟩
theorem InR.C {w : World} {A : Option Addr} {c : Nat} {l : List Int} (h : InR w A c l) : Kd.C (Kd.int .i64) w A l.length l := by
  refine Kd.C_of_reads (d := 0) ⟨rfl, h.2.1, fun hp => ?_⟩
  obtain ⟨b, o, e, hc⟩ := h.2.2 hp
  refine ⟨⟨b, o, none⟩, e, fun j hj => ?_⟩
  rw [Go.WideShapes.add_plain, List.getD_eq_getElem?_getD, List.getElem?_eq_getElem hj]
  exact hc j hj
theorem hashW (l : List Int) (hl : l.length ≤ 1000000) (A : Option Addr) (c : Nat) (w : World) (h : InR w A c l) : Calls Tryd.prog 17 #[.slice A l.length c] w fun e w' => e = .returned (.int .i64 (hashS l)) ∧ Drawn0 w w' := by
  obtain ⟨k, hk⟩ := hash_f l hl
  exact fingerprint_Hash.calls k A c l _ w h.C h.1 hk

/-- the hashes of all runs -/
def runs (l : List Int) (k : Nat) : List Int := (List.range (l.length + 1 - k)).map fun i => hashS ((l.drop i).take k)
def hashesC (l : List Int) (k : Int) : Int := if 1 ≤ k ∧ k ≤ 64 then (if l.length > 2048 then 8 else 0) else 2
def hashesV (l : List Int) (k : Int) : List Int := if 1 ≤ k ∧ k ≤ 64 ∧ l.length ≤ 2048 then runs l k.toNat else []
/-- a row of numbers of the call's own -/
def OwR (w : World) (base : Nat) (v : Value) (l : List Int) : Prop := w.ownsRow base 3 1 v l.length (ints l)
theorem OwR.nil (w : World) (base : Nat) : OwR w base (.slice none 0 0) [] := World.ownsRow_nil w base 3 1
theorem OwR.below {w w1 : World} {base : Nat} {v : Value} {l : List Int} (h : OwR w base v l) (hb : Below w.heap.size w w1) : OwR w1 base v l := ownKeep h hb

theorem InR.take {w : World} {A : Option Addr} {c : Nat} {l : List Int} (h : InR w A c l) (q : Nat) (hq : q ≤ l.length) : InR w A c (l.take q) := by
  have hl : (l.take q).length = q := by rw [List.length_take]; omega
  refine ⟨by have := h.1; omega, by have := h.2.1; omega, fun hp => ?_⟩
  obtain ⟨b, o, e, hc⟩ := h.2.2 (by omega)
  exact ⟨b, o, e, fun i hi => by rw [List.getElem_take]; exact hc i (by omega)⟩
theorem runs_len (l : List Int) (k : Nat) : (runs l k).length = l.length + 1 - k := by simp [runs]
theorem runs_get (l : List Int) (k i : Nat) (h : i < (runs l k).length) : (runs l k)[i] = hashS ((l.drop i).take k) := by simp [runs]
theorem runs_next (l : List Int) (m i : Nat) (h : i + 1 < (runs l (m + 1)).length) :
    rollS (pwS m) ((runs l (m + 1))[i]'(by omega)) (l[i]'(by rw [runs_len] at h; omega)) (l[m + 1 + i]'(by rw [runs_len] at h; omega)) = (runs l (m + 1))[i + 1] := by
  have h2 := h
  rw [runs_len] at h2
  rw [runs_get, runs_get]
  have e1 : (l.drop i).take (m + 1) = l[i] :: (l.drop (i + 1)).take m := by rw [List.drop_eq_getElem_cons (by omega)]; rfl
  have e2 : (l.drop (i + 1)).take (m + 1) = (l.drop (i + 1)).take m ++ [l[m + 1 + i]] := by
    rw [List.take_succ_eq_append_getElem (by rw [List.length_drop]; omega)]
    congr 2
    rw [List.getElem_drop]
    congr 1
    omega
  have e3 : ((l.drop (i + 1)).take m).length = m := by rw [List.length_take, List.length_drop]; omega
  have := roll_hash l[i] l[m + 1 + i] ((l.drop (i + 1)).take m)
  rw [e3] at this
  rw [e1, e2]
  exact this

set_option maxRecDepth 100000 in
set_option maxHeartbeats 4000000 in
theorem HashesW (l : List Int) (A : Option Addr) (c : Nat) (k : Int) (w : World) (h : InR w A c l) :
    Calls Tryd.prog 20 #[.slice A l.length c, .int .i64 k] w fun e w' => (∃ v, e = .returned (.tuple #[v, .int .i64 (hashesC l k)]) ∧ OwR w' w.heap.size v (hashesV l k)) ∧ Below w.heap.size w w' := by
  have HR := Lib.hid (rangedW k w)
  by_cases hk : 1 ≤ k ∧ k ≤ 64
  · have HR1 := HR.out
    rw [decide_eq_true hk] at HR1
    have HR2 := Lib.hid HR1
    clear HR HR1
    by_cases hn : l.length ≤ 2048
    · by_cases hkl : k ≤ l.length
      · obtain ⟨m, hm⟩ : ∃ m : Nat, k = ((m + 1 : Nat) : Int) := ⟨k.toNat - 1, by omega⟩
        obtain ⟨b, o, rfl, hcl⟩ := h.2.2 (by omega)
        have HRo := Lib.hid (fun W => rollerW m (by omega) W)
        rw [← hm] at HRo
        have HI := Lib.hid h
        have HCL := Lib.hid hcl
        have hlc := h.1
        have k0 : 0 ≤ k := by omega
        have hqk : k.toNat = m + 1 := by omega
        have hml : m + 1 ≤ l.length := by omega
        have HH := hashW (l.take (m + 1)) (by rw [List.length_take]; omega) (some ⟨b, o, none⟩) c
        rw [List.length_take, Nat.min_eq_left hml] at HH
        have HHW := Lib.hid (fun W (hb : Below w.heap.size w W) => HH W ((h.below hb).take (m + 1) hml))
        have hv : hashesV l k = runs l (m + 1) := by unfold hashesV; rw [if_pos ⟨hk.1, hk.2, hn⟩, hqk]
        have hc : hashesC l k = 0 := by unfold hashesC; rw [if_pos hk, if_neg (by omega)]
        have HV := Lib.hid (And.intro hv hc)
        have hm64 : m ≤ 63 := by omega
        have HPB := Lib.hid (pwS_bd m)
        clear h hcl hm HH hv hc
        have HQK := Lib.hid hqk
        have hcm : c = m + 1 → l.length = m + 1 := fun e => by omega
        clear hqk
        go_enter Tryd.func20, Tryd.ntmps20
        go_wp2_with fail
        refine HR2.out.mono ?_
        rintro e w1 ⟨rfl, hb⟩
        have HB := Lib.hid hb.below
        clear hb
        go_wp2_with fail
        rw [HQK.out]
        refine (HHW.out w1 HB.out).mono ?_
        rintro e w2 ⟨rfl, hb⟩
        have HB2 := Lib.hid (HB.out.trans (hb.below.mono HB.out.size))
        clear hb
        go_wp2_with fail
        obtain ⟨w3, hw3⟩ : ∃ w3, w2.alloc (.cells #[.int .i64 (hashS (l.take (m + 1)))] 3) = w3 := ⟨_, rfl⟩
        have hn3 : w3.heap[w2.heap.size]? = some (.cells #[.int .i64 (hashS (l.take (m + 1)))] 3 (0, 0)) := by rw [← hw3]; exact heap_alloc_new _ _
        have hb3 : Below w2.heap.size w2 w3 := by rw [← hw3]; exact (Below.refl _ _).alloc (Nat.le_refl _) _
        have hz3 : w3.heap.size = w2.heap.size + 1 := by rw [← hw3]; simp
        rw [hw3]
        clear hw3
        refine (HRo.out w3).mono ?_
        rintro e w4 ⟨⟨bq, rfl, hbq, hcell⟩, hb4⟩
        have hb04 : Below w.heap.size w w4 := (HB2.out.trans (hb3.mono HB2.out.size)).trans (hb4.mono (Nat.le_trans HB2.out.size hb3.size))
        have hn4 : w4.heap[w2.heap.size]? = some (.cells #[.int .i64 (hashS (l.take (m + 1)))] 3 (0, 0)) := (hb4.block _ (by omega)).trans hn3
        have hne : w2.heap.size ≠ bq := by omega
        have hwz := HB2.out.size
        have H4 := Lib.hid (And.intro hb04 (And.intro hcell hn4))
        clear hb04 hn4 hn3 hb3 hb4 hbq hcell
        have hmI : ((m : Int) + 1) ≤ (l.length : Int) := by omega
        by_cases hck : c = k.toNat
        · have hl0 : l.length - k.toNat = 0 := by omega
          go_wp2_with fail
          go_loopw [6, 34] (fun v s wr => ∃ (i g cap : Nat), s = .int .i64 (i : Nat) ∧ v = .slice (some ⟨g, 0, none⟩) (i + 1) cap ∧ i ≤ l.length - k.toNat ∧ g ≠ bq ∧ Hid (wr.ownsRow w.heap.size 3 1 (.slice (some ⟨g, 0, none⟩) (i + 1) cap) (i + 1) (ints ((runs l (m + 1)).take (i + 1))) ∧ Below w.heap.size w wr ∧ wr.cell? ⟨bq, 0, none⟩ = some (.int .i64 (pwS m)))) (fun _ s _ => l.length - k.toNat - (intOf s).toNat)
          case atStart =>
            refine ⟨0, w2.heap.size, 1, rfl, rfl, Nat.zero_le _, hne, Lib.hid ⟨?_, H4.out.1, H4.out.2.1⟩⟩
            have e1 : (runs l (m + 1)).take (0 + 1) = [hashS (l.take (m + 1))] := by
              rw [List.take_succ_eq_append_getElem (by rw [runs_len]; omega), runs_get]; simp
            rw [e1]
            exact ⟨rfl, .inr ⟨w2.heap.size, 1, _, rfl, hwz, H4.out.2.2, Nat.le_refl _, by simp [maxLen], rfl, rfl⟩⟩
          case round =>
            clear H4 hne
            obtain ⟨i, g, cap, rfl, rfl, hi, hgb, H⟩ := hrel
            have hqk := HQK.out
            by_cases hlt : i < l.length - k.toNat
            · exact absurd hlt (by omega)
            · obtain rfl : i = l.length - k.toNat := by omega
              clear hqk
              go_wp2_with fail
              go_ret2
              have hqk := HQK.out
              refine ⟨⟨.slice (some ⟨g, 0, none⟩) (l.length - k.toNat + 1) cap, by rw [HV.out.2]; rfl, ?_⟩, H.out.2.1⟩
              have h := H.out.1
              rw [hqk] at h
              have hl : (runs l (m + 1)).length = l.length - (m + 1) + 1 := by rw [runs_len]; omega
              rw [List.take_of_length_le (by omega)] at h
              unfold OwR
              rw [HV.out.1, hl]
              rw [hqk]
              exact h
        · go_wp2_with fail
          go_loopw [6, 34] (fun v s wr => ∃ (i g cap : Nat), s = .int .i64 (i : Nat) ∧ v = .slice (some ⟨g, 0, none⟩) (i + 1) cap ∧ i ≤ l.length - k.toNat ∧ g ≠ bq ∧ Hid (wr.ownsRow w.heap.size 3 1 (.slice (some ⟨g, 0, none⟩) (i + 1) cap) (i + 1) (ints ((runs l (m + 1)).take (i + 1))) ∧ Below w.heap.size w wr ∧ wr.cell? ⟨bq, 0, none⟩ = some (.int .i64 (pwS m)))) (fun _ s _ => l.length - k.toNat - (intOf s).toNat)
          case atStart =>
            refine ⟨0, w2.heap.size, 1, rfl, rfl, Nat.zero_le _, hne, Lib.hid ⟨?_, H4.out.1, H4.out.2.1⟩⟩
            have e1 : (runs l (m + 1)).take (0 + 1) = [hashS (l.take (m + 1))] := by
              rw [List.take_succ_eq_append_getElem (by rw [runs_len]; omega), runs_get]; simp
            rw [e1]
            exact ⟨rfl, .inr ⟨w2.heap.size, 1, _, rfl, hwz, H4.out.2.2, Nat.le_refl _, by simp [maxLen], rfl, rfl⟩⟩
          case round =>
            clear H4 hne
            obtain ⟨i, g, cap, rfl, rfl, hi, hgb, H⟩ := hrel
            have hqk := HQK.out
            by_cases hlt : i < l.length - k.toNat
            · have hir : i + 1 < (runs l (m + 1)).length := by rw [runs_len]; omega
              have h1 : i < l.length := by omega
              have h2 : m + 1 + i < l.length := by omega
              have hb0 : Below w.heap.size w wr := H.out.2.1
              have hblt := World.block_lt_of_cell? w _ (HCL.out 0 (by omega))
              have c1 : wr.cell? ⟨b, o + i, none⟩ = some (.int .i64 l[i]) := (hb0.cell (p := ⟨b, o + i, none⟩) hblt).trans (HCL.out i h1)
              have c2 : wr.cell? ⟨b, o + k.toNat + i, none⟩ = some (.int .i64 l[m + 1 + i]) := by
                rw [hqk, Nat.add_assoc]
                exact (hb0.cell (p := ⟨b, o + (m + 1 + i), none⟩) hblt).trans (HCL.out (m + 1 + i) h2)
              obtain ⟨si, hsi⟩ : ∃ si, l[i] = si := ⟨_, rfl⟩
              obtain ⟨nx, hnx⟩ : ∃ nx, l[m + 1 + i] = nx := ⟨_, rfl⟩
              obtain ⟨hi', hhi⟩ : ∃ hi', (runs l (m + 1))[i] = hi' := ⟨_, rfl⟩
              have hnew := runs_next l m i hir
              rw [hsi, hnx, hhi] at hnew
              rw [hsi] at c1
              rw [hnx] at c2
              have hbd := hashS_bd ((l.drop i).take (m + 1))
              rw [← runs_get l (m + 1) i (by omega), hhi] at hbd
              have hat : wr.cell? ⟨g, i, none⟩ = some (.int .i64 hi') := by
                rw [H.out.1.cellAt i (by omega)]
                unfold ints
                rw [List.getElem?_map, List.getElem?_take, if_pos (by omega), List.getElem?_eq_getElem (by omega), hhi]; rfl
              have OK : P12.Ok ⟨wr, w.heap.size, g, i + 1, cap, (runs l (m + 1)).take (i + 1), bq, pwS m, i, hi', si, nx, b, o, l.length, c⟩ :=
                ⟨H.out.1, hb0.size, H.out.2.2, HPB.out.1, HPB.out.2, hbd.1, hbd.2, Nat.lt_succ_self i, hat, h1, c1, by show i + 1 ≤ 1000000; omega⟩
              have HOK := Lib.hid OK
              have HNEW := Lib.hid hnew
              clear hqk hsi hnx hhi hnew hbd hat OK c1
              go_wp2_with fail
              refine region12 ⟨wr, w.heap.size, g, i + 1, cap, (runs l (m + 1)).take (i + 1), bq, pwS m, i, hi', si, nx, b, o, l.length, c⟩ HOK.out _ (by rfl) (by rfl) (by rfl) (by rfl) (by rfl) (by rfl) _ wr (Below.refl _ _) ?_
              intro f W g' cap' e13 e14 ho hbl hot hgg
              simp only [ds12, setAll, List.setIfInBounds_toArray, List.set_cons_zero, List.set_cons_succ, Nat.zero_add, Nat.reduceAdd]
              rw [e14, e13]
              have hblt2 := World.block_lt_of_cell? wr _ H.out.2.2
              dsimp only at ho hbl hot hgg hblt2 ⊢
              have HW := Lib.hid (And.intro ho (And.intro hbl (And.intro hot hgg)))
              clear ho hbl hot hgg e13 e14
              go_wp2_with fail
              go_roundw
              case rel =>
                obtain ⟨ho, hbl, hot, hgg⟩ := HW.out
                refine ⟨i + 1, g', cap', by go_num, rfl, by omega, by omega, Lib.hid ⟨?_, H.out.2.1.trans hbl, ?_⟩⟩
                · have e : (runs l (m + 1)).take (i + 1 + 1) = (runs l (m + 1)).take (i + 1) ++ [rollS (pwS m) hi' si nx] := by
                    rw [List.take_succ_eq_append_getElem hir, HNEW.out]
                  rw [e]
                  exact ho
                · exact (World.cell?_of_block (hot bq hblt2 (Ne.symm hgb))).trans H.out.2.2
              case measure => simp [intOf]; omega
            · obtain rfl : i = l.length - k.toNat := by omega
              clear hqk
              go_wp2_with fail
              go_ret2
              have hqk := HQK.out
              refine ⟨⟨.slice (some ⟨g, 0, none⟩) (l.length - k.toNat + 1) cap, by rw [HV.out.2]; rfl, ?_⟩, H.out.2.1⟩
              have h := H.out.1
              rw [hqk] at h
              have hl : (runs l (m + 1)).length = l.length - (m + 1) + 1 := by rw [runs_len]; omega
              rw [List.take_of_length_le (by omega)] at h
              unfold OwR
              rw [HV.out.1, hl]
              rw [hqk]
              exact h
      · have hv : hashesV l k = [] := by
          unfold hashesV; rw [if_pos ⟨hk.1, hk.2, hn⟩]; unfold runs
          rw [show l.length + 1 - k.toNat = 0 by omega]; rfl
        have hc : hashesC l k = 0 := by unfold hashesC; rw [if_pos hk, if_neg (by omega)]
        have HV := Lib.hid (And.intro hv hc)
        clear hv hc h
        go_enter Tryd.func20, Tryd.ntmps20
        go_wp2_with fail
        refine HR2.out.mono ?_
        rintro e w1 ⟨rfl, hb⟩
        have HB := Lib.hid hb.below
        clear hb
        go_wp2_with fail
        go_ret2
        exact ⟨⟨.slice none 0 0, by rw [HV.out.2]; rfl, by rw [HV.out.1]; exact OwR.nil _ _⟩, HB.out⟩
    · have hv : hashesV l k = [] := by unfold hashesV; rw [if_neg (by omega)]
      have hc : hashesC l k = 8 := by unfold hashesC; rw [if_pos hk, if_pos (by omega)]
      have HV := Lib.hid (And.intro hv hc)
      clear hv hc h
      go_enter Tryd.func20, Tryd.ntmps20
      go_wp2_with fail
      refine HR2.out.mono ?_
      rintro e w1 ⟨rfl, hb⟩
      have HB := Lib.hid hb.below
      clear hb
      go_wp2_with fail
      go_ret2
      exact ⟨⟨.slice none 0 0, by rw [HV.out.2]; rfl, by rw [HV.out.1]; exact OwR.nil _ _⟩, HB.out⟩
  · have hv : hashesV l k = [] := by unfold hashesV; rw [if_neg (by omega)]
    have hc : hashesC l k = 2 := by unfold hashesC; rw [if_neg hk]
    have HV := Lib.hid (And.intro hv hc)
    have HR1 := HR.out
    rw [decide_eq_false hk] at HR1
    have HR2 := Lib.hid HR1
    clear HR HR1 hv hc h
    go_enter Tryd.func20, Tryd.ntmps20
    go_wp2_with fail
    refine HR2.out.mono ?_
    rintro e w1 ⟨rfl, hb⟩
    have HB := Lib.hid hb.below
    clear hb
    go_wp2_with fail
    go_ret2
    exact ⟨⟨.slice none 0 0, by rw [HV.out.2]; rfl, by rw [HV.out.1]; exact OwR.nil _ _⟩, HB.out⟩
end Go.Proofs.YtpkjiimcoepjpaaDoor
