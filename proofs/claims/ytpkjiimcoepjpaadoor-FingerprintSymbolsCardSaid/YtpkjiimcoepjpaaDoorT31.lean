/- The reference's Add and Shared. -/
import Derived.Test.YtpkjiimcoepjpaaDoorT30
namespace Go.Proofs.YtpkjiimcoepjpaaDoor
set_option linter.unusedVariables false
set_option linter.unusedSimpArgs false
open Go.RowKit Go.Proofs.YtpkjiimcoepjpaaDoorW.PrintWords
open PFingerprintSymbols (S48)

/-- one number more in a sorted list -/
def addL : List Int → Int → List Int
  | [], x => [x]
  | y :: l, x => if y < x then y :: addL l x else if y = x then y :: l else x :: y :: l
/-- the place of x -/
structure PosA (l : List Int) (x : Int) (k : Nat) : Prop where
  le : k ≤ l.length
  lt : ∀ j (h : j < k) (h2 : j < l.length), l[j] < x
  ge : ∀ h : k < l.length, x ≤ l[k]
theorem addL_pos : ∀ (l : List Int) (x : Int) (k : Nat), PosA l x k → (∀ h : k < l.length, l[k] = x → addL l x = l) ∧ ((∀ h : k < l.length, l[k] ≠ x) → addL l x = l.take k ++ x :: l.drop k)
  | [], x, k, h => by
    have := h.le
    obtain rfl : k = 0 := by simpa using this
    exact ⟨fun h => by simp at h, fun _ => rfl⟩
  | y :: l, x, 0, h => by
    have := h.ge (by simp)
    simp only [List.getElem_cons_zero] at this
    refine ⟨fun _ e => ?_, fun h2 => ?_⟩
    · simp only [List.getElem_cons_zero] at e
      unfold addL; rw [if_neg (by omega), if_pos e]
    · have := h2 (by simp)
      simp only [List.getElem_cons_zero] at this
      unfold addL; rw [if_neg (by omega), if_neg this]; rfl
  | y :: l, x, k + 1, h => by
    have h0 := h.lt 0 (by omega) (by simp)
    simp only [List.getElem_cons_zero] at h0
    have hl := h.le
    simp only [List.length_cons] at hl
    have ih := addL_pos l x k ⟨by omega, fun j hj hj2 => by have := h.lt (j + 1) (by omega) (by simp; omega); simpa using this, fun hk => by have := h.ge (by simp; omega); simpa using this⟩
    refine ⟨fun hk e => ?_, fun h2 => ?_⟩
    · unfold addL; rw [if_pos h0, ih.1 (by simp at hk; omega) (by simpa using e)]
    · unfold addL; rw [if_pos h0, ih.2 (fun hk => by have := h2 (by simp; omega); simpa using this)]; rfl
theorem addL_mem (l : List Int) (x y : Int) : y ∈ addL l x ↔ y ∈ l ∨ y = x := by
  induction l with
  | nil => simp [addL]
  | cons z l ih =>
    unfold addL
    split
    · rw [List.mem_cons, ih, List.mem_cons]; exact or_assoc.symm
    · split
      · rename_i _ e; rw [List.mem_cons]; constructor
        · exact fun h => .inl h
        · rintro (h | h)
          · exact h
          · exact .inl (by rw [h, e])
      · rw [List.mem_cons]; exact or_comm
theorem addL_up (l : List Int) (x : Int) (h : l.Pairwise (· < ·)) : (addL l x).Pairwise (· < ·) := by
  induction l with
  | nil => simp [addL]
  | cons z l ih =>
    have hz := List.pairwise_cons.1 h
    unfold addL
    split
    · refine List.pairwise_cons.2 ⟨fun y hy => ?_, ih hz.2⟩
      rcases (addL_mem l x y).1 hy with h1 | h1
      · exact hz.1 y h1
      · omega
    · split
      · exact h
      · refine List.pairwise_cons.2 ⟨fun y hy => ?_, h⟩
        rcases List.mem_cons.1 hy with h1 | h1
        · omega
        · have := hz.1 y h1; omega
theorem addL_len (l : List Int) (x : Int) : (addL l x).length ≤ l.length + 1 := by
  induction l with
  | nil => simp [addL]
  | cons z l ih =>
    unfold addL
    split
    · simp only [List.length_cons]; omega
    · split <;> simp only [List.length_cons] <;> omega

noncomputable def ops6 : Array Oper := ((Tryd.f42.body.bind (firstReg 6)).getD #[])
theorem buildI0 (W : World) : (Instr.buildSlice 25 0 #[]).run Tryd.prog W = .ok (.slice (some ⟨W.heap.size, 0, none⟩) 0 0) (W.alloc (.cells #[] 3)) := by kernel_rfl
theorem buildI1 (x : Int) (W : World) : (Instr.buildSlice 25 1 #[(0, .int .i64 x)]).run Tryd.prog W = .ok (.slice (some ⟨W.heap.size, 0, none⟩) 1 1) (W.alloc (.cells #[.int .i64 x] 3)) := by kernel_rfl

theorem ints_rd {w : World} {A : Option Addr} {c : Nat} {l : List Int} (h : InR w A c l) : RdC w A 1 l.length (ints l) := by
  refine ⟨by simp [ints], fun hp => ?_⟩
  obtain ⟨b, o, e, hc⟩ := h.2.2 hp
  refine ⟨b, o, e, fun j u hu => ?_⟩
  unfold ints at hu
  rw [List.getElem?_map] at hu
  obtain ⟨x, hx, rfl⟩ := Option.map_eq_some_iff.1 hu
  obtain ⟨hj, rfl⟩ := List.getElem?_eq_some_iff.1 hx
  exact hc j hj
theorem ints_one (l : List Int) : ∀ u ∈ ints l, u.oneCell' = true := by
  intro u hu
  unfold ints at hu
  obtain ⟨x, _, rfl⟩ := List.mem_map.1 hu
  rfl

theorem ops6_op : ops6.toList.map (·.op) = insFrm 33 0 5 25 (.move (.tmp 1)) := by kernel_rfl
theorem ops6_ds : ops6.toList.map (·.dst) = insDs 33 4 := by kernel_rfl
theorem insDs_no {q r s : Nat} (h : s < q) (hr : s ≠ r) : ∀ j : Nat, (insDs q r)[j]? ≠ some (some s) := by
  intro j
  unfold insDs
  rcases j with _ | _ | _ | _ | _ | _ | _ | _ | _ | _ | _ | _ | _ | j <;> simp <;> omega
set_option maxRecDepth 100000 in
theorem addRegion (l : List Int) (x : Int) (k : Nat) (A : Option Addr) (c : Nat) (w : World) (hl : l.length ≤ 1000000) (hI : InR w A c l) (hk : k ≤ l.length) (b : Array Value) (hb : b.size = 45) (b0 : b.getD 0 undef = .slice A l.length c) (b5 : b.getD 5 undef = .int .i64 (k : Nat)) (b1 : b.getD 1 undef = .int .i64 x)
    (Q : Exit → Act → World → Prop)
    (hend : ∀ (f : Nat → Value) (W : World), OwR W w.heap.size (f 11) (l.take k ++ x :: l.drop k) → f 12 = f 11 → Below w.heap.size w W → Q .normal ⟨setAll f 0 (insDs 33 4) b, []⟩ W) :
    (Code.region 6 ops6 true).wp Tryd.prog Q ⟨b, []⟩ w := by
  obtain ⟨i3, hi3, hz0, hz1, hz2⟩ := info_parts inf3
  refine ins_region ⟨w, A, l.length, c, k, 1, ints l, [.int .i64 x], .int .i64 x, 3⟩ ⟨ints_rd hI, ints_one l, by simp [Value.oneCell'], rfl, hk, hI.1, hl, Nat.one_pos⟩ 33 4 0 5 25 (.move (.tmp 1)) i3 (.int .i64 0) 8
    (by kernel_rfl) (by kernel_rfl) ops6_ds (by rw [hb]; decide) (by kernel_rfl) (by kernel_rfl) ops6_op Tryd.underlying25 hi3 hz0 hz1 hz2 rfl (by omega) (insDs_no (by omega) (by omega)) ?_ b0 b5 buildI0 (buildI1 x) ?_ (Below.refl _ _) ?_
  · exact insDs_no (by omega) (by omega)
  · intro o a W K ho _ hnb hK
    refine wp_move ho ?_
    have : a.eval (.tmp 1) = .int .i64 x := (hnb 1 (insDs_no (by omega) (by omega))).trans b1
    rw [this]; exact hK
  · intro f W ho h12 hbl
    refine hend f W ?_ h12 hbl
    unfold OwR ints
    have e1 : (l.take k ++ x :: l.drop k).length = l.length + 1 := by simp; omega
    rw [e1, List.map_append, List.map_cons, List.map_take, List.map_drop]
    have ho' : W.ownsRow w.heap.size 3 1 (f 11) (l.length + 1) ((ints l).take (k * 1) ++ [.int .i64 x] ++ (ints l).drop (k * 1)) := ho
    rw [Nat.mul_one, List.append_assoc] at ho'
    exact ho'

set_option maxRecDepth 100000 in
set_option maxHeartbeats 4000000 in
theorem AddW (l : List Int) (x : Int) (A : Option Addr) (c : Nat) (w : World) (hl : l.length ≤ 1000000) (hI : InR w A c l) :
    Calls Tryd.prog 42 #[.slice A l.length c, .int .i64 x] w fun e w' => (∃ A' c', e = .returned (.slice A' (addL l x).length c') ∧ InR w' A' c' (addL l x)) ∧ Below w.heap.size w w' := by
  have HI := Lib.hid hI
  have hlc := hI.1
  clear hI
  go_enter Tryd.func42, Tryd.ntmps42
  go_wp2_with fail
  go_loop [5] (fun s => ∃ k : Nat, s = .int .i64 (k : Nat) ∧ k ≤ l.length ∧ Hid (∀ j (h : j < k) (h2 : j < l.length), l[j] < x)) (fun s => l.length - (intOf s).toNat)
  case atStart => exact ⟨0, rfl, Nat.zero_le _, Lib.hid (fun j h => by omega)⟩
  case round =>
    obtain ⟨k, rfl, hk, HL⟩ := hrel
    by_cases hlt : k < l.length
    · obtain ⟨b, o, rfl, hc⟩ := HI.out.2.2 (by omega)
      have hck := hc k hlt
      obtain ⟨y, hy⟩ : ∃ y, l[k] = y := ⟨_, rfl⟩
      rw [hy] at hck
      have HY := Lib.hid hy
      have hkI : (k : Int) < (l.length : Int) := by omega
      clear hc hy
      by_cases hyx : y < x
      · go_wp2_with fail
        go_round
        case rel => exact ⟨k + 1, by go_num, by omega, Lib.hid (fun j h h2 => by
          by_cases hj : j = k
          · subst hj; rw [HY.out]; exact hyx
          · exact HL.out j (by omega) h2)⟩
        case measure => simp [intOf]; omega
      · have hpos : PosA l x k := ⟨hk, HL.out, fun h => by rw [HY.out]; omega⟩
        have HP := Lib.hid hpos
        clear hpos HL
        by_cases hyx2 : y = x
        · have he := (addL_pos l x k HP.out).1 hlt (by rw [HY.out]; exact hyx2)
          have HE := Lib.hid he
          have hb1 : decide (y < x) = false := decide_eq_false hyx
          have hb2 : (y == x) = true := by simpa using hyx2
          clear he
          go_wp2_with fail
          go_ret
          rw [HE.out]
          exact ⟨⟨_, _, rfl, HI.out⟩, Below.refl _ _⟩
        · have he := (addL_pos l x k HP.out).2 (fun h => by rw [HY.out]; exact hyx2)
          have HE := Lib.hid he
          have hb1 : decide (y < x) = false := decide_eq_false hyx
          have hb2 : (y == x) = false := by simpa using hyx2
          clear he
          go_wp2_with fail
          refine addRegion l x k _ c w hl HI.out hk _ (by rfl) (by rfl) (by rfl) (by rfl) _ ?_
          intro f W ho e12 hbl
          simp only [insDs, setAll, List.setIfInBounds_toArray, List.set_cons_zero, List.set_cons_succ, Nat.zero_add, Nat.reduceAdd]
          obtain ⟨A', c', ev, hin⟩ := ho.inR
          rw [e12, ev]
          have HW := Lib.hid (And.intro hin hbl)
          clear ho e12 ev hin hbl
          go_wp2_with fail
          go_ret
          rw [HE.out]
          exact ⟨⟨_, _, rfl, HW.out.1⟩, HW.out.2⟩
    · obtain rfl : k = l.length := by omega
      have hpos : PosA l x l.length := ⟨hk, HL.out, fun h => by omega⟩
      have he := (addL_pos l x _ hpos).2 (fun h => by omega)
      have HE := Lib.hid he
      clear he HL hpos hlt
      go_wp2_with fail
      refine addRegion l x l.length _ c w hl HI.out hk _ (by rfl) (by rfl) (by rfl) (by rfl) _ ?_
      intro f W ho e12 hbl
      simp only [insDs, setAll, List.setIfInBounds_toArray, List.set_cons_zero, List.set_cons_succ, Nat.zero_add, Nat.reduceAdd]
      obtain ⟨A', c', ev, hin⟩ := ho.inR
      rw [e12, ev]
      have HW := Lib.hid (And.intro hin hbl)
      clear ho e12 ev hin hbl
      go_wp2_with fail
      go_ret
      rw [HE.out]
      exact ⟨⟨_, _, rfl, HW.out.1⟩, HW.out.2⟩
end Go.Proofs.YtpkjiimcoepjpaaDoor
