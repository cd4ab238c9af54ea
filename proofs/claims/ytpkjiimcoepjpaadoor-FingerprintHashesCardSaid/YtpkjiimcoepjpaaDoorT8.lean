/- The round of Hashes: reads, a call of the roller, an append, in many orders. -/
import Derived.Test.YtpkjiimcoepjpaaDoorT6
import Derived.Test.YtpkjiimcoepjpaaDoorT7
namespace Go.Proofs.YtpkjiimcoepjpaaDoor
set_option linter.unusedVariables false
set_option linter.unusedSimpArgs false
open Go.RowKit

def firstReg (k : Nat) : Code → Option (Array Oper)
  | .region j ops _ => if j = k then some ops else none
  | .seq x y => match firstReg k x with | some o => some o | none => firstReg k y
  | .cond _ x y => match firstReg k x with | some o => some o | none => firstReg k y
  | .block _ x => firstReg k x
  | .loop x => firstReg k x
  | .scope x => firstReg k x
  | _ => none
theorem notT {x : Bool} (h : x = false) : ¬ x = true := by rw [h]; simp
theorem hltW {w : World} {b : Nat} {o : Obj} (h : w.heap[b]? = some o) : b < w.heap.size := (Array.getElem?_eq_some_iff.1 h).1
theorem inf3 : (Tryd.prog.info? 3).map (fun i => (i.zero, i.size, i.bytes)) = some (some (.int .i64 0), 1, 8) := by kernel_rfl
def ints (l : List Int) : List Value := l.map (Value.int .i64)
theorem ownKeep {w w1 : World} {base : Nat} {e : TypeId} {size n : Nat} {v : Value} {xs : List Value} (h : w.ownsRow base e size v n xs) (hb : Below w.heap.size w w1) : w1.ownsRow base e size v n xs :=
  h.kept (row := none) ⟨hb.os, hb.tape, hb.output, hb.size, fun k hk _ => hb.block k hk⟩ (by cases hv : v.ownBlock <;> simp)

noncomputable def ops12 : Array Oper := ((Tryd.f20.body.bind (firstReg 12)).getD #[])
def ds12 : List (Option Nat) := [some 39, some 40, some 41, some 42, some 43, some 44, some 45, some 46, some 47, some 48, some 49, some 50, some 51, some 52, some 6]
def deps12 : Nat → List Nat
  | 14 => [0, 1, 2, 3, 4, 5, 6, 7, 8, 9, 10, 11, 12, 13, 14]
  | 13 => [0, 5, 9, 11, 12, 13]
  | 12 => [5, 9, 11, 12]
  | 11 => [5, 9, 11]
  | j => [j]
structure P12 where
  w0 : World
  base : Nat
  g : Nat
  m : Nat
  cap : Nat
  hs : List Int
  bq : Nat
  most : Int
  i : Nat
  hi : Int
  si : Int
  nx : Int
  bS : Nat
  oS : Nat
  n : Nat
  c : Nat
def P12.fv (P : P12) : Value := .func (.func 45) #[] #[.pointer (some ⟨P.bq, 0, none⟩)]
def P12.new (P : P12) : Int := rollS P.most P.hi P.si P.nx
structure P12.Ok (P : P12) : Prop where
  own : P.w0.ownsRow P.base 3 1 (.slice (some ⟨P.g, 0, none⟩) P.m P.cap) P.m (ints P.hs)
  base : P.base ≤ P.w0.heap.size
  cell : P.w0.cell? ⟨P.bq, 0, none⟩ = some (.int .i64 P.most)
  m0 : 0 ≤ P.most
  m1 : P.most < 2147483647
  h0 : 0 ≤ P.hi
  h1 : P.hi < 2147483647
  hI : P.i < P.m
  at_ : P.w0.cell? ⟨P.g, P.i, none⟩ = some (.int .i64 P.hi)
  sI : P.i < P.n
  sat : P.w0.cell? ⟨P.bS, P.oS + P.i, none⟩ = some (.int .i64 P.si)
  mm : P.m ≤ 1000000
def M12 (P : P12) : Nat → (Nat → Value) → World → Prop
  | 0, f, _ => f 0 = .slice (some ⟨P.g, 0, none⟩) P.m P.cap
  | 1, f, _ => f 1 = P.fv
  | 2, f, _ => f 2 = .slice (some ⟨P.g, 0, none⟩) P.m P.cap
  | 3, f, _ => f 3 = .int .i64 (P.i : Nat)
  | 4, f, _ => f 4 = .pointer (some ⟨P.g, P.i, none⟩)
  | 5, f, _ => f 5 = .int .i64 P.hi
  | 6, f, _ => f 6 = .slice (some ⟨P.bS, P.oS, none⟩) P.n P.c
  | 7, f, _ => f 7 = .int .i64 (P.i : Nat)
  | 8, f, _ => f 8 = .pointer (some ⟨P.bS, P.oS + P.i, none⟩)
  | 9, f, _ => f 9 = .int .i64 P.si
  | 10, f, _ => f 10 = .int .i64 P.nx
  | 11, f, _ => f 11 = .int .i64 P.new
  | 14, f, _ => f 14 = f 13
  | _, _, _ => True
theorem M12_w {P : P12} (j : Nat) {f : Nat → Value} {W : World} (W' : World) (h : M12 P j f W) : M12 P j f W' := by
  rcases j with _ | _ | _ | _ | _ | _ | _ | _ | _ | _ | _ | _ | _ | _ | _ | j <;> exact h
structure I12 (P : P12) (L : Array Bool) (f : Nat → Value) (W : World) : Prop where
  pre : L.getD 13 false = false → Below P.w0.heap.size P.w0 W
  post : L.getD 13 false = true → ∃ g' cap', f 13 = .slice (some ⟨g', 0, none⟩) (P.m + 1) cap' ∧ W.ownsRow P.base 3 1 (.slice (some ⟨g', 0, none⟩) (P.m + 1) cap') (P.m + 1) (ints (P.hs ++ [P.new])) ∧ Below P.base P.w0 W ∧ (∀ q, q < P.w0.heap.size → q ≠ P.g → W.heap[q]? = P.w0.heap[q]?) ∧ (g' = P.g ∨ P.w0.heap.size ≤ g')
  box : L.getD 12 false = true → L.getD 13 false = false → ∃ p, f 12 = .slice (some ⟨p, 0, none⟩) 1 1 ∧ W.heap[p]? = some (.cells #[.int .i64 P.new] 3 (0, 0))
theorem I12.pure {P : P12} {L : Array Bool} {f : Nat → Value} {W : World} (h : I12 P L f W) (hL : L.size = 15) {i : Nat} (hi : i < 15) (h1 : i ≠ 12) (h2 : i ≠ 13) (v : Value) : I12 P (L.setIfInBounds i true) (updF f i v) W := by
  have k : ∀ j, j ≠ i → (L.setIfInBounds i true).getD j false = L.getD j false := fun j hj => by rw [getDs (by omega)]; simp [hj]
  obtain ⟨h3, h4, h5⟩ := h
  refine ⟨?_, ?_, ?_⟩ <;> simp only [k 12 (Ne.symm h1), k 13 (Ne.symm h2), updF_other f v (Ne.symm h1), updF_other f v (Ne.symm h2)] <;> assumption
theorem I12.call {P : P12} {L : Array Bool} {f : Nat → Value} {W W' : World} (h : I12 P L f W) (hL : L.size = 15) (hf12 : L.getD 12 false = false) (hf13 : L.getD 13 false = false) (hb : Below W.heap.size W W') (v : Value) : I12 P (L.setIfInBounds 11 true) (updF f 11 v) W' := by
  have k : ∀ j, j ≠ 11 → (L.setIfInBounds 11 true).getD j false = L.getD j false := fun j hj => by rw [getDs (by omega)]; simp [hj]
  refine ⟨?_, ?_, ?_⟩ <;> simp only [k 12 (by omega), k 13 (by omega)]
  · intro _; exact (h.pre hf13).trans (hb.mono (h.pre hf13).size)
  · intro l; exact absurd l (notT hf13)
  · intro l; exact absurd l (notT hf12)
theorem I12.build {P : P12} {L : Array Bool} {f : Nat → Value} {W : World} (h : I12 P L f W) (hL : L.size = 15) (hf13 : L.getD 13 false = false) : I12 P (L.setIfInBounds 12 true) (updF f 12 (.slice (some ⟨W.heap.size, 0, none⟩) 1 1)) (W.alloc (.cells #[.int .i64 P.new] 3)) := by
  have k : ∀ j, j ≠ 12 → (L.setIfInBounds 12 true).getD j false = L.getD j false := fun j hj => by rw [getDs (by omega)]; simp [hj]
  refine ⟨?_, ?_, ?_⟩ <;> simp only [k 13 (by omega), updF_same]
  · intro _; exact (h.pre hf13).alloc (h.pre hf13).size _
  · intro l; exact absurd l (notT hf13)
  · intro _ _; exact ⟨_, rfl, heap_alloc_new W _⟩
theorem I12.app {P : P12} (ok : P.Ok) {L : Array Bool} {f : Nat → Value} {W W' : World} (h : I12 P L f W) (hL : L.size = 15) (hf13 : L.getD 13 false = false) {g' cap' : Nat} (ho : W'.ownsRow P.base 3 1 (.slice (some ⟨g', 0, none⟩) (P.m + 1) cap') (P.m + 1) (ints P.hs ++ [.int .i64 P.new]))
    (hg : W.grownBy W' (some P.g)) (hat : g' = P.g ∨ W.heap.size ≤ g') : I12 P (L.setIfInBounds 13 true) (updF f 13 (.slice (some ⟨g', 0, none⟩) (P.m + 1) cap')) W' := by
  have kk : (L.setIfInBounds 13 true).getD 13 false = true := by rw [getDs (by omega)]; simp
  have hgl := ok.own.lt P.g rfl
  refine ⟨fun l => ?_, fun _ => ?_, fun _ l => ?_⟩
  · rw [kk] at l; cases l
  · refine ⟨g', cap', updF_same _ _ _, by unfold ints at *; rw [List.map_append]; exact ho, ?_, ?_, ?_⟩
    all_goals have hb := h.pre hf13
    · exact (hb.mono ok.base).grown hg (by have := hb.size; have := ok.base; omega) (fun q hq => by injection hq with hq; omega)
    · intro q hq hne
      rw [hg.block q (Nat.lt_of_lt_of_le hq hb.size) (fun e => by injection e with e; exact hne e)]
      exact hb.block q hq
    · rcases hat with h1 | h1
      · exact .inl h1
      · exact .inr (Nat.le_trans hb.size h1)
  · rw [kk] at l; cases l

set_option maxRecDepth 100000 in
set_option maxHeartbeats 1000000 in
theorem region12 (P : P12) (ok : P.Ok) (b : Array Value) (hb : b.size = 55) (b0 : b.getD 0 undef = .slice (some ⟨P.bS, P.oS, none⟩) P.n P.c) (b6 : b.getD 6 undef = .slice (some ⟨P.g, 0, none⟩) P.m P.cap) (b7 : b.getD 7 undef = P.fv) (b8 : b.getD 8 undef = .int .i64 (P.i : Nat)) (b9 : b.getD 9 undef = .int .i64 P.nx)
    (Q : Exit → Act → World → Prop) (w : World) (hw : Below P.w0.heap.size P.w0 w)
    (hend : ∀ (f : Nat → Value) (W : World) (g' cap' : Nat), f 13 = .slice (some ⟨g', 0, none⟩) (P.m + 1) cap' → f 14 = f 13 → W.ownsRow P.base 3 1 (.slice (some ⟨g', 0, none⟩) (P.m + 1) cap') (P.m + 1) (ints (P.hs ++ [P.new])) → Below P.base P.w0 W → (∀ q, q < P.w0.heap.size → q ≠ P.g → W.heap[q]? = P.w0.heap[q]?) → (g' = P.g ∨ P.w0.heap.size ≤ g') → Q .normal ⟨setAll f 0 ds12 b, []⟩ W) :
    (Code.region 12 ops12 true).wp Tryd.prog Q ⟨b, []⟩ w := by
  obtain ⟨i3, hi3, hz0, hz1, hz2⟩ := info_parts inf3
  refine wp_region_M (by kernel_rfl) (by kernel_rfl) ds12 (by kernel_rfl) (by rw [hb]; decide) (by kernel_rfl) (M12 P) (I12 P) deps12 (by kernel_rfl) ?_ ?_ ?_ (fun L f W hL hall hI hM => ?_)
  · intro j f f' W h hm
    rcases j with _ | _ | _ | _ | _ | _ | _ | _ | _ | _ | _ | _ | _ | _ | _ | j
    all_goals simp only [deps12, List.mem_cons, List.not_mem_nil, or_false, forall_eq, forall_eq_or_imp, M12, Nat.zero_add, Nat.reduceAdd] at h hm ⊢
    all_goals first | trivial | (rw [← h]; exact hm) | (simp only [← h]; exact hm)
  · refine ⟨fun _ => hw.drew, ?_, ?_⟩ <;> intro e <;> exact absurd e (by simp [Array.getD])
  · intro i o L f a' W ho hs hI hM hf hpre hbs hsl hdc K hK
    have hL : L.size = 15 := hs
    have hi : i < 15 := (Array.getElem?_eq_some_iff.1 ho).1
    conv at ho => lhs; arg 1; whnf
    have hjlt : ∀ j, L.getD j false = true → j < 15 := fun j hj => by
      rw [← hL]
      by_cases hlt : j < L.size
      · exact hlt
      · simp [Array.getD, hlt] at hj
    have nb : ∀ s, (∀ j : Nat, j < 15 → ds12[j]? ≠ some (some s)) → a'.tmps.getD s undef = b.getD s undef := fun s hs => hbs s (fun j hj => hs j (hjlt j hj))
    have s0 := (nb 0 (by decide)).trans b0
    have s7 := (nb 7 (by decide)).trans b7
    have s8 := (nb 8 (by decide)).trans b8
    have s9 := (nb 9 (by decide)).trans b9
    have HK := Lib.hid hK
    have HOK := Lib.hid ok
    have hIi : (P.i : Int) < (P.m : Int) := by have := ok.hI; omega
    have hSi : (P.i : Int) < (P.n : Int) := by have := ok.sI; omega
    clear hK nb b0 b7 b8 b9 ok
    rcases i with _ | _ | _ | _ | _ | _ | _ | _ | _ | _ | _ | _ | _ | _ | _ | i
    -- operation 0
    · simp only [List.getElem?_toArray, List.getElem?_cons_zero, List.getElem?_cons_succ, Option.some.injEq] at ho
      subst ho
      simp only [Nat.zero_add, Nat.reduceAdd] at hf hpre ⊢
      have h14 : L.getD 14 false = false := by
        cases h : L.getD 14 false with
        | false => rfl
        | true => rw [hdc 14 h 0 (by simp [deps12])] at hf; cases hf
      have s6 := (hbs 6 (fun j hj hd => by
        have hj14 : j = 14 := by
          have hlt : j < 15 := by have := (List.getElem?_eq_some_iff.1 hd).1; simpa [ds12] using this
          have : j = 0 ∨ j = 1 ∨ j = 2 ∨ j = 3 ∨ j = 4 ∨ j = 5 ∨ j = 6 ∨ j = 7 ∨ j = 8 ∨ j = 9 ∨ j = 10 ∨ j = 11 ∨ j = 12 ∨ j = 13 ∨ j = 14 := by omega
          rcases this with rfl | rfl | rfl | rfl | rfl | rfl | rfl | rfl | rfl | rfl | rfl | rfl | rfl | rfl | rfl
          all_goals first | rfl | (simp [ds12] at hd)
        rw [hj14, h14] at hj; cases hj)).trans b6
      have s6' : a'.tmps[6]?.getD undef = .slice (some ⟨P.g, 0, none⟩) P.m P.cap := by rw [← Array.getD_eq_getD_getElem?]; exact s6
      have HQ := Lib.hid (HK.out (.slice (some ⟨P.g, 0, none⟩) P.m P.cap) W (hI.pure hL (by omega) (by omega) (by omega) _) (fun _ _ _ h => h) (by simp [M12, updF_same]))
      clear hI hM hpre hsl HK hbs hdc
      go_simp
      exact HQ.out
    -- operation 1
    · simp only [List.getElem?_toArray, List.getElem?_cons_zero, List.getElem?_cons_succ, Option.some.injEq] at ho
      subst ho
      simp only [Nat.zero_add, Nat.reduceAdd] at hf hpre ⊢
      have s7' : a'.tmps[7]?.getD undef = P.fv := by rw [← Array.getD_eq_getD_getElem?]; exact s7
      have HQ := Lib.hid (HK.out (P.fv) W (hI.pure hL (by omega) (by omega) (by omega) _) (fun _ _ _ h => h) (by simp [M12, updF_same]))
      clear hI hM hpre hsl HK hbs hdc
      go_simp
      exact HQ.out
    -- operation 2
    · simp only [List.getElem?_toArray, List.getElem?_cons_zero, List.getElem?_cons_succ, Option.some.injEq] at ho
      subst ho
      simp only [Nat.zero_add, Nat.reduceAdd] at hf hpre ⊢
      have h14 : L.getD 14 false = false := by
        cases h : L.getD 14 false with
        | false => rfl
        | true => rw [hdc 14 h 2 (by simp [deps12])] at hf; cases hf
      have s6 := (hbs 6 (fun j hj hd => by
        have hj14 : j = 14 := by
          have hlt : j < 15 := by have := (List.getElem?_eq_some_iff.1 hd).1; simpa [ds12] using this
          have : j = 0 ∨ j = 1 ∨ j = 2 ∨ j = 3 ∨ j = 4 ∨ j = 5 ∨ j = 6 ∨ j = 7 ∨ j = 8 ∨ j = 9 ∨ j = 10 ∨ j = 11 ∨ j = 12 ∨ j = 13 ∨ j = 14 := by omega
          rcases this with rfl | rfl | rfl | rfl | rfl | rfl | rfl | rfl | rfl | rfl | rfl | rfl | rfl | rfl | rfl
          all_goals first | rfl | (simp [ds12] at hd)
        rw [hj14, h14] at hj; cases hj)).trans b6
      have s6' : a'.tmps[6]?.getD undef = .slice (some ⟨P.g, 0, none⟩) P.m P.cap := by rw [← Array.getD_eq_getD_getElem?]; exact s6
      have HQ := Lib.hid (HK.out (.slice (some ⟨P.g, 0, none⟩) P.m P.cap) W (hI.pure hL (by omega) (by omega) (by omega) _) (fun _ _ _ h => h) (by simp [M12, updF_same]))
      clear hI hM hpre hsl HK hbs hdc
      go_simp
      exact HQ.out
    -- operation 3
    · simp only [List.getElem?_toArray, List.getElem?_cons_zero, List.getElem?_cons_succ, Option.some.injEq] at ho
      subst ho
      simp only [Nat.zero_add, Nat.reduceAdd] at hf hpre ⊢
      have s8' : a'.tmps[8]?.getD undef = .int .i64 (P.i : Nat) := by rw [← Array.getD_eq_getD_getElem?]; exact s8
      have HQ := Lib.hid (HK.out (.int .i64 (P.i : Nat)) W (hI.pure hL (by omega) (by omega) (by omega) _) (fun _ _ _ h => h) (by simp [M12, updF_same]))
      clear hI hM hpre hsl HK hbs hdc
      go_simp
      exact HQ.out
    -- operation 4
    · simp only [List.getElem?_toArray, List.getElem?_cons_zero, List.getElem?_cons_succ, Option.some.injEq] at ho
      subst ho
      simp only [Nat.zero_add, Nat.reduceAdd] at hf hpre ⊢
      have l2 := (hpre ⟨2, .data⟩ (by simp) rfl)
      have q2 := (hsl 2 41 l2 rfl).trans (hM 2 l2)
      have l3 := (hpre ⟨3, .data⟩ (by simp) rfl)
      have q3 := (hsl 3 42 l3 rfl).trans (hM 3 l3)
      have q2' : a'.tmps[41]?.getD undef = .slice (some ⟨P.g, 0, none⟩) P.m P.cap := by rw [← Array.getD_eq_getD_getElem?]; exact q2
      have q3' : a'.tmps[42]?.getD undef = .int .i64 (P.i : Nat) := by rw [← Array.getD_eq_getD_getElem?]; exact q3
      have HQ := Lib.hid (HK.out (.pointer (some ⟨P.g, P.i, none⟩)) W (hI.pure hL (by omega) (by omega) (by omega) _) (fun _ _ _ h => h) (by simp [M12, updF_same]))
      clear hI hM hpre hsl HK hbs hdc
      go_simp
      exact HQ.out
    -- operation 5
    · simp only [List.getElem?_toArray, List.getElem?_cons_zero, List.getElem?_cons_succ, Option.some.injEq] at ho
      subst ho
      simp only [Nat.zero_add, Nat.reduceAdd] at hf hpre ⊢
      have l4 := (hpre ⟨4, .data⟩ (by simp) rfl)
      have q4 := (hsl 4 43 l4 rfl).trans (hM 4 l4)
      have q4' : a'.tmps[43]?.getD undef = .pointer (some ⟨P.g, P.i, none⟩) := by rw [← Array.getD_eq_getD_getElem?]; exact q4
      have h13 : L.getD 13 false = false := by
        cases h : L.getD 13 false with
        | false => rfl
        | true => rw [hdc 13 h 5 (by simp [deps12])] at hf; cases hf
      have hc := ((hI.pre h13).cell (p := ⟨P.g, P.i, none⟩) (World.block_lt_of_cell? _ _ HOK.out.at_)).trans HOK.out.at_
      have HQ := Lib.hid (HK.out (.int .i64 P.hi) W (hI.pure hL (by omega) (by omega) (by omega) _) (fun _ _ _ h => h) (by simp [M12, updF_same]))
      clear hI hM hpre hsl HK hbs hdc
      go_simp
      exact HQ.out
    -- operation 6
    · simp only [List.getElem?_toArray, List.getElem?_cons_zero, List.getElem?_cons_succ, Option.some.injEq] at ho
      subst ho
      simp only [Nat.zero_add, Nat.reduceAdd] at hf hpre ⊢
      have s0' : a'.tmps[0]?.getD undef = .slice (some ⟨P.bS, P.oS, none⟩) P.n P.c := by rw [← Array.getD_eq_getD_getElem?]; exact s0
      have HQ := Lib.hid (HK.out (.slice (some ⟨P.bS, P.oS, none⟩) P.n P.c) W (hI.pure hL (by omega) (by omega) (by omega) _) (fun _ _ _ h => h) (by simp [M12, updF_same]))
      clear hI hM hpre hsl HK hbs hdc
      go_simp
      exact HQ.out
    -- operation 7
    · simp only [List.getElem?_toArray, List.getElem?_cons_zero, List.getElem?_cons_succ, Option.some.injEq] at ho
      subst ho
      simp only [Nat.zero_add, Nat.reduceAdd] at hf hpre ⊢
      have s8' : a'.tmps[8]?.getD undef = .int .i64 (P.i : Nat) := by rw [← Array.getD_eq_getD_getElem?]; exact s8
      have HQ := Lib.hid (HK.out (.int .i64 (P.i : Nat)) W (hI.pure hL (by omega) (by omega) (by omega) _) (fun _ _ _ h => h) (by simp [M12, updF_same]))
      clear hI hM hpre hsl HK hbs hdc
      go_simp
      exact HQ.out
    -- operation 8
    · simp only [List.getElem?_toArray, List.getElem?_cons_zero, List.getElem?_cons_succ, Option.some.injEq] at ho
      subst ho
      simp only [Nat.zero_add, Nat.reduceAdd] at hf hpre ⊢
      have l6 := (hpre ⟨6, .data⟩ (by simp) rfl)
      have q6 := (hsl 6 45 l6 rfl).trans (hM 6 l6)
      have l7 := (hpre ⟨7, .data⟩ (by simp) rfl)
      have q7 := (hsl 7 46 l7 rfl).trans (hM 7 l7)
      have q6' : a'.tmps[45]?.getD undef = .slice (some ⟨P.bS, P.oS, none⟩) P.n P.c := by rw [← Array.getD_eq_getD_getElem?]; exact q6
      have q7' : a'.tmps[46]?.getD undef = .int .i64 (P.i : Nat) := by rw [← Array.getD_eq_getD_getElem?]; exact q7
      have HQ := Lib.hid (HK.out (.pointer (some ⟨P.bS, P.oS + P.i, none⟩)) W (hI.pure hL (by omega) (by omega) (by omega) _) (fun _ _ _ h => h) (by simp [M12, updF_same]))
      clear hI hM hpre hsl HK hbs hdc
      go_simp
      exact HQ.out
    -- operation 9
    · simp only [List.getElem?_toArray, List.getElem?_cons_zero, List.getElem?_cons_succ, Option.some.injEq] at ho
      subst ho
      simp only [Nat.zero_add, Nat.reduceAdd] at hf hpre ⊢
      have l8 := (hpre ⟨8, .data⟩ (by simp) rfl)
      have q8 := (hsl 8 47 l8 rfl).trans (hM 8 l8)
      have q8' : a'.tmps[47]?.getD undef = .pointer (some ⟨P.bS, P.oS + P.i, none⟩) := by rw [← Array.getD_eq_getD_getElem?]; exact q8
      have hnot13 : L.getD 13 false = false := by
        cases h : L.getD 13 false with
        | false => rfl
        | true =>
          have h11 := hdc 13 h 11 (by simp [deps12])
          have h9 := hdc 11 h11 9 (by simp [deps12])
          rw [h9] at hf; cases hf
      have hc := ((hI.pre hnot13).cell (p := ⟨P.bS, P.oS + P.i, none⟩) (World.block_lt_of_cell? _ _ HOK.out.sat)).trans HOK.out.sat
      have HQ := Lib.hid (HK.out (.int .i64 P.si) W (hI.pure hL (by omega) (by omega) (by omega) _) (fun _ _ _ h => h) (by simp [M12, updF_same]))
      clear hI hM hpre hsl HK hbs hdc
      go_simp
      exact HQ.out
    -- operation 10
    · simp only [List.getElem?_toArray, List.getElem?_cons_zero, List.getElem?_cons_succ, Option.some.injEq] at ho
      subst ho
      simp only [Nat.zero_add, Nat.reduceAdd] at hf hpre ⊢
      have s9' : a'.tmps[9]?.getD undef = .int .i64 P.nx := by rw [← Array.getD_eq_getD_getElem?]; exact s9
      have HQ := Lib.hid (HK.out (.int .i64 P.nx) W (hI.pure hL (by omega) (by omega) (by omega) _) (fun _ _ _ h => h) (by simp [M12, updF_same]))
      clear hI hM hpre hsl HK hbs hdc
      go_simp
      exact HQ.out
    -- operation 11
    · simp only [List.getElem?_toArray, List.getElem?_cons_zero, List.getElem?_cons_succ, Option.some.injEq] at ho
      subst ho
      simp only [Nat.zero_add, Nat.reduceAdd] at hf hpre ⊢
      have l1 := (hpre ⟨1, .data⟩ (by simp) rfl)
      have q1 := (hsl 1 40 l1 rfl).trans (hM 1 l1)
      have l5 := (hpre ⟨5, .data⟩ (by simp) rfl)
      have q5 := (hsl 5 44 l5 rfl).trans (hM 5 l5)
      have l9 := (hpre ⟨9, .data⟩ (by simp) rfl)
      have q9 := (hsl 9 48 l9 rfl).trans (hM 9 l9)
      have l10 := (hpre ⟨10, .data⟩ (by simp) rfl)
      have q10 := (hsl 10 49 l10 rfl).trans (hM 10 l10)
      have q1' : a'.tmps[40]?.getD undef = P.fv := by rw [← Array.getD_eq_getD_getElem?]; exact q1
      have q5' : a'.tmps[44]?.getD undef = .int .i64 P.hi := by rw [← Array.getD_eq_getD_getElem?]; exact q5
      have q9' : a'.tmps[48]?.getD undef = .int .i64 P.si := by rw [← Array.getD_eq_getD_getElem?]; exact q9
      have q10' : a'.tmps[49]?.getD undef = .int .i64 P.nx := by rw [← Array.getD_eq_getD_getElem?]; exact q10
      have h13 : L.getD 13 false = false := by
        cases h : L.getD 13 false with
        | false => rfl
        | true => rw [hdc 13 h 11 (by simp [deps12])] at hf; cases hf
      have h12 : L.getD 12 false = false := by
        cases h : L.getD 12 false with
        | false => rfl
        | true => rw [hdc 12 h 11 (by simp [deps12])] at hf; cases hf
      have hpre13 := hI.pre h13
      have hc := (hpre13.cell (p := ⟨P.bq, 0, none⟩) (World.block_lt_of_cell? _ _ HOK.out.cell)).trans HOK.out.cell
      have HC := Lib.hid (rollerW1 P.most P.hi P.si P.nx P.bq W HOK.out.m0 HOK.out.m1 HOK.out.h0 HOK.out.h1 hc)
      unfold P12.fv at q1 q1'
      go_simp
      refine HC.out.mono ?_
      rintro e w' ⟨rfl, hb'⟩
      exact HK.out _ _ (hI.call hL h12 h13 hb' _) (fun j _ _ h => M12_w j _ h) (by simp [M12, updF_same]; rfl)
    -- operation 12
    · simp only [List.getElem?_toArray, List.getElem?_cons_zero, List.getElem?_cons_succ, Option.some.injEq] at ho
      subst ho
      simp only [Nat.zero_add, Nat.reduceAdd] at hf hpre ⊢
      have l11 := (hpre ⟨11, .data⟩ (by simp) rfl)
      have q11 := (hsl 11 50 l11 rfl).trans (hM 11 l11)
      have q11' : a'.tmps[50]?.getD undef = .int .i64 P.new := by rw [← Array.getD_eq_getD_getElem?]; exact q11
      have h13 : L.getD 13 false = false := by
        cases h : L.getD 13 false with
        | false => rfl
        | true => rw [hdc 13 h 12 (by simp [deps12])] at hf; cases hf
      have HQ := Lib.hid (HK.out (.slice (some ⟨W.heap.size, 0, none⟩) 1 1) _ (hI.build hL h13) (fun j _ _ h => M12_w j _ h) trivial)
      clear hI hM hpre hsl HK hbs hdc
      go_simp
      exact HQ.out
    -- operation 13
    · simp only [List.getElem?_toArray, List.getElem?_cons_zero, List.getElem?_cons_succ, Option.some.injEq] at ho
      subst ho
      simp only [Nat.zero_add, Nat.reduceAdd] at hf hpre ⊢
      have l0 := (hpre ⟨0, .data⟩ (by simp) rfl)
      have q0 := (hsl 0 39 l0 rfl).trans (hM 0 l0)
      have q0' : a'.tmps[39]?.getD undef = .slice (some ⟨P.g, 0, none⟩) P.m P.cap := by rw [← Array.getD_eq_getD_getElem?]; exact q0
      have l12 := (hpre ⟨12, .data⟩ (by simp) rfl)
      obtain ⟨p, ep, hp⟩ := hI.box l12 hf
      have q12 := (hsl 12 51 l12 rfl).trans ep
      have hb13 := hI.pre hf
      refine wp_append_lies W _ _ 25 rfl P.base 3 i3 _ 1 8 Tryd.underlying25 hi3 hz0 hz1 hz2 rfl (by decide) (.slice (some ⟨P.g, 0, none⟩) P.m P.cap) P.m (ints P.hs) (by exact q0) (ownKeep HOK.out.own hb13) ⟨p, 0, none⟩ 1 1 [.int .i64 P.new] (by exact q12) rfl ?_ (by simp [Value.oneCell']) (by omega) (by have := HOK.out.mm; unfold maxLen; omega) (by have := HOK.out.mm; omega) (by have := HOK.out.base; have := hb13.size; omega) W.heap.size rfl ?_
      · intro q u hu
        have hq : q = 0 := by have := (List.getElem?_eq_some_iff.1 hu).1; simp at this; exact this
        subst hq
        rw [Go.WideShapes.add_plain]
        simp [World.cell?, hp] at hu ⊢
        exact hu
      · intro g' cap' w' hown hgrow hat hglt
        exact HK.out _ _ (hI.app HOK.out hL hf hown hgrow (hat.imp (fun e => by injection e with e; exact e.symm) (fun e => by omega))) (fun j _ _ h => M12_w j _ h) trivial
    -- operation 14
    · simp only [List.getElem?_toArray, List.getElem?_cons_zero, List.getElem?_cons_succ, Option.some.injEq] at ho
      subst ho
      simp only [Nat.zero_add, Nat.reduceAdd] at hf hpre ⊢
      have l13 := (hpre ⟨13, .data⟩ (by simp) rfl)
      have q13 := (hsl 13 52 l13 rfl)
      have q13' : a'.tmps[52]?.getD undef = f 13 := by rw [← Array.getD_eq_getD_getElem?]; exact q13
      have HQ := Lib.hid (HK.out (f 13) W (hI.pure hL (by omega) (by omega) (by omega) _) (fun _ _ _ h => h) (by simp [M12, updF]))
      clear hI hM hpre hsl HK hbs hdc
      go_simp
      exact HQ.out
    · omega
  · obtain ⟨g', cap', e, ho, hbl, hot, hgg⟩ := hI.post (hall 13 (by show 13 < ops12.size; rw [show ops12.size = 15 from rfl]; omega))
    exact hend f W g' cap' e (hM 14 (by rw [show ops12.size = 15 from rfl]; omega)) ho hbl hot hgg
end Go.Proofs.YtpkjiimcoepjpaaDoor
