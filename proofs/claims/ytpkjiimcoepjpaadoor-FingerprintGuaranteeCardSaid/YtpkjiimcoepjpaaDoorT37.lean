/- The closure of FingerprintGuarantee: three rows joined, hashed: a region of fourteen operations. -/
import Derived.Test.YtpkjiimcoepjpaaDoorT36
namespace Go.Proofs.YtpkjiimcoepjpaaDoor
set_option linter.unusedVariables false
set_option linter.unusedSimpArgs false
open Go.RowKit Go.Proofs.YtpkjiimcoepjpaaDoorW.PrintWords Go.Proofs.YtpkjiimcoepjpaaDoorW.PrintMore
open PFingerprintSymbols (S48)

theorem wp_append_inR {o : Oper} {a : Act} {K : Act → World → Prop} {Q : Exit → Act → World → Prop} {W : World} (s x : Operand)
    (ho : o.op = .call { callee := .builtin .append, args := #[s, x], argTypes := #[25, 25] }) (base : Nat) (v : Value) (vl : List Int) (hs : a.eval s = v) (hown : OwR W base v vl)
    (A : Option Addr) (c : Nat) (l : List Int) (hx : a.eval x = .slice A l.length c) (hI : InR W A c l) (hb : vl.length + l.length ≤ 1000000) (hbase : base ≤ W.heap.size)
    (h : ∀ v' w', OwR w' base v' (vl ++ l) → W.grownBy w' v.ownBlock → K (a.put o.dst v') w') : o.wp Tryd.prog a W K Q := by
  obtain ⟨i3, hi3, hz0, hz1, hz2⟩ := info_parts inf3
  by_cases h0 : l.length = 0
  · obtain rfl := List.eq_nil_of_length_eq_zero h0
    refine wp_append_zero s x 25 ho base 3 i3 1 Tryd.underlying25 hi3 v vl.length (ints vl) hs hown A c hx (h v W (by rw [List.append_nil]; exact hown) ⟨rfl, rfl, rfl, Nat.le_refl _, fun _ _ _ => rfl⟩)
  · obtain ⟨b, o', rfl, hc⟩ := hI.2.2 (by omega)
    refine wp_append_lies W s x 25 ho base 3 i3 (.int .i64 0) 1 8 Tryd.underlying25 hi3 hz0 hz1 hz2 rfl (by decide) v vl.length (ints vl) hs hown ⟨b, o', none⟩ l.length c (ints l) hx (by simp [ints]) ?_ (ints_one l) (by omega) (by unfold maxLen; omega) (by omega) hbase W.heap.size rfl ?_
    · intro j u hu
      rw [Go.WideShapes.add_plain]
      unfold ints at hu
      rw [List.getElem?_map] at hu
      obtain ⟨y, hy, rfl⟩ := Option.map_eq_some_iff.1 hu
      obtain ⟨hj, rfl⟩ := List.getElem?_eq_some_iff.1 hy
      exact hc j hj
    · intro g cap w' ho' hg _ _
      refine h _ w' ?_ hg
      unfold OwR ints at *
      rw [List.length_append, List.map_append]
      exact ho'

noncomputable def opsC : Array Oper := ((Tryd.f28.body.bind (firstReg 1)).getD #[])
def dsC : List (Option Nat) := [some 16, some 17, some 18, some 19, some 20, some 21, some 22, some 23, some 24, some 15, some 25, some 26, some 8, some 9]
def depsC : Nat → List Nat
  | 2 => [0, 1, 2]
  | 4 => [0, 1, 2, 3, 4]
  | 6 => [0, 1, 2, 3, 4, 5, 6]
  | 8 => [0, 1, 2, 3, 4, 5, 6, 7, 8]
  | 9 => [0, 1, 2, 3, 4, 5, 6, 7, 8, 9]
  | 10 => [0, 1, 2, 3, 4, 5, 6, 7, 8, 9, 10]
  | 11 => [0, 1, 2, 3, 4, 5, 6, 7, 8, 9, 11]
  | 12 => [0, 1, 2, 3, 4, 5, 6, 7, 8, 9, 10, 12]
  | 13 => [0, 1, 2, 3, 4, 5, 6, 7, 8, 9, 11, 13]
  | j => [j]
structure PC where
  w0 : World
  A0 : Option Addr
  c0 : Nat
  b : List Int
  A1 : Option Addr
  c1 : Nat
  cm : List Int
  A2 : Option Addr
  c2 : Nat
  a : List Int
  pc : Nat
  pk : Nat
  k : Int
def PC.all (p : PC) : List Int := p.b ++ p.cm ++ p.a
def PC.res (p : PC) (A : Option Addr) (c : Nat) : Value := .slice A (hashesV p.all p.k).length c
structure PC.Ok (p : PC) : Prop where
  i0 : InR p.w0 p.A0 p.c0 p.b
  i1 : InR p.w0 p.A1 p.c1 p.cm
  i2 : InR p.w0 p.A2 p.c2 p.a
  cc : p.w0.cell? ⟨p.pc, 0, none⟩ = some (.slice p.A1 p.cm.length p.c1)
  ck : p.w0.cell? ⟨p.pk, 0, none⟩ = some (.int .i64 p.k)
  len : p.b.length + p.cm.length + p.a.length ≤ 1000000
def cM (p : PC) : Nat → (Nat → Value) → World → Prop
  | 1, f, _ => f 1 = .slice p.A0 p.b.length p.c0
  | 3, f, _ => f 3 = .slice p.A1 p.cm.length p.c1
  | 5, f, _ => f 5 = .slice p.A2 p.a.length p.c2
  | 7, f, _ => f 7 = .int .i64 p.k
  | 9, f, _ => f 9 = f 8
  | 10, f, _ => ∀ v x, f 8 = .tuple #[v, x] → f 10 = v
  | 11, f, _ => ∀ v x, f 8 = .tuple #[v, x] → f 11 = x
  | 12, f, _ => f 12 = f 10
  | 13, f, _ => f 13 = f 11
  | _, _, _ => True
theorem cM_w {p : PC} (j : Nat) {f : Nat → Value} {W : World} (W' : World) (h : cM p j f W) : cM p j f W' := by
  rcases j with _ | _ | _ | _ | _ | _ | _ | _ | _ | _ | _ | _ | _ | _ | j <;> exact h
structure cI (p : PC) (L : Array Bool) (f : Nat → Value) (W : World) : Prop where
  bel : Below p.w0.heap.size p.w0 W
  r0 : L.getD 0 false = true → L.getD 2 false = false → OwR W p.w0.heap.size (f 0) []
  r2 : L.getD 2 false = true → L.getD 4 false = false → OwR W p.w0.heap.size (f 2) p.b
  r4 : L.getD 4 false = true → L.getD 6 false = false → OwR W p.w0.heap.size (f 4) (p.b ++ p.cm)
  r6 : L.getD 6 false = true → OwR W p.w0.heap.size (f 6) p.all
  r8 : L.getD 8 false = true → ∃ A c, f 8 = .tuple #[p.res A c, .int .i64 (hashesC p.all p.k)] ∧ InR W A c (hashesV p.all p.k)
theorem cI.pure {p : PC} {L : Array Bool} {f : Nat → Value} {W : World} (h : cI p L f W) (hL : L.size = 14) {i : Nat} (hi : i < 14) (h0 : i ≠ 0) (h2 : i ≠ 2) (h4 : i ≠ 4) (h6 : i ≠ 6) (h8 : i ≠ 8) (v : Value) : cI p (L.setIfInBounds i true) (updF f i v) W := by
  have hs : i < L.size := by omega
  obtain ⟨a, b, c, d, e, g⟩ := h
  constructor <;> try simp only [setk hs (Ne.symm h0), setk hs (Ne.symm h2), setk hs (Ne.symm h4), setk hs (Ne.symm h6), setk hs (Ne.symm h8), updF_other f v (Ne.symm h0), updF_other f v (Ne.symm h2), updF_other f v (Ne.symm h4), updF_other f v (Ne.symm h6), updF_other f v (Ne.symm h8)]
  all_goals assumption
theorem noT {L : Array Bool} {i j : Nat} (hf : L.getD i false = false) (hd : ∀ j, L.getD j false = true → ∀ k ∈ depsC j, L.getD k false = true) (hm : i ∈ depsC j) : L.getD j false = false := by
  cases h : L.getD j false with
  | false => rfl
  | true => exact fT hf (hd j h i hm)
theorem cI.s0 {p : PC} {L : Array Bool} {f : Nat → Value} {W : World} (h : cI p L f W) (hL : L.size = 14) (hf : L.getD 0 false = false) (hd : ∀ j, L.getD j false = true → ∀ k ∈ depsC j, L.getD k false = true) :
    cI p (L.setIfInBounds 0 true) (updF f 0 (.slice (some ⟨W.heap.size, 0, none⟩) 0 0)) (W.alloc (.cells #[] 3)) := by
  have hs : 0 < L.size := by omega
  have n2 := noT hf hd (j := 2) (by simp [depsC])
  have n4 := noT hf hd (j := 4) (by simp [depsC])
  have n6 := noT hf hd (j := 6) (by simp [depsC])
  have n8 := noT hf hd (j := 8) (by simp [depsC])
  refine ⟨h.bel.alloc h.bel.size _, ?_, ?_, ?_, ?_, ?_⟩
  · intro _ _
    rw [updF_same]
    exact ⟨by simp [ints], .inr ⟨W.heap.size, 0, #[], rfl, h.bel.size, heap_alloc_new _ _, Nat.le_refl _, Nat.zero_le _, by simp, by simp [ints]⟩⟩
  · rw [setk hs (by omega)]; exact fun l => fT n2 l
  · rw [setk hs (by omega)]; exact fun l => fT n4 l
  · rw [setk hs (by omega)]; exact fun l => fT n6 l
  · rw [setk hs (by omega)]; exact fun l => fT n8 l
theorem own_below {W : World} {base : Nat} {v : Value} {l : List Int} (h : OwR W base v l) : ∀ q, v.ownBlock = some q → base ≤ q := fun q hq => (World.ownsRow.lt h q hq).1
theorem cI.s2 {p : PC} {L : Array Bool} {f : Nat → Value} {W W' : World} (h : cI p L f W) (hL : L.size = 14) (l0 : L.getD 0 false = true) (hf : L.getD 2 false = false) (hd : ∀ j, L.getD j false = true → ∀ k ∈ depsC j, L.getD k false = true)
    {v : Value} (ho : OwR W' p.w0.heap.size v p.b) (hg : W.grownBy W' (f 0).ownBlock) : cI p (L.setIfInBounds 2 true) (updF f 2 v) W' := by
  have hs : 2 < L.size := by omega
  have n4 := noT hf hd (j := 4) (by simp [depsC])
  have n6 := noT hf hd (j := 6) (by simp [depsC])
  have n8 := noT hf hd (j := 8) (by simp [depsC])
  refine ⟨h.bel.grown hg h.bel.size (own_below (h.r0 l0 hf)), ?_, ?_, ?_, ?_, ?_⟩
  · rw [seti hs]; intro _ l; cases l
  · intro _ _; rw [updF_same]; exact ho
  · rw [setk hs (by omega)]; exact fun l => fT n4 l
  · rw [setk hs (by omega)]; exact fun l => fT n6 l
  · rw [setk hs (by omega)]; exact fun l => fT n8 l
theorem cI.s4 {p : PC} {L : Array Bool} {f : Nat → Value} {W W' : World} (h : cI p L f W) (hL : L.size = 14) (l2 : L.getD 2 false = true) (hf : L.getD 4 false = false) (hd : ∀ j, L.getD j false = true → ∀ k ∈ depsC j, L.getD k false = true)
    {v : Value} (ho : OwR W' p.w0.heap.size v (p.b ++ p.cm)) (hg : W.grownBy W' (f 2).ownBlock) : cI p (L.setIfInBounds 4 true) (updF f 4 v) W' := by
  have hs : 4 < L.size := by omega
  have n6 := noT hf hd (j := 6) (by simp [depsC])
  have n8 := noT hf hd (j := 8) (by simp [depsC])
  refine ⟨h.bel.grown hg h.bel.size (own_below (h.r2 l2 hf)), ?_, ?_, ?_, ?_, ?_⟩
  · rw [setk hs (by omega), setk hs (by omega)]; exact fun _ l => fT l l2
  · rw [seti hs]; intro _ l; cases l
  · intro _ _; rw [updF_same]; exact ho
  · rw [setk hs (by omega)]; exact fun l => fT n6 l
  · rw [setk hs (by omega)]; exact fun l => fT n8 l
theorem cI.s6 {p : PC} {L : Array Bool} {f : Nat → Value} {W W' : World} (h : cI p L f W) (hL : L.size = 14) (l2 : L.getD 2 false = true) (l4 : L.getD 4 false = true) (hf : L.getD 6 false = false) (hd : ∀ j, L.getD j false = true → ∀ k ∈ depsC j, L.getD k false = true)
    {v : Value} (ho : OwR W' p.w0.heap.size v p.all) (hg : W.grownBy W' (f 4).ownBlock) : cI p (L.setIfInBounds 6 true) (updF f 6 v) W' := by
  have hs : 6 < L.size := by omega
  have n8 := noT hf hd (j := 8) (by simp [depsC])
  refine ⟨h.bel.grown hg h.bel.size (own_below (h.r4 l4 hf)), ?_, ?_, ?_, ?_, ?_⟩
  · rw [setk hs (by omega), setk hs (by omega)]; exact fun _ l => fT l l2
  · rw [setk hs (by omega), setk hs (by omega)]; exact fun _ l => fT l l4
  · rw [seti hs]; intro _ l; cases l
  · intro _; rw [updF_same]; exact ho
  · rw [setk hs (by omega)]; exact fun l => fT n8 l
theorem cI.s8 {p : PC} {L : Array Bool} {f : Nat → Value} {W W' : World} (h : cI p L f W) (hL : L.size = 14) (l2 : L.getD 2 false = true) (l4 : L.getD 4 false = true) (l6 : L.getD 6 false = true) (hb : Below W.heap.size W W')
    {A : Option Addr} {c : Nat} (hi : InR W' A c (hashesV p.all p.k)) : cI p (L.setIfInBounds 8 true) (updF f 8 (.tuple #[p.res A c, .int .i64 (hashesC p.all p.k)])) W' := by
  have hs : 8 < L.size := by omega
  refine ⟨h.bel.trans (hb.mono h.bel.size), ?_, ?_, ?_, ?_, ?_⟩
  · rw [setk hs (by omega), setk hs (by omega)]; exact fun _ l => fT l l2
  · rw [setk hs (by omega), setk hs (by omega)]; exact fun _ l => fT l l4
  · rw [setk hs (by omega), setk hs (by omega)]; exact fun _ l => fT l l6
  · rw [setk hs (by omega), updF_other f _ (by omega)]; exact fun l => (h.r6 l).below hb
  · intro _; rw [updF_same]; exact ⟨A, c, rfl, hi⟩

set_option maxRecDepth 100000 in
set_option maxHeartbeats 2000000 in
theorem regionC (p : PC) (ok : p.Ok) (b : Array Value) (hb : b.size = 70) (b0 : b.getD 0 undef = .slice p.A0 p.b.length p.c0) (b1 : b.getD 1 undef = .slice p.A2 p.a.length p.c2) (b2 : b.getD 2 undef = .pointer (some ⟨p.pc, 0, none⟩)) (b3 : b.getD 3 undef = .pointer (some ⟨p.pk, 0, none⟩))
    (Q : Exit → Act → World → Prop)
    (hend : ∀ (f : Nat → Value) (W : World) (A : Option Addr) (c : Nat), f 8 = .tuple #[p.res A c, .int .i64 (hashesC p.all p.k)] → f 9 = f 8 → f 10 = p.res A c → f 11 = .int .i64 (hashesC p.all p.k) → f 12 = p.res A c → f 13 = .int .i64 (hashesC p.all p.k) → InR W A c (hashesV p.all p.k) → Below p.w0.heap.size p.w0 W → Q .normal ⟨setAll f 0 dsC b, []⟩ W) :
    (Code.region 1 opsC true).wp Tryd.prog Q ⟨b, []⟩ p.w0 := by
  have hpl := World.block_lt_of_cell? _ _ ok.cc
  have hkl := World.block_lt_of_cell? _ _ ok.ck
  refine wp_region_M (by kernel_rfl) (by kernel_rfl) dsC (by kernel_rfl) (by rw [hb]; decide) (by kernel_rfl) (cM p) (cI p) depsC (by kernel_rfl) ?_ ?_ ?_ (fun L f W hL hall hI hM => ?_)
  · intro j f f' W h hm
    rcases j with _ | _ | _ | _ | _ | _ | _ | _ | _ | _ | _ | _ | _ | _ | j
    all_goals simp only [depsC, List.mem_cons, List.not_mem_nil, or_false, forall_eq, forall_eq_or_imp, cM, Nat.zero_add, Nat.reduceAdd] at h hm ⊢
    all_goals first | trivial | (rw [← h]; exact hm) | (simp only [← h]; exact hm)
  · refine ⟨(Below.refl _ _).drew, ?_, ?_, ?_, ?_, ?_⟩ <;> intro e <;> exact absurd e (by simp [Array.getD])
  · intro i o L f a' W ho hs hI hM hf hpre hbs hsl hdc K hK
    have hL : L.size = 14 := hs
    have hi : i < 14 := (Array.getElem?_eq_some_iff.1 ho).1
    have hp := pre_of (deps := depsC) (by kernel_rfl) ho hpre hdc
    conv at ho => lhs; arg 1; whnf
    have hjlt : ∀ j, L.getD j false = true → j < 14 := fun j hj => by
      rw [← hL]
      by_cases hlt : j < L.size
      · exact hlt
      · simp [Array.getD, hlt] at hj
    have nb : ∀ s, (∀ j : Nat, j < 14 → dsC[j]? ≠ some (some s)) → a'.tmps.getD s undef = b.getD s undef := fun s hs => hbs s (fun j hj => hs j (hjlt j hj))
    have s0 := (nb 0 (by decide)).trans b0
    have s1 := (nb 1 (by decide)).trans b1
    have s2 := (nb 2 (by decide)).trans b2
    have s3 := (nb 3 (by decide)).trans b3
    have keep : ∀ W' : World, ∀ j, j ≠ i → L.getD j false = true → cM p j f W → cM p j f W' := fun W' j _ _ h => cM_w j W' h
    clear nb b0 b1 b2 b3 hpre hbs
    rcases i with _ | _ | _ | _ | _ | _ | _ | _ | _ | _ | _ | _ | _ | _ | i
    · simp only [List.getElem?_toArray, List.getElem?_cons_zero, List.getElem?_cons_succ, Option.some.injEq] at ho
      subst ho
      simp only [Nat.zero_add, Nat.reduceAdd] at hf hp hK keep ⊢
      exact wp_buildSlice rfl (by have := buildI0 W; simpa using this) (hK _ _ (hI.s0 hL hf hdc) (keep _) trivial)
    · simp only [List.getElem?_toArray, List.getElem?_cons_zero, List.getElem?_cons_succ, Option.some.injEq] at ho
      subst ho
      simp only [Nat.zero_add, Nat.reduceAdd] at hf hp hK keep ⊢
      refine wp_move rfl (hK _ _ (hI.pure hL (by omega) (by omega) (by omega) (by omega) (by omega) (by omega) _) (keep _) ?_)
      show updF f 1 _ 1 = _
      rw [updF_same]; exact s0
    · simp only [List.getElem?_toArray, List.getElem?_cons_zero, List.getElem?_cons_succ, Option.some.injEq] at ho
      subst ho
      simp only [Nat.zero_add, Nat.reduceAdd] at hf hp hK keep ⊢
      have l0 := hp 0 (by simp [depsC]) (by omega)
      have l1 := hp 1 (by simp [depsC]) (by omega)
      refine wp_append_inR (.tmp 16) (.tmp 17) rfl p.w0.heap.size (f 0) [] (hsl 0 16 l0 rfl) (hI.r0 l0 hf) p.A0 p.c0 p.b ((hsl 1 17 l1 rfl).trans (hM 1 l1)) (ok.i0.below hI.bel) (by have := ok.len; simp; omega) hI.bel.size ?_
      intro v' w' ho hg
      exact hK _ _ (hI.s2 hL l0 hf hdc ho hg) (keep _) trivial
    · simp only [List.getElem?_toArray, List.getElem?_cons_zero, List.getElem?_cons_succ, Option.some.injEq] at ho
      subst ho
      simp only [Nat.zero_add, Nat.reduceAdd] at hf hp hK keep ⊢
      have s2' : a'.tmps[2]?.getD undef = .pointer (some ⟨p.pc, 0, none⟩) := by rw [← Array.getD_eq_getD_getElem?]; exact s2
      have hc := (hI.bel.cell (p := ⟨p.pc, 0, none⟩) hpl).trans ok.cc
      have HQ := Lib.hid (hK (.slice p.A1 p.cm.length p.c1) W (hI.pure hL (by omega) (by omega) (by omega) (by omega) (by omega) (by omega) _) (keep _) (by simp [cM, updF_same]))
      clear hI hM hp hsl hK hdc s0 s1 s2 s3
      go_simp
      exact HQ.out
    · simp only [List.getElem?_toArray, List.getElem?_cons_zero, List.getElem?_cons_succ, Option.some.injEq] at ho
      subst ho
      simp only [Nat.zero_add, Nat.reduceAdd] at hf hp hK keep ⊢
      have l2 := hp 2 (by simp [depsC]) (by omega)
      have l3 := hp 3 (by simp [depsC]) (by omega)
      refine wp_append_inR (.tmp 18) (.tmp 19) rfl p.w0.heap.size (f 2) p.b (hsl 2 18 l2 rfl) (hI.r2 l2 hf) p.A1 p.c1 p.cm ((hsl 3 19 l3 rfl).trans (hM 3 l3)) (ok.i1.below hI.bel) (by have := ok.len; omega) hI.bel.size ?_
      intro v' w' ho hg
      exact hK _ _ (hI.s4 hL l2 hf hdc ho hg) (keep _) trivial
    · simp only [List.getElem?_toArray, List.getElem?_cons_zero, List.getElem?_cons_succ, Option.some.injEq] at ho
      subst ho
      simp only [Nat.zero_add, Nat.reduceAdd] at hf hp hK keep ⊢
      refine wp_move rfl (hK _ _ (hI.pure hL (by omega) (by omega) (by omega) (by omega) (by omega) (by omega) _) (keep _) ?_)
      show updF f 5 _ 5 = _
      rw [updF_same]; exact s1
    · simp only [List.getElem?_toArray, List.getElem?_cons_zero, List.getElem?_cons_succ, Option.some.injEq] at ho
      subst ho
      simp only [Nat.zero_add, Nat.reduceAdd] at hf hp hK keep ⊢
      have l2 := hp 2 (by simp [depsC]) (by omega)
      have l4 := hp 4 (by simp [depsC]) (by omega)
      have l5 := hp 5 (by simp [depsC]) (by omega)
      refine wp_append_inR (.tmp 20) (.tmp 21) rfl p.w0.heap.size (f 4) (p.b ++ p.cm) (hsl 4 20 l4 rfl) (hI.r4 l4 hf) p.A2 p.c2 p.a ((hsl 5 21 l5 rfl).trans (hM 5 l5)) (ok.i2.below hI.bel) (by have := ok.len; rw [List.length_append]; omega) hI.bel.size ?_
      intro v' w' ho hg
      exact hK _ _ (hI.s6 hL l2 l4 hf hdc ho hg) (keep _) trivial
    · simp only [List.getElem?_toArray, List.getElem?_cons_zero, List.getElem?_cons_succ, Option.some.injEq] at ho
      subst ho
      simp only [Nat.zero_add, Nat.reduceAdd] at hf hp hK keep ⊢
      have s3' : a'.tmps[3]?.getD undef = .pointer (some ⟨p.pk, 0, none⟩) := by rw [← Array.getD_eq_getD_getElem?]; exact s3
      have hc := (hI.bel.cell (p := ⟨p.pk, 0, none⟩) hkl).trans ok.ck
      have HQ := Lib.hid (hK (.int .i64 p.k) W (hI.pure hL (by omega) (by omega) (by omega) (by omega) (by omega) (by omega) _) (keep _) (by simp [cM, updF_same]))
      clear hI hM hp hsl hK hdc s0 s1 s2 s3
      go_simp
      exact HQ.out
    · simp only [List.getElem?_toArray, List.getElem?_cons_zero, List.getElem?_cons_succ, Option.some.injEq] at ho
      subst ho
      simp only [Nat.zero_add, Nat.reduceAdd] at hf hp hK keep ⊢
      have l2 := hp 2 (by simp [depsC]) (by omega)
      have l4 := hp 4 (by simp [depsC]) (by omega)
      have l6 := hp 6 (by simp [depsC]) (by omega)
      have l7 := hp 7 (by simp [depsC]) (by omega)
      obtain ⟨A, c, ev, hin⟩ := (hI.r6 l6).inR
      have q6 := (hsl 6 22 l6 rfl).trans ev
      have q7 := (hsl 7 23 l7 rfl).trans (hM 7 l7)
      have q6' : a'.tmps[22]?.getD undef = .slice A p.all.length c := by rw [← Array.getD_eq_getD_getElem?]; exact q6
      have q7' : a'.tmps[23]?.getD undef = .int .i64 p.k := by rw [← Array.getD_eq_getD_getElem?]; exact q7
      have HC := Lib.hid (HashesW' p.all A c p.k W hin)
      have HQ := Lib.hid (show ∀ A' c' W', Below W.heap.size W W' → InR W' A' c' (hashesV p.all p.k) → K (a'.put (some 24) (.tuple #[p.res A' c', .int .i64 (hashesC p.all p.k)])) W' from fun A' c' W' h1 h2 => hK _ _ (hI.s8 hL l2 l4 l6 h1 h2) (keep _) trivial)
      clear hI hM hp hsl hK hdc s0 s1 s2 s3 q6 q7 ev hin
      go_simp
      refine HC.out.mono ?_
      rintro e w' ⟨⟨A', c', rfl, i'⟩, hb'⟩
      exact HQ.out A' c' w' hb' i'
    · simp only [List.getElem?_toArray, List.getElem?_cons_zero, List.getElem?_cons_succ, Option.some.injEq] at ho
      subst ho
      simp only [Nat.zero_add, Nat.reduceAdd] at hf hp hK keep ⊢
      have l8 := hp 8 (by simp [depsC]) (by omega)
      refine wp_move rfl (hK _ _ (hI.pure hL (by omega) (by omega) (by omega) (by omega) (by omega) (by omega) _) (keep _) ?_)
      show updF f 9 _ 9 = updF f 9 _ 8
      rw [updF_same, updF_other _ _ (by omega)]; exact hsl 8 24 l8 rfl
    · simp only [List.getElem?_toArray, List.getElem?_cons_zero, List.getElem?_cons_succ, Option.some.injEq] at ho
      subst ho
      simp only [Nat.zero_add, Nat.reduceAdd] at hf hp hK keep ⊢
      have l8 := hp 8 (by simp [depsC]) (by omega)
      have l9 := hp 9 (by simp [depsC]) (by omega)
      obtain ⟨A, c, ev, hin⟩ := hI.r8 l8
      have q9 := ((hsl 9 15 l9 rfl).trans (hM 9 l9)).trans ev
      have q9' : a'.tmps[15]?.getD undef = .tuple #[p.res A c, .int .i64 (hashesC p.all p.k)] := by rw [← Array.getD_eq_getD_getElem?]; exact q9
      have HQ := Lib.hid (hK (p.res A c) W (hI.pure hL (by omega) (by omega) (by omega) (by omega) (by omega) (by omega) _) (keep _) (by
        show ∀ v x, updF f 10 _ 8 = .tuple #[v, x] → updF f 10 _ 10 = v
        rw [updF_same, updF_other _ _ (by omega), ev]
        intro v x h
        injection h with h
        injection h with h
        injection h with h1 h2))
      clear hI hM hp hsl hK hdc s0 s1 s2 s3 q9 ev hin
      go_simp
      exact HQ.out
    · simp only [List.getElem?_toArray, List.getElem?_cons_zero, List.getElem?_cons_succ, Option.some.injEq] at ho
      subst ho
      simp only [Nat.zero_add, Nat.reduceAdd] at hf hp hK keep ⊢
      have l8 := hp 8 (by simp [depsC]) (by omega)
      have l9 := hp 9 (by simp [depsC]) (by omega)
      obtain ⟨A, c, ev, hin⟩ := hI.r8 l8
      have q9 := ((hsl 9 15 l9 rfl).trans (hM 9 l9)).trans ev
      have q9' : a'.tmps[15]?.getD undef = .tuple #[p.res A c, .int .i64 (hashesC p.all p.k)] := by rw [← Array.getD_eq_getD_getElem?]; exact q9
      have HQ := Lib.hid (hK (.int .i64 (hashesC p.all p.k)) W (hI.pure hL (by omega) (by omega) (by omega) (by omega) (by omega) (by omega) _) (keep _) (by
        show ∀ v x, updF f 11 _ 8 = .tuple #[v, x] → updF f 11 _ 11 = x
        rw [updF_same, updF_other _ _ (by omega), ev]
        intro v x h
        injection h with h
        injection h with h
        injection h with h1 h2
        injection h2))
      clear hI hM hp hsl hK hdc s0 s1 s2 s3 q9 ev hin
      go_simp
      exact HQ.out
    · simp only [List.getElem?_toArray, List.getElem?_cons_zero, List.getElem?_cons_succ, Option.some.injEq] at ho
      subst ho
      simp only [Nat.zero_add, Nat.reduceAdd] at hf hp hK keep ⊢
      have l := hp 10 (by simp [depsC]) (by omega)
      refine wp_assign rfl (hK _ _ (hI.pure hL (by omega) (by omega) (by omega) (by omega) (by omega) (by omega) _) (keep _) ?_)
      show updF f 12 _ 12 = updF f 12 _ 10
      rw [updF_same, updF_other _ _ (by omega)]; exact hsl 10 25 l rfl
    · simp only [List.getElem?_toArray, List.getElem?_cons_zero, List.getElem?_cons_succ, Option.some.injEq] at ho
      subst ho
      simp only [Nat.zero_add, Nat.reduceAdd] at hf hp hK keep ⊢
      have l := hp 11 (by simp [depsC]) (by omega)
      refine wp_assign rfl (hK _ _ (hI.pure hL (by omega) (by omega) (by omega) (by omega) (by omega) (by omega) _) (keep _) ?_)
      show updF f 13 _ 13 = updF f 13 _ 11
      rw [updF_same, updF_other _ _ (by omega)]; exact hsl 11 26 l rfl
    · omega
  · obtain ⟨A, c, ev, hin⟩ := hI.r8 (hall 8 (by decide))
    have e10 := hM 10 (by decide) _ _ ev
    have e11 := hM 11 (by decide) _ _ ev
    exact hend f W A c ev (hM 9 (by decide)) e10 e11 ((hM 12 (by decide)).trans e10) ((hM 13 (by decide)).trans e11) hin hI.bel
end Go.Proofs.YtpkjiimcoepjpaaDoor
