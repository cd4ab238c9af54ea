/- One more element in the middle of a row, as append(append(append([]T{}, l[:k]...), x), l[k:]...) lays it: a region of thirteen operations, in any order. -/
import Derived.Test.YtpkjiimcoepjpaaDoorC7
import Derived.Deep.AppendLies
import Derived.Laws.PanicsMore
namespace Go.Proofs.YtpkjiimcoepjpaaDoor
set_option linter.unusedVariables false
set_option linter.unusedSimpArgs false
open Go.RowKit

section
variable {P : Program}
/-- nothing appended -/
theorem run_append_zero (w : World) (base : Nat) (t ty e : TypeId) (i : TypeInfo) (size : Nat) (ht : P.underlying t = some (.slice e)) (hi : P.info? e = some i)
    (v : Value) (n : Nat) (xs : List Value) (hown : w.ownsRow base e size v n xs) (A : Option Addr) (c : Nat) : (Builtin.append_ #[t, t] ty #[v, .slice A 0 c]).run P w = .ok v w := by
  rcases hown.2 with ⟨rfl, rfl⟩ | ⟨g, cap, cur, rfl, _, _, hnc, _⟩
  · cases A with
    | none => simp [Builtin.append_, run_underlying ht, sizeOf, typeInfo, hi, Builtin.lenOf, Builtin.firstCells]
    | some a => simp [Builtin.append_, run_underlying ht, sizeOf, typeInfo, hi, Builtin.lenOf, Builtin.firstCells, loadCells, loadCellsFrom]
  · cases A with
    | none => simp [Builtin.append_, run_underlying ht, sizeOf, typeInfo, hi, Builtin.lenOf, Builtin.firstCells, hnc, storeCells]
    | some a => simp [Builtin.append_, run_underlying ht, sizeOf, typeInfo, hi, Builtin.lenOf, Builtin.firstCells, hnc, storeCells, loadCells, loadCellsFrom]
theorem run_slice_to (t e : TypeId) (ht : P.underlying t = some (.slice e)) (i : TypeInfo) (hi : P.info? e = some i) (A : Option Addr) (n c k : Nat) (hkc : k ≤ c) (W : World) :
    (Instr.sliceAt t (.slice A n c) none (some (.int .i64 (k : Nat))) none).run P W = .ok (.slice (if c = 0 then A else A.map (·.add (0 * i.size))) k c) W := by
  simp [Instr.sliceAt, Instr.slice, run_underlying ht, Instr.sliceBounds, Instr.sliceBound, sizeOf, typeInfo, hi, asIntOf, hkc]
theorem run_slice_from (t e : TypeId) (ht : P.underlying t = some (.slice e)) (i : TypeInfo) (hi : P.info? e = some i) (A : Option Addr) (n c k : Nat) (hkn : k ≤ n) (hnc : n ≤ c) (W : World) :
    (Instr.sliceAt t (.slice A n c) (some (.int .i64 (k : Nat))) none none).run P W = .ok (.slice (if c = k then A else A.map (·.add (k * i.size))) (n - k) (c - k)) W := by
  simp [Instr.sliceAt, Instr.slice, run_underlying ht, Instr.sliceBounds, Instr.sliceBound, sizeOf, typeInfo, hi, asIntOf, hkn]

theorem pre_of {ops : Array Oper} {deps : Nat → List Nat} (hd : depsOk ops deps = true) {i : Nat} {o : Oper} (ho : ops[i]? = some o) {L : Array Bool} (hpre : ∀ e ∈ o.after, Region.binds .any e = true → L.getD e.on false = true)
    (hdc : ∀ j, L.getD j false = true → ∀ k ∈ deps j, L.getD k false = true) : ∀ k ∈ deps i, k ≠ i → L.getD k false = true := by
  intro k hk hne
  have h1 := List.all_eq_true.1 hd i (List.mem_range.2 (Array.getElem?_eq_some_iff.1 ho).1)
  have h2 := List.all_eq_true.1 h1 k hk
  rw [ho] at h2
  simp only [Option.map_some, Option.getD_some] at h2
  rcases Bool.or_eq_true_iff.1 h2 with h2 | h2
  · exact absurd (by simpa using h2) hne
  · obtain ⟨e, he, h3⟩ := Array.any_eq_true'.1 h2
    obtain ⟨h3, h4⟩ := Bool.and_eq_true_iff.1 h3
    have hon := hpre e he h3
    rcases Bool.or_eq_true_iff.1 h4 with h4 | h4
    · have : k = e.on := by simpa using h4
      rw [this]; exact hon
    · exact hdc e.on hon k (by simpa using h4)
theorem wp_move {o : Oper} {a : Act} {K : Act → World → Prop} {Q : Exit → Act → World → Prop} {x : Operand} {W : World} (ho : o.op = .move x) (h : K (a.put o.dst (a.eval x)) W) : o.wp P a W K Q := by
  unfold Oper.wp execOp
  simp only [ho, Sem.run_pure]
  exact h
theorem wp_assign {o : Oper} {a : Act} {K : Act → World → Prop} {Q : Exit → Act → World → Prop} {x : Operand} {W : World} (ho : o.op = .assign x) (h : K (a.put o.dst (a.eval x)) W) : o.wp P a W K Q := by
  unfold Oper.wp execOp
  simp only [ho, Sem.run_pure]
  exact h
theorem wp_slice {o : Oper} {a : Act} {K : Act → World → Prop} {Q : Exit → Act → World → Prop} {t : TypeId} {x : Operand} {lo hi mx : Option Operand} {W : World} (ho : o.op = .slice t x lo hi mx) {v : Value}
    (hr : (Instr.sliceAt t (a.eval x) (lo.map a.eval) (hi.map a.eval) (mx.map a.eval)).run P W = .ok v W) (h : K (a.put o.dst v) W) : o.wp P a W K Q := by
  unfold Oper.wp execOp
  simp only [ho, Sem.run_bind, Sem.run_pure, Result.andThen_ok, hr]
  exact h
theorem wp_buildSlice {o : Oper} {a : Act} {K : Act → World → Prop} {Q : Exit → Act → World → Prop} {t : TypeId} {n : Nat} {ps : Array (Nat × Operand)} {W W' : World} (ho : o.op = .buildSlice t n ps) {v : Value}
    (hr : (Instr.buildSlice t n (ps.map fun x => (x.1, a.eval x.2))).run P W = .ok v W') (h : K (a.put o.dst v) W') : o.wp P a W K Q := by
  unfold Oper.wp execOp
  simp only [ho, Sem.run_bind, Sem.run_pure, Result.andThen_ok, hr]
  exact h
theorem wp_append_zero {o : Oper} {a : Act} {K : Act → World → Prop} {Q : Exit → Act → World → Prop} {W : World} (s x : Operand) (t : TypeId)
    (ho : o.op = .call { callee := .builtin .append, args := #[s, x], argTypes := #[t, t] }) (base : Nat) (e : TypeId) (i : TypeInfo) (size : Nat) (ht : P.underlying t = some (.slice e)) (hi : P.info? e = some i)
    (v : Value) (n : Nat) (xs : List Value) (hs : a.eval s = v) (hown : W.ownsRow base e size v n xs) (A : Option Addr) (c : Nat) (hx : a.eval x = .slice A 0 c) (h : K (a.put o.dst v) W) : o.wp P a W K Q := by
  have hr := run_append_zero (P := P) W base t o.type e i size ht hi v n xs hown A c
  unfold Oper.wp execOp
  simp only [ho, resolve, invoke, builtin, Sem.run_bind, Sem.run_pure, Result.andThen_ok, List.map_toArray, List.map_cons, List.map_nil, hs, hx, hr]
  exact h
end

def insFrm (q sl sk : Nat) (t : TypeId) (x5 : Op) : List Op :=
  [.buildSlice t 0 #[], .move (.tmp sl), .move (.tmp sk), .slice t (.tmp (q + 1)) none (some (.tmp (q + 2))) none, .call { callee := .builtin .append, args := #[.tmp q, .tmp (q + 3)], argTypes := #[t, t] },
   x5, .buildSlice t 1 #[(0, .tmp (q + 5))], .call { callee := .builtin .append, args := #[.tmp (q + 4), .tmp (q + 6)], argTypes := #[t, t] },
   .move (.tmp sl), .move (.tmp sk), .slice t (.tmp (q + 8)) (some (.tmp (q + 9))) none none, .call { callee := .builtin .append, args := #[.tmp (q + 7), .tmp (q + 10)], argTypes := #[t, t] }, .assign (.tmp (q + 11))]
def insDs (q r : Nat) : List (Option Nat) := [some q, some (q + 1), some (q + 2), some (q + 3), some (q + 4), some (q + 5), some (q + 6), some (q + 7), some (q + 8), some (q + 9), some (q + 10), some (q + 11), some r]
def insDeps : Nat → List Nat
  | 3 => [1, 2, 3]
  | 4 => [0, 1, 2, 3, 4]
  | 6 => [5, 6]
  | 7 => [0, 1, 2, 3, 4, 5, 6, 7]
  | 10 => [8, 9, 10]
  | 11 => [0, 1, 2, 3, 4, 5, 6, 7, 8, 9, 10, 11]
  | 12 => [0, 1, 2, 3, 4, 5, 6, 7, 8, 9, 10, 11, 12]
  | j => [j]
/-- a row's cells, read -/
def RdC (w : World) (A : Option Addr) (sz n : Nat) (cells : List Value) : Prop :=
  cells.length = n * sz ∧ (0 < n → ∃ b o, A = some ⟨b, o, none⟩ ∧ ∀ j u, cells[j]? = some u → w.cell? ⟨b, o + j, none⟩ = some u)
theorem RdC.below {w w1 : World} {A : Option Addr} {sz n : Nat} {cells : List Value} (h : RdC w A sz n cells) {B : Nat} (hB : w.heap.size ≤ B) (hb : Below B w w1) : RdC w1 A sz n cells :=
  ⟨h.1, fun hp => by
    obtain ⟨b, o, e, hc⟩ := h.2 hp
    exact ⟨b, o, e, fun j u hu => (hb.cell (p := ⟨b, o + j, none⟩) (Nat.lt_of_lt_of_le (World.block_lt_of_cell? w _ (hc j u hu)) hB)).trans (hc j u hu)⟩⟩
structure PIns where
  w0 : World
  A : Option Addr
  n : Nat
  c : Nat
  k : Nat
  sz : Nat
  cells : List Value
  new : List Value
  newV : Value
  e : TypeId
structure PIns.Ok (p : PIns) : Prop where
  rd : RdC p.w0 p.A p.sz p.n p.cells
  one : ∀ u ∈ p.cells, u.oneCell' = true
  onen : ∀ u ∈ p.new, u.oneCell' = true
  len : p.new.length = p.sz
  kn : p.k ≤ p.n
  nc : p.n ≤ p.c
  nm : p.n ≤ 1000000
  szp : 0 < p.sz
def insM (p : PIns) : Nat → (Nat → Value) → World → Prop
  | 1, f, _ => f 1 = .slice p.A p.n p.c
  | 2, f, _ => f 2 = .int .i64 (p.k : Nat)
  | 3, f, _ => f 3 = .slice (if p.c = 0 then p.A else p.A.map (·.add (0 * p.sz))) p.k p.c
  | 5, f, _ => f 5 = p.newV
  | 8, f, _ => f 8 = .slice p.A p.n p.c
  | 9, f, _ => f 9 = .int .i64 (p.k : Nat)
  | 10, f, _ => f 10 = .slice (if p.c = p.k then p.A else p.A.map (·.add (p.k * p.sz))) (p.n - p.k) (p.c - p.k)
  | 12, f, _ => f 12 = f 11
  | _, _, _ => True
theorem insM_w {p : PIns} (j : Nat) {f : Nat → Value} {W : World} (W' : World) (h : insM p j f W) : insM p j f W' := by
  rcases j with _ | _ | _ | _ | _ | _ | _ | _ | _ | _ | _ | _ | _ | j <;> exact h
structure insI (p : PIns) (L : Array Bool) (f : Nat → Value) (W : World) : Prop where
  bel : Below p.w0.heap.size p.w0 W
  r0 : L.getD 0 false = true → L.getD 4 false = false → W.ownsRow p.w0.heap.size p.e p.sz (f 0) 0 []
  r4 : L.getD 4 false = true → L.getD 7 false = false → W.ownsRow p.w0.heap.size p.e p.sz (f 4) p.k (p.cells.take (p.k * p.sz))
  r7 : L.getD 7 false = true → L.getD 11 false = false → W.ownsRow p.w0.heap.size p.e p.sz (f 7) (p.k + 1) (p.cells.take (p.k * p.sz) ++ p.new)
  r11 : L.getD 11 false = true → W.ownsRow p.w0.heap.size p.e p.sz (f 11) (p.n + 1) (p.cells.take (p.k * p.sz) ++ p.new ++ p.cells.drop (p.k * p.sz))
  bx : L.getD 6 false = true → L.getD 7 false = false → ∃ g, f 6 = .slice (some ⟨g, 0, none⟩) 1 1 ∧ W.heap[g]? = some (.cells p.new.toArray p.e (0, 0)) ∧
    (L.getD 0 false = true → L.getD 4 false = false → (f 0).ownBlock ≠ some g) ∧ (L.getD 4 false = true → (f 4).ownBlock ≠ some g)

theorem setk {L : Array Bool} {i : Nat} (hi : i < L.size) {j : Nat} (hj : j ≠ i) : (L.setIfInBounds i true).getD j false = L.getD j false := by rw [getDs hi]; simp [hj]
theorem seti {L : Array Bool} {i : Nat} (hi : i < L.size) : (L.setIfInBounds i true).getD i false = true := by rw [getDs hi]; simp
theorem fT {x : Bool} {Q : Prop} (h : x = false) (h2 : x = true) : Q := by rw [h] at h2; cases h2
theorem insI.pure {p : PIns} {L : Array Bool} {f : Nat → Value} {W : World} (h : insI p L f W) (hL : L.size = 13) {i : Nat} (hi : i < 13) (h0 : i ≠ 0) (h4 : i ≠ 4) (h6 : i ≠ 6) (h7 : i ≠ 7) (h11 : i ≠ 11) (v : Value) : insI p (L.setIfInBounds i true) (updF f i v) W := by
  have hs : i < L.size := by omega
  obtain ⟨a, b, c, d, e, g⟩ := h
  constructor <;> try simp only [setk hs (Ne.symm h0), setk hs (Ne.symm h4), setk hs (Ne.symm h6), setk hs (Ne.symm h7), setk hs (Ne.symm h11), updF_other f v (Ne.symm h0), updF_other f v (Ne.symm h4), updF_other f v (Ne.symm h6), updF_other f v (Ne.symm h7), updF_other f v (Ne.symm h11)]
  all_goals assumption
theorem insI.s0 {p : PIns} {L : Array Bool} {f : Nat → Value} {W : World} (h : insI p L f W) (hL : L.size = 13) (hf : L.getD 0 false = false) (hd : ∀ j, L.getD j false = true → ∀ k ∈ insDeps j, L.getD k false = true) :
    insI p (L.setIfInBounds 0 true) (updF f 0 (.slice (some ⟨W.heap.size, 0, none⟩) 0 0)) (W.alloc (.cells #[] p.e)) := by
  have hs : 0 < L.size := by omega
  have n4 : L.getD 4 false = false := by
    cases h4 : L.getD 4 false with
    | false => rfl
    | true => exact fT hf (hd 4 h4 0 (by simp [insDeps]))
  have n7 : L.getD 7 false = false := by
    cases h4 : L.getD 7 false with
    | false => rfl
    | true => exact fT hf (hd 7 h4 0 (by simp [insDeps]))
  have n11 : L.getD 11 false = false := by
    cases h4 : L.getD 11 false with
    | false => rfl
    | true => exact fT hf (hd 11 h4 0 (by simp [insDeps]))
  have k4 := setk hs (j := 4) (by omega)
  have k6 := setk hs (j := 6) (by omega)
  have k7 := setk hs (j := 7) (by omega)
  have k0 := seti hs
  obtain ⟨a, b, c, d, e, g⟩ := h
  refine ⟨a.alloc a.size _, ?_, ?_, ?_, ?_, ?_⟩
  · intro _ _
    rw [updF_same]
    exact ⟨by simp, .inr ⟨W.heap.size, 0, #[], rfl, a.size, heap_alloc_new _ _, Nat.le_refl _, Nat.zero_le _, by simp, by simp⟩⟩
  · rw [setk hs (by omega)]; exact fun l => fT n4 l
  · rw [setk hs (by omega)]; exact fun l => fT n7 l
  · rw [setk hs (by omega)]; exact fun l => fT n11 l
  · simp only [k4, k6, k7, k0, updF_other f (i := 0) (j := 6) _ (by omega), updF_other f (i := 0) (j := 4) _ (by omega), updF_same]
    intro l6 l7
    obtain ⟨b', e1, e2, e3, e4⟩ := g l6 l7
    have hlt := hltW e2
    exact ⟨b', e1, by rw [Below.heap_alloc _ _ _ hlt]; exact e2, fun _ _ => by simp [Value.ownBlock]; omega, fun l => fT n4 l⟩
theorem insI.s4 {p : PIns} {L : Array Bool} {f : Nat → Value} {W W' : World} (h : insI p L f W) (hL : L.size = 13) (l0 : L.getD 0 false = true) (hf : L.getD 4 false = false) (hd : ∀ j, L.getD j false = true → ∀ k ∈ insDeps j, L.getD k false = true)
    {v : Value} (ho : W'.ownsRow p.w0.heap.size p.e p.sz v p.k (p.cells.take (p.k * p.sz))) (hg : W.grownBy W' (f 0).ownBlock) (hv : v.ownBlock = (f 0).ownBlock ∨ v.ownBlock = some W.heap.size) : insI p (L.setIfInBounds 4 true) (updF f 4 v) W' := by
  have hs : 4 < L.size := by omega
  have n7 : L.getD 7 false = false := by
    cases h4 : L.getD 7 false with
    | false => rfl
    | true => exact fT hf (hd 7 h4 4 (by simp [insDeps]))
  have n11 : L.getD 11 false = false := by
    cases h4 : L.getD 11 false with
    | false => rfl
    | true => exact fT hf (hd 11 h4 4 (by simp [insDeps]))
  have k0 := setk hs (j := 0) (by omega)
  have k6 := setk hs (j := 6) (by omega)
  have k7 := setk hs (j := 7) (by omega)
  have k4 := seti hs
  obtain ⟨a, b, c, d, e, g⟩ := h
  have own0 := b l0 hf
  refine ⟨a.grown hg a.size (fun q hq => (own0.lt q hq).1), ?_, ?_, ?_, ?_, ?_⟩
  · rw [seti hs]; intro _ l; cases l
  · intro _ _; rw [updF_same]; exact ho
  · rw [setk hs (by omega)]; exact fun l => fT n7 l
  · rw [setk hs (by omega)]; exact fun l => fT n11 l
  · simp only [k4, k6, k7, k0, updF_other f (i := 4) (j := 0) _ (by omega), updF_other f (i := 4) (j := 6) _ (by omega), updF_same]
    intro l6 l7
    obtain ⟨b', e1, e2, e3, e4⟩ := g l6 l7
    have hlt := hltW e2
    refine ⟨b', e1, ?_, fun _ l => Bool.noConfusion l, fun _ => ?_⟩
    · rw [hg.block _ hlt (fun e => e3 l0 hf e.symm)]; exact e2
    · rcases hv with hv | hv
      · rw [hv]; exact e3 l0 hf
      · rw [hv]; intro e; injection e with e; omega
theorem insI.s6 {p : PIns} {L : Array Bool} {f : Nat → Value} {W : World} (h : insI p L f W) (hL : L.size = 13) (hf : L.getD 6 false = false) (hd : ∀ j, L.getD j false = true → ∀ k ∈ insDeps j, L.getD k false = true) :
    insI p (L.setIfInBounds 6 true) (updF f 6 (.slice (some ⟨W.heap.size, 0, none⟩) 1 1)) (W.alloc (.cells p.new.toArray p.e)) := by
  have hs : 6 < L.size := by omega
  have n7 : L.getD 7 false = false := by
    cases h4 : L.getD 7 false with
    | false => rfl
    | true => exact fT hf (hd 7 h4 6 (by simp [insDeps]))
  have n11 : L.getD 11 false = false := by
    cases h4 : L.getD 11 false with
    | false => rfl
    | true => exact fT hf (hd 11 h4 6 (by simp [insDeps]))
  have k4 := setk hs (j := 4) (by omega)
  have k0 := setk hs (j := 0) (by omega)
  have k7 := setk hs (j := 7) (by omega)
  have k6 := seti hs
  obtain ⟨a, b, c, d, e, g⟩ := h
  have hb : Below W.heap.size W (W.alloc (.cells p.new.toArray p.e)) := (Below.refl _ _).alloc (Nat.le_refl _) _
  refine ⟨a.alloc a.size _, ?_, ?_, ?_, ?_, ?_⟩
  · rw [setk hs (by omega), setk hs (by omega), updF_other f _ (by omega)]; exact fun l l' => ownKeep (b l l') hb
  · rw [setk hs (by omega), setk hs (by omega), updF_other f _ (by omega)]; exact fun l l' => ownKeep (c l l') hb
  · rw [setk hs (by omega)]; exact fun l => fT n7 l
  · rw [setk hs (by omega)]; exact fun l => fT n11 l
  · simp only [k4, k6, k7, k0, updF_other f (i := 6) (j := 0) _ (by omega), updF_other f (i := 6) (j := 4) _ (by omega), updF_same]
    intro _ _
    refine ⟨W.heap.size, rfl, heap_alloc_new _ _, fun l l' e => ?_, fun l e => ?_⟩
    · have := (b l l').lt _ e; omega
    · have := (c l n7).lt _ e; omega
theorem insI.s7 {p : PIns} {L : Array Bool} {f : Nat → Value} {W W' : World} (h : insI p L f W) (hL : L.size = 13) (l4 : L.getD 4 false = true) (hf : L.getD 7 false = false) (hd : ∀ j, L.getD j false = true → ∀ k ∈ insDeps j, L.getD k false = true)
    {v : Value} (ho : W'.ownsRow p.w0.heap.size p.e p.sz v (p.k + 1) (p.cells.take (p.k * p.sz) ++ p.new)) (hg : W.grownBy W' (f 4).ownBlock) : insI p (L.setIfInBounds 7 true) (updF f 7 v) W' := by
  have hs : 7 < L.size := by omega
  have n11 : L.getD 11 false = false := by
    cases h4 : L.getD 11 false with
    | false => rfl
    | true => exact fT hf (hd 11 h4 7 (by simp [insDeps]))
  obtain ⟨a, b, c, d, e, g⟩ := h
  have own4 := c l4 hf
  refine ⟨a.grown hg a.size (fun q hq => (own4.lt q hq).1), ?_, ?_, ?_, ?_, ?_⟩
  · rw [setk hs (by omega), setk hs (by omega)]; exact fun _ l => by rw [l4] at l; cases l
  · rw [seti hs]; intro _ l; cases l
  · intro _ _; rw [updF_same]; exact ho
  · rw [setk hs (by omega)]; exact fun l => fT n11 l
  · rw [seti hs]; intro _ l; cases l
theorem insI.s11 {p : PIns} {L : Array Bool} {f : Nat → Value} {W W' : World} (h : insI p L f W) (hL : L.size = 13) (l4 : L.getD 4 false = true) (l7 : L.getD 7 false = true) (hf : L.getD 11 false = false)
    {v : Value} (ho : W'.ownsRow p.w0.heap.size p.e p.sz v (p.n + 1) (p.cells.take (p.k * p.sz) ++ p.new ++ p.cells.drop (p.k * p.sz))) (hg : W.grownBy W' (f 7).ownBlock) : insI p (L.setIfInBounds 11 true) (updF f 11 v) W' := by
  have hs : 11 < L.size := by omega
  obtain ⟨a, b, c, d, e, g⟩ := h
  have own7 := d l7 hf
  refine ⟨a.grown hg a.size (fun q hq => (own7.lt q hq).1), ?_, ?_, ?_, ?_, ?_⟩
  · rw [setk hs (by omega), setk hs (by omega)]; exact fun _ l => by rw [l4] at l; cases l
  · rw [setk hs (by omega), setk hs (by omega)]; exact fun _ l => by rw [l7] at l; cases l
  · rw [seti hs]; intro _ l; cases l
  · intro _; rw [updF_same]; exact ho
  · rw [setk hs (by omega), setk hs (by omega)]; exact fun _ l => by rw [l7] at l; cases l

set_option maxHeartbeats 1000000 in
theorem ins_region {P : Program} {id : Nat} {ops : Array Oper} {Q : Exit → Act → World → Prop} {b : Array Value} {df : List Deferred} {w : World} (p : PIns) (ok : p.Ok) (q r sl sk : Nat) (t : TypeId) (x5 : Op) (i : TypeInfo) (z : Value) (bytes : Nat)
    (hm : P.follows .mixedOrders = true) (hback : backB ops = true) (hds : ops.toList.map (·.dst) = insDs q r) (hok : slotsOk (insDs q r) b.size = true) (hng : (ops.all fun o => o.guard.isNone) = true) (hdeps : depsOk ops insDeps = true)
    (hfr : ops.toList.map (·.op) = insFrm q sl sk t x5)
    (ht : P.underlying t = some (.slice p.e)) (hi : P.info? p.e = some i) (hz : i.zero = some z) (hsize : i.size = p.sz) (hby : i.bytes = bytes) (hzs : z.cells.size = p.sz) (hbb : bytes ≤ 1000)
    (hnl : ∀ j : Nat, (insDs q r)[j]? ≠ some (some sl)) (hnk : ∀ j : Nat, (insDs q r)[j]? ≠ some (some sk))
    (hbl : b.getD sl undef = .slice p.A p.n p.c) (hbk : b.getD sk undef = .int .i64 (p.k : Nat))
    (hb0 : ∀ W : World, (Instr.buildSlice t 0 #[]).run P W = .ok (.slice (some ⟨W.heap.size, 0, none⟩) 0 0) (W.alloc (.cells #[] p.e)))
    (hb1 : ∀ W : World, (Instr.buildSlice t 1 #[(0, p.newV)]).run P W = .ok (.slice (some ⟨W.heap.size, 0, none⟩) 1 1) (W.alloc (.cells p.new.toArray p.e)))
    (h5 : ∀ (o : Oper) (a : Act) (W : World) (K : Act → World → Prop), o.op = x5 → Below p.w0.heap.size p.w0 W → (∀ s, (∀ j : Nat, (insDs q r)[j]? ≠ some (some s)) → a.tmps.getD s undef = b.getD s undef) → K (a.put o.dst p.newV) W → o.wp P a W K Q)
    (hw : Below p.w0.heap.size p.w0 w)
    (hend : ∀ (f : Nat → Value) (W : World), W.ownsRow p.w0.heap.size p.e p.sz (f 11) (p.n + 1) (p.cells.take (p.k * p.sz) ++ p.new ++ p.cells.drop (p.k * p.sz)) → f 12 = f 11 → Below p.w0.heap.size p.w0 W → Q .normal ⟨setAll f 0 (insDs q r) b, df⟩ W) :
    (Code.region id ops true).wp P Q ⟨b, df⟩ w := by
  have hn13 : ops.size = 13 := by have := congrArg List.length hds; simpa [insDs] using this
  have hfo : ∀ (j : Nat) (o : Oper), ops[j]? = some o → (insFrm q sl sk t x5)[j]? = some o.op := fun j o ho => by
    rw [← hfr, List.getElem?_map, Array.getElem?_toList, ho]; rfl
  have hdo : ∀ (j : Nat) (o : Oper), ops[j]? = some o → (insDs q r)[j]? = some o.dst := fun j o ho => by
    rw [← hds, List.getElem?_map, Array.getElem?_toList, ho]; rfl
  have hmx : (1000001 : Nat) ≤ maxLen := by simp [maxLen]
  refine wp_region_M hm hback (insDs q r) hds hok hng (insM p) (insI p) insDeps hdeps ?_ ?_ ?_ (fun L f W hL hall hI hM => ?_)
  · intro j f f' W h hm
    rcases j with _ | _ | _ | _ | _ | _ | _ | _ | _ | _ | _ | _ | _ | j
    all_goals simp only [insDeps, List.mem_cons, List.not_mem_nil, or_false, forall_eq, forall_eq_or_imp, insM, Nat.zero_add, Nat.reduceAdd] at h hm ⊢
    all_goals first | trivial | (rw [← h]; exact hm) | (simp only [← h]; exact hm)
  · refine ⟨hw.drew, ?_, ?_, ?_, ?_, ?_⟩ <;> intro e <;> exact absurd e (by simp [Array.getD])
  · intro j o L f a W ho hs hI hM hf hpre hbs hsl hdc K hK
    have hL : L.size = 13 := by omega
    have hj : j < 13 := by have := (Array.getElem?_eq_some_iff.1 ho).1; omega
    have hop := hfo j o ho
    have hp := pre_of hdeps ho hpre hdc
    have hnb : ∀ s, (∀ j : Nat, (insDs q r)[j]? ≠ some (some s)) → a.tmps.getD s undef = b.getD s undef := fun s h => hbs s (fun j _ => h j)
    have hsL := (hnb sl hnl).trans hbl
    have hsK := (hnb sk hnk).trans hbk
    have keep : ∀ W' : World, ∀ v : Value, ∀ j', j' ≠ j → L.getD j' false = true → insM p j' f W → insM p j' f W' := fun W' v j' _ _ h => insM_w j' W' h
    rcases j with _ | _ | _ | _ | _ | _ | _ | _ | _ | _ | _ | _ | _ | j
    · obtain hop := (Option.some.inj hop).symm
      exact wp_buildSlice hop (by have := hb0 W; simpa using this) (hK _ _ (hI.s0 hL hf hdc) (keep _ undef) trivial)
    · obtain hop := (Option.some.inj hop).symm
      refine wp_move hop (hK _ _ (hI.pure hL hj (by omega) (by omega) (by omega) (by omega) (by omega) _) (keep _ undef) ?_)
      show updF f 1 _ 1 = _
      rw [updF_same]; exact hsL
    · obtain hop := (Option.some.inj hop).symm
      refine wp_move hop (hK _ _ (hI.pure hL hj (by omega) (by omega) (by omega) (by omega) (by omega) _) (keep _ undef) ?_)
      show updF f 2 _ 2 = _
      rw [updF_same]; exact hsK
    · obtain hop := (Option.some.inj hop).symm
      have e1 : a.eval (.tmp (q + 1)) = .slice p.A p.n p.c := (hsl 1 (q + 1) (hp 1 (by simp [insDeps]) (by omega)) rfl).trans (hM 1 (hp 1 (by simp [insDeps]) (by omega)))
      have e2 : a.eval (.tmp (q + 2)) = .int .i64 (p.k : Nat) := (hsl 2 (q + 2) (hp 2 (by simp [insDeps]) (by omega)) rfl).trans (hM 2 (hp 2 (by simp [insDeps]) (by omega)))
      have hr := run_slice_to (P := P) t p.e ht i hi p.A p.n p.c p.k (Nat.le_trans ok.kn ok.nc) W
      refine wp_slice hop (v := .slice (if p.c = 0 then p.A else p.A.map (·.add (0 * p.sz))) p.k p.c) (by rw [hsize] at hr; rw [e1]; simp only [Option.map_some, Option.map_none]; rw [e2]; exact hr) (hK _ _ (hI.pure hL hj (by omega) (by omega) (by omega) (by omega) (by omega) _) (keep _ undef) ?_)
      show updF f 3 _ 3 = _
      rw [updF_same]
    · obtain hop := (Option.some.inj hop).symm
      have l0 := hp 0 (by simp [insDeps]) (by omega)
      have l3 := hp 3 (by simp [insDeps]) (by omega)
      have e0 : a.eval (.tmp q) = f 0 := hsl 0 q l0 rfl
      have e3 : a.eval (.tmp (q + 3)) = .slice (if p.c = 0 then p.A else p.A.map (·.add (0 * p.sz))) p.k p.c := (hsl 3 (q + 3) l3 rfl).trans (hM 3 l3)
      have own0 := hI.r0 l0 hf
      by_cases hk0 : p.k = 0
      · rw [hk0] at e3
        refine wp_append_zero _ _ t hop p.w0.heap.size p.e i p.sz ht hi (f 0) 0 [] e0 own0 _ _ e3 (hK _ _ (hI.s4 hL l0 hf hdc ?_ ⟨rfl, rfl, rfl, Nat.le_refl _, fun _ _ _ => rfl⟩ (.inl rfl)) (keep _ undef) trivial)
        rw [hk0]; simpa using own0
      · obtain ⟨bb, oo, hA, hc⟩ := ok.rd.2 (by have := ok.kn; omega)
        have hc0 : p.c ≠ 0 := by have := ok.kn; have := ok.nc; omega
        rw [if_neg hc0, hA] at e3
        have e3' : a.eval (.tmp (q + 3)) = .slice (some ⟨bb, oo, none⟩) p.k p.c := by
          rw [e3]; simp [Addr.add]
        have htl : (p.cells.take (p.k * p.sz)).length = p.k * p.sz := by
          rw [List.length_take, ok.rd.1]
          exact Nat.min_eq_left (Nat.mul_le_mul_right _ ok.kn)
        have hkn := ok.kn
        have hnm := ok.nm
        refine wp_append_lies W _ _ t hop p.w0.heap.size p.e i z p.sz bytes ht hi hz hsize hby hzs ok.szp (f 0) 0 [] e0 own0 ⟨bb, oo, none⟩ p.k p.c (p.cells.take (p.k * p.sz)) e3' htl ?_ (fun u hu => ok.one u (List.mem_of_mem_take hu)) (by omega) (by omega)
          (Nat.le_trans (Nat.mul_le_mul (show 0 + p.k ≤ 1000000 by omega) hbb) (by omega)) hI.bel.size W.heap.size rfl ?_
        · intro j u hu
          rw [Go.WideShapes.add_plain]
          have hu2 : p.cells[j]? = some u := by
            rw [List.getElem?_take] at hu
            split at hu
            · exact hu
            · cases hu
          have := hc j u hu2
          exact (hI.bel.cell (p := ⟨bb, oo + j, none⟩) (World.block_lt_of_cell? p.w0 _ this)).trans this
        · intro g cap w' ho hg hat hlt
          refine hK _ _ (hI.s4 hL l0 hf hdc (by simpa using ho) hg ?_) (keep _ undef) trivial
          rcases hat with h1 | h1
          · left; rw [h1]; rfl
          · right; rw [h1]; rfl
    · obtain hop := (Option.some.inj hop).symm
      refine h5 o a W K hop hI.bel hnb (hK _ _ (hI.pure hL hj (by omega) (by omega) (by omega) (by omega) (by omega) _) (keep _ undef) ?_)
      show updF f 5 _ 5 = _
      rw [updF_same]
    · obtain hop := (Option.some.inj hop).symm
      have l5 := hp 5 (by simp [insDeps]) (by omega)
      have e5 : a.eval (.tmp (q + 5)) = p.newV := (hsl 5 (q + 5) l5 rfl).trans (hM 5 l5)
      refine wp_buildSlice hop (v := .slice (some ⟨W.heap.size, 0, none⟩) 1 1) (W' := W.alloc (.cells p.new.toArray p.e)) ?_ (hK _ _ (hI.s6 hL hf hdc) (keep _ undef) trivial)
      have := hb1 W
      simp only [List.map_toArray, List.map_cons, List.map_nil]
      rw [e5]; exact this
    · obtain hop := (Option.some.inj hop).symm
      have l4 := hp 4 (by simp [insDeps]) (by omega)
      have l6 := hp 6 (by simp [insDeps]) (by omega)
      have e4 : a.eval (.tmp (q + 4)) = f 4 := hsl 4 (q + 4) l4 rfl
      obtain ⟨g, eg, hgc, _, hne⟩ := hI.bx l6 hf
      have e6 : a.eval (.tmp (q + 6)) = .slice (some ⟨g, 0, none⟩) 1 1 := (hsl 6 (q + 6) l6 rfl).trans eg
      have own4 := hI.r4 l4 hf
      have hkn := ok.kn
      have hnm := ok.nm
      refine wp_append_lies W _ _ t hop p.w0.heap.size p.e i z p.sz bytes ht hi hz hsize hby hzs ok.szp (f 4) p.k (p.cells.take (p.k * p.sz)) e4 own4 ⟨g, 0, none⟩ 1 1 p.new e6 (by rw [ok.len, Nat.one_mul]) ?_ ok.onen (by omega) (by omega)
        (Nat.le_trans (Nat.mul_le_mul (show p.k + 1 ≤ 1000001 by omega) hbb) (by omega)) hI.bel.size W.heap.size rfl ?_
      · intro j u hu
        rw [Go.WideShapes.add_plain, Nat.zero_add]
        unfold World.cell?
        rw [hgc]
        simpa using hu
      · intro g cap w' ho hg hat hlt
        exact hK _ _ (hI.s7 hL l4 hf hdc ho hg) (keep _ undef) trivial
    · obtain hop := (Option.some.inj hop).symm
      refine wp_move hop (hK _ _ (hI.pure hL hj (by omega) (by omega) (by omega) (by omega) (by omega) _) (keep _ undef) ?_)
      show updF f 8 _ 8 = _
      rw [updF_same]; exact hsL
    · obtain hop := (Option.some.inj hop).symm
      refine wp_move hop (hK _ _ (hI.pure hL hj (by omega) (by omega) (by omega) (by omega) (by omega) _) (keep _ undef) ?_)
      show updF f 9 _ 9 = _
      rw [updF_same]; exact hsK
    · obtain hop := (Option.some.inj hop).symm
      have e1 : a.eval (.tmp (q + 8)) = .slice p.A p.n p.c := (hsl 8 (q + 8) (hp 8 (by simp [insDeps]) (by omega)) rfl).trans (hM 8 (hp 8 (by simp [insDeps]) (by omega)))
      have e2 : a.eval (.tmp (q + 9)) = .int .i64 (p.k : Nat) := (hsl 9 (q + 9) (hp 9 (by simp [insDeps]) (by omega)) rfl).trans (hM 9 (hp 9 (by simp [insDeps]) (by omega)))
      have hr := run_slice_from (P := P) t p.e ht i hi p.A p.n p.c p.k ok.kn ok.nc W
      refine wp_slice hop (v := .slice (if p.c = p.k then p.A else p.A.map (·.add (p.k * p.sz))) (p.n - p.k) (p.c - p.k)) (by rw [hsize] at hr; rw [e1]; simp only [Option.map_some, Option.map_none]; rw [e2]; exact hr) (hK _ _ (hI.pure hL hj (by omega) (by omega) (by omega) (by omega) (by omega) _) (keep _ undef) ?_)
      show updF f 10 _ 10 = _
      rw [updF_same]
    · obtain hop := (Option.some.inj hop).symm
      have l7 := hp 7 (by simp [insDeps]) (by omega)
      have l4 := hp 4 (by simp [insDeps]) (by omega)
      have l10 := hp 10 (by simp [insDeps]) (by omega)
      have e7 : a.eval (.tmp (q + 7)) = f 7 := hsl 7 (q + 7) l7 rfl
      have e10 : a.eval (.tmp (q + 10)) = .slice (if p.c = p.k then p.A else p.A.map (·.add (p.k * p.sz))) (p.n - p.k) (p.c - p.k) := (hsl 10 (q + 10) l10 rfl).trans (hM 10 l10)
      have own7 := hI.r7 l7 hf
      have hkn := ok.kn
      have hnm := ok.nm
      have hnc := ok.nc
      by_cases hkn0 : p.n - p.k = 0
      · have hkn1 : p.n = p.k := by omega
        rw [hkn0] at e10
        refine wp_append_zero _ _ t hop p.w0.heap.size p.e i p.sz ht hi (f 7) (p.k + 1) _ e7 own7 _ _ e10 (hK _ _ (hI.s11 hL l4 l7 hf ?_ ⟨rfl, rfl, rfl, Nat.le_refl _, fun _ _ _ => rfl⟩) (keep _ undef) trivial)
        rw [List.drop_eq_nil_of_le (by rw [ok.rd.1, hkn1]; exact Nat.le_refl _), List.append_nil, hkn1]
        exact own7
      · obtain ⟨bb, oo, hA, hc⟩ := ok.rd.2 (by omega)
        rw [if_neg (by omega), hA] at e10
        have e10' : a.eval (.tmp (q + 10)) = .slice (some ⟨bb, oo + p.k * p.sz, none⟩) (p.n - p.k) (p.c - p.k) := by
          rw [e10]; simp [Addr.add]
        have hdl : (p.cells.drop (p.k * p.sz)).length = (p.n - p.k) * p.sz := by
          rw [List.length_drop, ok.rd.1, Nat.sub_mul]
        refine wp_append_lies W _ _ t hop p.w0.heap.size p.e i z p.sz bytes ht hi hz hsize hby hzs ok.szp (f 7) (p.k + 1) (p.cells.take (p.k * p.sz) ++ p.new) e7 own7 ⟨bb, oo + p.k * p.sz, none⟩ (p.n - p.k) (p.c - p.k) (p.cells.drop (p.k * p.sz)) e10' hdl ?_ (fun u hu => ok.one u (List.mem_of_mem_drop hu)) (by omega) (by omega)
          (Nat.le_trans (Nat.mul_le_mul (show p.k + 1 + (p.n - p.k) ≤ 1000001 by omega) hbb) (by omega)) hI.bel.size W.heap.size rfl ?_
        · intro j u hu
          rw [Go.WideShapes.add_plain, Nat.add_assoc]
          rw [List.getElem?_drop] at hu
          have := hc _ u hu
          exact (hI.bel.cell (p := ⟨bb, oo + (p.k * p.sz + j), none⟩) (World.block_lt_of_cell? p.w0 _ this)).trans this
        · intro g cap w' ho hg hat hlt
          refine hK _ _ (hI.s11 hL l4 l7 hf ?_ hg) (keep _ undef) trivial
          have e : p.k + 1 + (p.n - p.k) = p.n + 1 := by omega
          rw [e] at ho ⊢
          exact ho
    · obtain hop := (Option.some.inj hop).symm
      have l11 := hp 11 (by simp [insDeps]) (by omega)
      refine wp_assign hop (hK _ _ (hI.pure hL hj (by omega) (by omega) (by omega) (by omega) (by omega) _) (keep _ undef) ?_)
      show updF f 12 _ 12 = updF f 12 _ 11
      rw [updF_same, updF_other _ _ (by omega)]
      exact hsl 11 (q + 11) l11 rfl
    · omega
  · exact hend f W (hI.r11 (hall 11 (by omega))) (hM 12 (by omega)) hI.bel
end Go.Proofs.YtpkjiimcoepjpaaDoor
