/- Seat 37, texts merged: the walk of DistanceReplaces. Lemmas for the laws of chapter 37; no conditions of their own beyond what each states. -/
import Derived.Test.YtjijfgkmjachnaaC10
import Derived.Test.YtjijfgkmjachnaaC11
namespace Go.Proofs.Ytjijfgkmjachnaa
set_option linter.unusedVariables false
set_option linter.unusedSimpArgs false
open Go.RowKit

noncomputable def ops7 : Array Oper := ((Try.f7.body.bind (firstReg 5)).getD #[])
def ds7 : List (Option Nat) := [some 34, some 35, some 36, some 37, some 38, some 39, some 40, some 41, some 33, some 42, some 43, some 9, some 10, none, none]
def deps7 : Nat → List Nat
  | 8 => [8, 7]
  | 9 => [9, 8, 7]
  | 10 => [10, 8, 7]
  | 13 => []
  | 14 => []
  | j => [j]
/-- A variable of type Node that may be written. -/
def VarN (W : World) (p : Nat) : Prop := (∀ j, j < 5 → ∃ u, W.cell? ⟨p, j, none⟩ = some u) ∧ ∀ j, W.frozen? ⟨p, j, none⟩ = false
def ptr (p : Nat) : Value := .pointer (some ⟨p, 0, none⟩)
theorem ptr_inj {p q : Nat} (h : ptr p = ptr q) : p = q := by unfold ptr at h; injection h with h; injection h with h; injection h
def M7 (a c : Nd) (A C : Option Addr) (cA cC : Nat) (wh : Nat) : Nat → (Nat → Value) → World → Prop
  | 0, f, _ => f 0 = a.val A cA
  | 1, f, _ => f 1 = .int .u8 (wh : Nat)
  | 2, f, _ => f 2 = .int .i64 (wh : Nat)
  | 3, f, _ => f 3 = a.val A cA
  | 4, f, _ => f 4 = .int .i64 (a.size : Nat)
  | 5, f, _ => f 5 = .int .i64 ((wh % a.size : Nat) : Int)
  | 6, f, _ => f 6 = c.val C cC
  | 8, f, _ => f 8 = f 7
  | 9, f, _ => ∀ u v, f 7 = .tuple #[u, v] → f 9 = u
  | 10, f, _ => ∀ u v, f 7 = .tuple #[u, v] → f 10 = v
  | _, _, _ => True
theorem M7_w {a c : Nd} {A C : Option Addr} {cA cC wh : Nat} (j : Nat) {f : Nat → Value} {W : World} (W' : World) (h : M7 a c A C cA cC wh j f W) : M7 a c A C cA cC wh j f W' := by
  rcases j with _ | _ | _ | _ | _ | _ | _ | _ | _ | _ | _ | _ | _ | _ | _ | j <;> exact h
structure I7 (w0 : World) (a c : Nd) (L : Array Bool) (f : Nat → Value) (W : World) : Prop where
  bel : Below w0.heap.size w0 W
  x11 : L.getD 11 false = true → ∃ p, f 11 = ptr p ∧ w0.heap.size ≤ p ∧ p < W.heap.size ∧ VarN W p
  x12 : L.getD 12 false = true → ∃ p, f 12 = ptr p ∧ w0.heap.size ≤ p ∧ p < W.heap.size ∧ VarN W p
  ne : L.getD 11 false = true → L.getD 12 false = true → f 11 ≠ f 12
  r7 : L.getD 7 false = true → ∃ (x old : Nd) (X O : Option Addr) (cX cO : Nat), f 7 = .tuple #[x.val X cX, old.val O cO] ∧ Rep c a x old ∧
    ∀ V : World, (∀ b, b < W.heap.size → (L.getD 11 false = true → f 11 ≠ ptr b) → (L.getD 12 false = true → f 12 ≠ ptr b) → V.heap[b]? = W.heap[b]?) → RN V x X cX ∧ RN V old O cO
  s13 : L.getD 13 false = true → L.getD 7 false = true ∧ L.getD 11 false = true ∧ ∀ p (x : Nd) X cX v, f 11 = ptr p → f 7 = .tuple #[x.val X cX, v] → At5 W p 0 x X cX
  s14 : L.getD 14 false = true → L.getD 7 false = true ∧ L.getD 12 false = true ∧ ∀ p (x : Nd) X cX v, f 12 = ptr p → f 7 = .tuple #[v, x.val X cX] → At5 W p 0 x X cX

theorem VarN.below {W W' : World} {p : Nat} (h : VarN W p) (hb : Below W.heap.size W W') : VarN W' p := by
  obtain ⟨u, hu⟩ := h.1 0 (by omega)
  have hp : p < W.heap.size := World.block_lt_of_cell? W _ hu
  exact ⟨fun j hj => by obtain ⟨u, hu⟩ := h.1 j hj; exact ⟨u, (hb.cell (p := ⟨p, j, none⟩) hp).trans hu⟩, fun j => (hb.frozen (p := ⟨p, j, none⟩) hp).trans (h.2 j)⟩
theorem VarN.set {W : World} {p b o : Nat} {x : Nd} {X : Option Addr} {c : Nat} (h : VarN W p) : VarN (set5 W b o x X c) p := by
  refine ⟨fun j hj => ?_, fun j => by rw [set5_frozen]; exact h.2 j⟩
  obtain ⟨u, hu⟩ := h.1 j hj
  unfold set5
  obtain ⟨_, h1⟩ := set_some W ⟨b, o, none⟩ _ (.int .i64 x.kind) _ hu
  obtain ⟨_, h2⟩ := set_some _ ⟨b, o + 1, none⟩ _ (.string x.text) _ h1
  obtain ⟨_, h3⟩ := set_some _ ⟨b, o + 2, none⟩ _ (.int .i64 x.pos) _ h2
  obtain ⟨_, h4⟩ := set_some _ ⟨b, o + 3, none⟩ _ (.int .i64 x.fin) _ h3
  exact set_some _ ⟨b, o + 4, none⟩ _ _ _ h4
theorem VarN.new (W : World) : VarN (W.alloc (.cells #[.int .i64 0, .string ⟨#[]⟩, .int .i64 0, .int .i64 0, .slice none 0 0] 24)) W.heap.size := by
  have h := heap_alloc_new W (.cells #[.int .i64 0, .string ⟨#[]⟩, .int .i64 0, .int .i64 0, .slice none 0 0] 24)
  refine ⟨fun j hj => ?_, fun j => free_new _ _ _ j⟩
  have h5 := At5.of (t := Nd.mk 0 ⟨#[]⟩ 0 0 []) (A := none) (c := 0) h
  have := h5.some5 j hj
  simpa using this

theorem I7.grow {w0 : World} {a c : Nd} {L : Array Bool} {f : Nat → Value} {W W' : World} (h : I7 w0 a c L f W) (hb : Below W.heap.size W W') : I7 w0 a c L f W' := by
  refine ⟨h.bel.trans (hb.mono h.bel.size), fun l => ?_, fun l => ?_, h.ne, fun l => ?_, fun l => ?_, fun l => ?_⟩
  · obtain ⟨p, e, h1, h2, h3⟩ := h.x11 l
    exact ⟨p, e, h1, Nat.lt_of_lt_of_le h2 hb.size, h3.below hb⟩
  · obtain ⟨p, e, h1, h2, h3⟩ := h.x12 l
    exact ⟨p, e, h1, Nat.lt_of_lt_of_le h2 hb.size, h3.below hb⟩
  · obtain ⟨x, old, X, O, cX, cO, e, hr, hV⟩ := h.r7 l
    refine ⟨x, old, X, O, cX, cO, e, hr, fun V hv => hV V fun b hlt h1 h2 => ?_⟩
    rw [hv b (Nat.lt_of_lt_of_le hlt hb.size) h1 h2, hb.block b hlt]
  · obtain ⟨l1, l2, h3⟩ := h.s13 l
    exact ⟨l1, l2, fun p x X cX v e1 e2 => (h3 p x X cX v e1 e2).below hb⟩
  · obtain ⟨l1, l2, h3⟩ := h.s14 l
    exact ⟨l1, l2, fun p x X cX v e1 e2 => (h3 p x X cX v e1 e2).below hb⟩
theorem I7.pure {w0 : World} {a c : Nd} {L : Array Bool} {f : Nat → Value} {W : World} (h : I7 w0 a c L f W) (hL : L.size = 15) {i : Nat} (hi : i < 15) (h7 : i ≠ 7) (h11 : i ≠ 11) (h12 : i ≠ 12) (h13 : i ≠ 13) (h14 : i ≠ 14) (v : Value) : I7 w0 a c (L.setIfInBounds i true) (updF f i v) W := by
  have k : ∀ j, j ≠ i → (L.setIfInBounds i true).getD j false = L.getD j false := fun j hj => by rw [getDs (by omega)]; simp [hj]
  have k7 := k 7 (Ne.symm h7)
  have k11 := k 11 (Ne.symm h11)
  have k12 := k 12 (Ne.symm h12)
  have k13 := k 13 (Ne.symm h13)
  have k14 := k 14 (Ne.symm h14)
  have u7 := updF_other f v (Ne.symm h7)
  have u11 := updF_other f v (Ne.symm h11)
  have u12 := updF_other f v (Ne.symm h12)
  obtain ⟨h1, h2, h3, h4, h5, h6, h7⟩ := h
  refine ⟨h1, ?_, ?_, ?_, ?_, ?_, ?_⟩ <;> simp only [k7, k11, k12, k13, k14, u7, u11, u12] <;> assumption
theorem notT {x : Bool} (h : x = false) : ¬ x = true := by rw [h]; simp
theorem I7.u7 {w0 : World} {a c : Nd} {L : Array Bool} {f : Nat → Value} {W W' : World} (h : I7 w0 a c L f W) (hL : L.size = 15) (hf : L.getD 7 false = false) (hb : Below W.heap.size W W') {x old : Nd} {X O : Option Addr} {cX cO : Nat} (hr : Rep c a x old)
    (hx : RNS W' (fun b => b < w0.heap.size ∨ W.heap.size ≤ b) x X cX) (ho : RNS W' (fun b => b < w0.heap.size ∨ W.heap.size ≤ b) old O cO) : I7 w0 a c (L.setIfInBounds 7 true) (updF f 7 (.tuple #[x.val X cX, old.val O cO])) W' := by
  have k : ∀ j, j ≠ 7 → (L.setIfInBounds 7 true).getD j false = L.getD j false := fun j hj => by rw [getDs (by omega)]; simp [hj]
  have kk : (L.setIfInBounds 7 true).getD 7 false = true := by rw [getDs (by omega)]; simp
  have hg := h.grow hb
  refine ⟨hg.bel, ?_, ?_, ?_, ?_, ?_, ?_⟩ <;> simp only [k 11 (by omega), k 12 (by omega), k 13 (by omega), k 14 (by omega), updF_other f _ (show 11 ≠ 7 by omega), updF_other f _ (show 12 ≠ 7 by omega), updF_same]
  · exact hg.x11
  · exact hg.x12
  · exact hg.ne
  · intro _
    refine ⟨x, old, X, O, cX, cO, rfl, hr, fun V hv => ?_⟩
    have key : ∀ b, (b < w0.heap.size ∨ W.heap.size ≤ b) → b < W'.heap.size → V.heap[b]? = W'.heap[b]? := fun b hs hlt => by
      refine hv b hlt (fun l e => ?_) (fun l e => ?_)
      · obtain ⟨p, e2, h1, h2, _⟩ := h.x11 l
        have := ptr_inj (e2.symm.trans e)
        omega
      · obtain ⟨p, e2, h1, h2, _⟩ := h.x12 l
        have := ptr_inj (e2.symm.trans e)
        omega
    exact ⟨(hx.keep key).rn, (ho.keep key).rn⟩
  · intro l; exact absurd (h.s13 l).1 (notT hf)
  · intro l; exact absurd (h.s14 l).1 (notT hf)
theorem I7.u11 {w0 : World} {a c : Nd} {L : Array Bool} {f : Nat → Value} {W : World} (h : I7 w0 a c L f W) (hL : L.size = 15) (hf : L.getD 11 false = false) :
    I7 w0 a c (L.setIfInBounds 11 true) (updF f 11 (ptr W.heap.size)) (W.alloc (.cells #[.int .i64 0, .string ⟨#[]⟩, .int .i64 0, .int .i64 0, .slice none 0 0] 24)) := by
  have k : ∀ j, j ≠ 11 → (L.setIfInBounds 11 true).getD j false = L.getD j false := fun j hj => by rw [getDs (by omega)]; simp [hj]
  have kk : (L.setIfInBounds 11 true).getD 11 false = true := by rw [getDs (by omega)]; simp
  have hb : Below W.heap.size W (W.alloc (.cells #[.int .i64 0, .string ⟨#[]⟩, .int .i64 0, .int .i64 0, .slice none 0 0] 24)) := (Below.refl _ _).alloc (Nat.le_refl _) _
  have hg := h.grow hb
  have hz : (W.alloc (.cells #[.int .i64 0, .string ⟨#[]⟩, .int .i64 0, .int .i64 0, .slice none 0 0] 24)).heap.size = W.heap.size + 1 := by simp
  refine ⟨hg.bel, ?_, ?_, ?_, ?_, ?_, ?_⟩ <;> simp only [kk, k 7 (by omega), k 12 (by omega), k 13 (by omega), k 14 (by omega), updF_other f _ (show 7 ≠ 11 by omega), updF_other f _ (show 12 ≠ 11 by omega), updF_same]
  · intro _; exact ⟨_, rfl, h.bel.size, by omega, VarN.new W⟩
  · exact hg.x12
  · intro _ l e
    obtain ⟨p, e2, h1, h2, _⟩ := h.x12 l
    have := ptr_inj (e.trans e2)
    omega
  · intro l
    obtain ⟨x, old, X, O, cX, cO, e, hr, hV⟩ := h.r7 l
    refine ⟨x, old, X, O, cX, cO, e, hr, fun V hv => hV V fun b hlt h1 h2 => ?_⟩
    rw [hv b (by omega) (fun _ e => by have := ptr_inj e; omega) h2, hb.block b hlt]
  · intro l; exact absurd (h.s13 l).2.1 (notT hf)
  · intro l; exact hg.s14 l
theorem I7.u12 {w0 : World} {a c : Nd} {L : Array Bool} {f : Nat → Value} {W : World} (h : I7 w0 a c L f W) (hL : L.size = 15) (hf : L.getD 12 false = false) :
    I7 w0 a c (L.setIfInBounds 12 true) (updF f 12 (ptr W.heap.size)) (W.alloc (.cells #[.int .i64 0, .string ⟨#[]⟩, .int .i64 0, .int .i64 0, .slice none 0 0] 24)) := by
  have k : ∀ j, j ≠ 12 → (L.setIfInBounds 12 true).getD j false = L.getD j false := fun j hj => by rw [getDs (by omega)]; simp [hj]
  have kk : (L.setIfInBounds 12 true).getD 12 false = true := by rw [getDs (by omega)]; simp
  have hb : Below W.heap.size W (W.alloc (.cells #[.int .i64 0, .string ⟨#[]⟩, .int .i64 0, .int .i64 0, .slice none 0 0] 24)) := (Below.refl _ _).alloc (Nat.le_refl _) _
  have hg := h.grow hb
  have hz : (W.alloc (.cells #[.int .i64 0, .string ⟨#[]⟩, .int .i64 0, .int .i64 0, .slice none 0 0] 24)).heap.size = W.heap.size + 1 := by simp
  refine ⟨hg.bel, ?_, ?_, ?_, ?_, ?_, ?_⟩ <;> simp only [kk, k 7 (by omega), k 11 (by omega), k 13 (by omega), k 14 (by omega), updF_other f _ (show 7 ≠ 12 by omega), updF_other f _ (show 11 ≠ 12 by omega), updF_same]
  · exact hg.x11
  · intro _; exact ⟨_, rfl, h.bel.size, by omega, VarN.new W⟩
  · intro l _ e
    obtain ⟨p, e2, h1, h2, _⟩ := h.x11 l
    have := ptr_inj (e2.symm.trans e)
    omega
  · intro l
    obtain ⟨x, old, X, O, cX, cO, e, hr, hV⟩ := h.r7 l
    refine ⟨x, old, X, O, cX, cO, e, hr, fun V hv => hV V fun b hlt h1 h2 => ?_⟩
    rw [hv b (by omega) h1 (fun _ e => by have := ptr_inj e; omega), hb.block b hlt]
  · intro l; exact hg.s13 l
  · intro l; exact absurd (h.s14 l).2.1 (notT hf)
theorem I7.u13 {w0 : World} {a c : Nd} {L : Array Bool} {f : Nat → Value} {W : World} (h : I7 w0 a c L f W) (hL : L.size = 15) (hf : L.getD 13 false = false) (l7 : L.getD 7 false = true) (lp : L.getD 11 false = true) {p : Nat} (hp : f 11 = ptr p) {x : Nd} {X : Option Addr} {cX : Nat} {v : Value} (he : f 7 = .tuple #[x.val X cX, v]) (u : Value) :
    I7 w0 a c (L.setIfInBounds 13 true) (updF f 13 u) (set5 W p 0 x X cX) := by
  have k : ∀ j, j ≠ 13 → (L.setIfInBounds 13 true).getD j false = L.getD j false := fun j hj => by rw [getDs (by omega)]; simp [hj]
  have kk : (L.setIfInBounds 13 true).getD 13 false = true := by rw [getDs (by omega)]; simp
  obtain ⟨p', e', hlo, hlt, hvar⟩ := h.x11 lp
  obtain rfl := ptr_inj (hp.symm.trans e')
  have hsz : (set5 W p 0 x X cX).heap.size = W.heap.size := set5_size _ _ _ _ _ _
  refine ⟨set5_below h.bel _ _ _ _ _ hlo, ?_, ?_, ?_, ?_, ?_, ?_⟩ <;> simp only [kk, k 7 (by omega), k 11 (by omega), k 12 (by omega), k 14 (by omega), updF_other f _ (show 7 ≠ 13 by omega), updF_other f _ (show 11 ≠ 13 by omega), updF_other f _ (show 12 ≠ 13 by omega), hsz]
  · intro l
    obtain ⟨q, e, h1, h2, h3⟩ := h.x11 l
    exact ⟨q, e, h1, h2, h3.set⟩
  · intro l
    obtain ⟨q, e, h1, h2, h3⟩ := h.x12 l
    exact ⟨q, e, h1, h2, h3.set⟩
  · exact h.ne
  · intro l
    obtain ⟨x', old, X', O, cX', cO, e, hr, hV⟩ := h.r7 l
    refine ⟨x', old, X', O, cX', cO, e, hr, fun V hv => hV V fun b hlt h1 h2 => ?_⟩
    rw [hv b hlt h1 h2, set5_block]
    rintro rfl
    exact h1 lp hp
  · intro _
    refine ⟨l7, lp, fun q y Y cY v' e1 e2 => ?_⟩
    obtain rfl := ptr_inj (hp.symm.trans e1)
    have e3 := he.symm.trans e2
    unfold Nd.val at e3
    have hz := At5.of_cells (w := set5 W p 0 x X cX) (b := p) (o := 0) (t := y) (A := Y) (c := cY) (fun j hj => ?_)
    · exact hz
    · have h5 := (set5_at (x := x) (X := X) (c := cX) (b := p) (o := 0) (w := W) (fun j hj => by have := hvar.1 j hj; simpa using this)).cell j hj
      rw [h5]
      have : cells5 x X cX = cells5 y Y cY := by
        simp only [Value.tuple.injEq, Array.mk.injEq, List.cons.injEq, Value.agg.injEq, and_true] at e3
        unfold cells5
        simp only [List.cons.injEq, and_true]
        simpa using e3.1
      rw [this]
  · intro l
    obtain ⟨l1, l2, h3⟩ := h.s14 l
    refine ⟨l1, l2, fun q y Y cY v' e1 e2 => (h3 q y Y cY v' e1 e2).of_block (set5_block _ _ _ _ _ _ _ ?_)⟩
    rintro rfl
    exact h.ne lp l2 (hp.trans e1.symm)
theorem I7.u14 {w0 : World} {a c : Nd} {L : Array Bool} {f : Nat → Value} {W : World} (h : I7 w0 a c L f W) (hL : L.size = 15) (hf : L.getD 14 false = false) (l7 : L.getD 7 false = true) (lp : L.getD 12 false = true) {p : Nat} (hp : f 12 = ptr p) {x : Nd} {X : Option Addr} {cX : Nat} {v : Value} (he : f 7 = .tuple #[v, x.val X cX]) (u : Value) :
    I7 w0 a c (L.setIfInBounds 14 true) (updF f 14 u) (set5 W p 0 x X cX) := by
  have k : ∀ j, j ≠ 14 → (L.setIfInBounds 14 true).getD j false = L.getD j false := fun j hj => by rw [getDs (by omega)]; simp [hj]
  have kk : (L.setIfInBounds 14 true).getD 14 false = true := by rw [getDs (by omega)]; simp
  obtain ⟨p', e', hlo, hlt, hvar⟩ := h.x12 lp
  obtain rfl := ptr_inj (hp.symm.trans e')
  have hsz : (set5 W p 0 x X cX).heap.size = W.heap.size := set5_size _ _ _ _ _ _
  refine ⟨set5_below h.bel _ _ _ _ _ hlo, ?_, ?_, ?_, ?_, ?_, ?_⟩ <;> simp only [kk, k 7 (by omega), k 11 (by omega), k 12 (by omega), k 13 (by omega), updF_other f _ (show 7 ≠ 14 by omega), updF_other f _ (show 11 ≠ 14 by omega), updF_other f _ (show 12 ≠ 14 by omega), hsz]
  · intro l
    obtain ⟨q, e, h1, h2, h3⟩ := h.x11 l
    exact ⟨q, e, h1, h2, h3.set⟩
  · intro l
    obtain ⟨q, e, h1, h2, h3⟩ := h.x12 l
    exact ⟨q, e, h1, h2, h3.set⟩
  · exact h.ne
  · intro l
    obtain ⟨x', old, X', O, cX', cO, e, hr, hV⟩ := h.r7 l
    refine ⟨x', old, X', O, cX', cO, e, hr, fun V hv => hV V fun b hlt h1 h2 => ?_⟩
    rw [hv b hlt h1 h2, set5_block]
    rintro rfl
    exact h2 lp hp
  · intro l
    obtain ⟨l1, l2, h3⟩ := h.s13 l
    refine ⟨l1, l2, fun q y Y cY v' e1 e2 => (h3 q y Y cY v' e1 e2).of_block (set5_block _ _ _ _ _ _ _ ?_)⟩
    rintro rfl
    exact h.ne l2 lp (e1.trans hp.symm)
  · intro _
    refine ⟨l7, lp, fun q y Y cY v' e1 e2 => ?_⟩
    obtain rfl := ptr_inj (hp.symm.trans e1)
    have e3 := he.symm.trans e2
    unfold Nd.val at e3
    have hz := At5.of_cells (w := set5 W p 0 x X cX) (b := p) (o := 0) (t := y) (A := Y) (c := cY) (fun j hj => ?_)
    · exact hz
    · have h5 := (set5_at (x := x) (X := X) (c := cX) (b := p) (o := 0) (w := W) (fun j hj => by have := hvar.1 j hj; simpa using this)).cell j hj
      rw [h5]
      have : cells5 x X cX = cells5 y Y cY := by
        simp only [Value.tuple.injEq, Array.mk.injEq, List.cons.injEq, Value.agg.injEq, and_true] at e3
        unfold cells5
        simp only [List.cons.injEq, and_true]
        simpa using e3.2
      rw [this]
set_option maxRecDepth 100000 in
set_option maxHeartbeats 600000 in
theorem region7 (a c : Nd) (A C : Option Addr) (cA cC wh : Nat) (hwh : wh < 256) (w0 : World) (pa pc : Nat) (hA : RN w0 a A cA) (hC : RN w0 c C cC) (hpa : At5 w0 pa 0 a A cA) (hpc : At5 w0 pc 0 c C cC) (sa : a.size ≤ 1000000)
    (b : Array Value) (hb : b.size = 132) (b3 : b.getD 3 undef = .int .u8 (wh : Nat)) (b4 : b.getD 4 undef = ptr pa) (b6 : b.getD 6 undef = ptr pc) (Q : Exit → Act → World → Prop) (w : World) (hw : Below w0.heap.size w0 w)
    (hend : ∀ (L : Array Bool) (f : Nat → Value) (W : World), (∀ j, j < 15 → L.getD j false = true) → I7 w0 a c L f W → (∀ j, j < 15 → M7 a c A C cA cC wh j f W) → Q .normal ⟨setAll f 0 ds7 b, []⟩ W) :
    (Code.region 5 ops7 true).wp Try.prog Q ⟨b, []⟩ w := by
  refine wp_region_M (by kernel_rfl) (by kernel_rfl) ds7 (by kernel_rfl) (by rw [hb]; decide) (by kernel_rfl) (M7 a c A C cA cC wh) (I7 w0 a c) deps7 (by kernel_rfl) ?_ ?_ ?_ (fun L f W hL hall hI hM => hend L f W hall hI hM)
  · intro j f f' W h hm
    rcases j with _ | _ | _ | _ | _ | _ | _ | _ | _ | _ | _ | _ | _ | _ | _ | j
    all_goals simp only [deps7, List.mem_cons, List.not_mem_nil, or_false, forall_eq_or_imp, forall_eq, M7, Nat.zero_add, Nat.reduceAdd] at h hm ⊢
    all_goals first | trivial | simpa [h] using hm | (rw [← h.1, ← h.2.2]; exact hm) | (rw [← h.1, ← h.2]; exact hm) | (rw [← h]; exact hm)
  · refine ⟨hw.drew, ?_, ?_, ?_, ?_, ?_, ?_⟩ <;> intro e <;> exact absurd e (by simp [Array.getD])
  intro i o L f a' W ho hs hI hM hf hpre hbs hsl hdc K hK
  have hL : L.size = 15 := hs
  have hi : i < 15 := (Array.getElem?_eq_some_iff.1 ho).1
  conv at ho => lhs; arg 1; whnf
  have s3 := (hbs 3 (by decide)).trans b3
  have s4 := (hbs 4 (by decide)).trans b4
  have s6 := (hbs 6 (by decide)).trans b6
  have HK := Lib.hid hK
  clear hK hbs b3 b4 b6
  obtain ⟨x0, x1, x2, x3, x4⟩ := hpa.below hI.bel
  obtain ⟨y0, y1, y2, y3, y4⟩ := hpc.below hI.bel
  rcases i with _ | _ | _ | _ | _ | _ | _ | _ | _ | _ | _ | _ | _ | _ | _ | i
  -- operation 0
  · simp only [List.getElem?_toArray, List.getElem?_cons_zero, List.getElem?_cons_succ, Option.some.injEq] at ho
    subst ho
    simp only [Nat.zero_add, Nat.reduceAdd] at hf hpre ⊢
    have s4' : a'.tmps[4]?.getD undef = ptr pa := by rw [← Array.getD_eq_getD_getElem?]; exact s4
    unfold ptr at s4 s4'
    have HQ := Lib.hid (HK.out (a.val A cA) W (hI.pure hL (by omega) (by omega) (by omega) (by omega) (by omega) (by omega) _) (fun _ _ _ h => h) (by simp [M7, updF_same]))
    clear hI hM hpre hsl HK
    unfold Nd.val at HQ
    go_simp
    exact HQ.out
  -- operation 1
  · simp only [List.getElem?_toArray, List.getElem?_cons_zero, List.getElem?_cons_succ, Option.some.injEq] at ho
    subst ho
    simp only [Nat.zero_add, Nat.reduceAdd] at hf hpre ⊢
    have s3' : a'.tmps[3]?.getD undef = .int .u8 (wh : Nat) := by rw [← Array.getD_eq_getD_getElem?]; exact s3
    have HQ := Lib.hid (HK.out (.int .u8 (wh : Nat)) W (hI.pure hL (by omega) (by omega) (by omega) (by omega) (by omega) (by omega) _) (fun _ _ _ h => h) (by simp [M7, updF_same]))
    clear hI hM hpre hsl HK
    go_simp
    exact HQ.out
  -- operation 2
  · simp only [List.getElem?_toArray, List.getElem?_cons_zero, List.getElem?_cons_succ, Option.some.injEq] at ho
    subst ho
    simp only [Nat.zero_add, Nat.reduceAdd] at hf hpre ⊢
    have l1 := (hpre ⟨1, .data⟩ (by simp) rfl)
    have q1 := (hsl 1 35 l1 rfl).trans (hM 1 l1)
    have q1' : a'.tmps[35]?.getD undef = .int .u8 (wh : Nat) := by rw [← Array.getD_eq_getD_getElem?]; exact q1
    have hw1 : (0 : Int) ≤ (wh : Nat) := by omega
    have hw2 : ((wh : Nat) : Int) ≤ 255 := by omega
    have hwr : IntKind.i64.wrap ((wh : Nat) : Int) = (wh : Nat) := IntWalk.i64_in _ (by omega)
    have HQ := Lib.hid (HK.out (.int .i64 (wh : Nat)) W (hI.pure hL (by omega) (by omega) (by omega) (by omega) (by omega) (by omega) _) (fun _ _ _ h => h) (by simp [M7, updF_same]))
    clear hI hM hpre hsl HK
    go_simp
    exact HQ.out
  -- operation 3
  · simp only [List.getElem?_toArray, List.getElem?_cons_zero, List.getElem?_cons_succ, Option.some.injEq] at ho
    subst ho
    simp only [Nat.zero_add, Nat.reduceAdd] at hf hpre ⊢
    have s4' : a'.tmps[4]?.getD undef = ptr pa := by rw [← Array.getD_eq_getD_getElem?]; exact s4
    unfold ptr at s4 s4'
    have HQ := Lib.hid (HK.out (a.val A cA) W (hI.pure hL (by omega) (by omega) (by omega) (by omega) (by omega) (by omega) _) (fun _ _ _ h => h) (by simp [M7, updF_same]))
    clear hI hM hpre hsl HK
    unfold Nd.val at HQ
    go_simp
    exact HQ.out
  -- operation 4
  · simp only [List.getElem?_toArray, List.getElem?_cons_zero, List.getElem?_cons_succ, Option.some.injEq] at ho
    subst ho
    simp only [Nat.zero_add, Nat.reduceAdd] at hf hpre ⊢
    have l3 := (hpre ⟨3, .data⟩ (by simp) rfl)
    have q3 := (hsl 3 37 l3 rfl).trans (hM 3 l3)
    have q3' : a'.tmps[37]?.getD undef = a.val A cA := by rw [← Array.getD_eq_getD_getElem?]; exact q3
    have HC := Lib.hid (refCount a.size a A cA W (Nat.le_refl _) (RN.keep hI.bel hA) (by omega))
    go_simp
    refine HC.out.mono ?_
    rintro e w' ⟨rfl, hb⟩
    exact HK.out _ _ ((hI.grow hb).pure hL (by omega) (by omega) (by omega) (by omega) (by omega) (by omega) _) (fun j _ _ h => M7_w j _ h) (by simp [M7, updF_same])
  -- operation 5
  · simp only [List.getElem?_toArray, List.getElem?_cons_zero, List.getElem?_cons_succ, Option.some.injEq] at ho
    subst ho
    simp only [Nat.zero_add, Nat.reduceAdd] at hf hpre ⊢
    have l2 := (hpre ⟨2, .data⟩ (by simp) rfl)
    have l4 := (hpre ⟨4, .data⟩ (by simp) rfl)
    have q2 := (hsl 2 36 l2 rfl).trans (hM 2 l2)
    have q4 := (hsl 4 38 l4 rfl).trans (hM 4 l4)
    have q2' : a'.tmps[36]?.getD undef = .int .i64 (wh : Nat) := by rw [← Array.getD_eq_getD_getElem?]; exact q2
    have q4' : a'.tmps[38]?.getD undef = .int .i64 (a.size : Nat) := by rw [← Array.getD_eq_getD_getElem?]; exact q4
    have hw1 : (0 : Int) ≤ (wh : Nat) := by omega
    have hw2 : ((wh : Nat) : Int) ≤ 255 := by omega
    have hz := a.size_pos
    have hz1 : (1 : Int) ≤ (a.size : Nat) := by omega
    have hz2 : ((a.size : Nat) : Int) ≤ 1000000 := by omega
    have hz3 : ¬ a.size = 0 := by omega
    have htm : ((wh : Nat) : Int).tmod (a.size : Nat) = (wh : Int) % (a.size : Nat) := Int.tmod_eq_emod_of_nonneg hw1
    have HE := Lib.hid (show (((wh % a.size : Nat)) : Int) = (wh : Int) % (a.size : Nat) from by omega)
    have HQ := Lib.hid (HK.out (.int .i64 ((wh % a.size : Nat) : Int)) W (hI.pure hL (by omega) (by omega) (by omega) (by omega) (by omega) (by omega) _) (fun _ _ _ h => h) (by simp [M7, updF_same]))
    clear hI hM hpre hsl HK
    rw [HE.out] at HQ
    go_simp
    exact HQ.out
  -- operation 6
  · simp only [List.getElem?_toArray, List.getElem?_cons_zero, List.getElem?_cons_succ, Option.some.injEq] at ho
    subst ho
    simp only [Nat.zero_add, Nat.reduceAdd] at hf hpre ⊢
    have s6' : a'.tmps[6]?.getD undef = ptr pc := by rw [← Array.getD_eq_getD_getElem?]; exact s6
    unfold ptr at s6 s6'
    have HQ := Lib.hid (HK.out (c.val C cC) W (hI.pure hL (by omega) (by omega) (by omega) (by omega) (by omega) (by omega) _) (fun _ _ _ h => h) (by simp [M7, updF_same]))
    clear hI hM hpre hsl HK
    unfold Nd.val at HQ
    go_simp
    exact HQ.out
  -- operation 7
  · simp only [List.getElem?_toArray, List.getElem?_cons_zero, List.getElem?_cons_succ, Option.some.injEq] at ho
    subst ho
    simp only [Nat.zero_add, Nat.reduceAdd] at hf hpre ⊢
    have l0 := (hpre ⟨0, .data⟩ (by simp) rfl)
    have l5 := (hpre ⟨5, .data⟩ (by simp) rfl)
    have l6 := (hpre ⟨6, .data⟩ (by simp) rfl)
    have q0 := (hsl 0 34 l0 rfl).trans (hM 0 l0)
    have q5 := (hsl 5 39 l5 rfl).trans (hM 5 l5)
    have q6 := (hsl 6 40 l6 rfl).trans (hM 6 l6)
    have q0' : a'.tmps[34]?.getD undef = a.val A cA := by rw [← Array.getD_eq_getD_getElem?]; exact q0
    have q5' : a'.tmps[39]?.getD undef = .int .i64 ((wh % a.size : Nat) : Int) := by rw [← Array.getD_eq_getD_getElem?]; exact q5
    have q6' : a'.tmps[40]?.getD undef = c.val C cC := by rw [← Array.getD_eq_getD_getElem?]; exact q6
    have HC := Lib.hid (replaceW a.size a (wh % a.size) c A C cA cC W w0.heap.size (Nat.le_refl _) hI.bel.size ((RNS.of hA).belowK hI.bel) ((RNS.of hC).belowK hI.bel) (Nat.mod_lt _ a.size_pos) sa)
    obtain ⟨r, hr⟩ : ∃ r, wh % a.size = r := ⟨_, rfl⟩
    rw [hr] at q5 q5' HC
    clear hr
    go_simp
    refine HC.out.mono ?_
    rintro e w' ⟨⟨x, old, X, O, cX, cO, rfl, hrep, hx, ho⟩, hb⟩
    exact HK.out _ _ (hI.u7 hL hf hb hrep hx ho) (fun j _ _ h => M7_w j _ h) trivial
  -- operation 8
  · simp only [List.getElem?_toArray, List.getElem?_cons_zero, List.getElem?_cons_succ, Option.some.injEq] at ho
    subst ho
    simp only [Nat.zero_add, Nat.reduceAdd] at hf hpre ⊢
    have l7 := (hpre ⟨7, .data⟩ (by simp) rfl)
    have q7 := hsl 7 41 l7 rfl
    have q7' : a'.tmps[41]?.getD undef = f 7 := by rw [← Array.getD_eq_getD_getElem?]; exact q7
    have HQ := Lib.hid (HK.out (f 7) W (hI.pure hL (by omega) (by omega) (by omega) (by omega) (by omega) (by omega) _) (fun _ _ _ h => h) (by simp [M7, updF]))
    clear hI hM hpre hsl HK
    go_simp
    exact HQ.out
  -- operation 9
  · simp only [List.getElem?_toArray, List.getElem?_cons_zero, List.getElem?_cons_succ, Option.some.injEq] at ho
    subst ho
    simp only [Nat.zero_add, Nat.reduceAdd] at hf hpre ⊢
    have l8 := (hpre ⟨8, .data⟩ (by simp) rfl)
    have l7 : L.getD 7 false = true := hdc 8 l8 7 (by simp [deps7])
    obtain ⟨x, old, X, O, cX, cO, e7, hrep, hV⟩ := hI.r7 l7
    have q8 := (hsl 8 33 l8 rfl).trans ((hM 8 l8).trans e7)
    have q8' : a'.tmps[33]?.getD undef = .tuple #[x.val X cX, old.val O cO] := by rw [← Array.getD_eq_getD_getElem?]; exact q8
    have HQ := Lib.hid (HK.out (x.val X cX) W (hI.pure hL (by omega) (by omega) (by omega) (by omega) (by omega) (by omega) _) (fun _ _ _ h => h) (by intro u v e; rw [updF_other _ _ (by omega), e7] at e; rw [updF_same]; injection e with e; injection e with e; injection e with e1 e2))
    clear hI hM hpre hsl HK hV
    go_simp
    exact HQ.out
  -- operation 10
  · simp only [List.getElem?_toArray, List.getElem?_cons_zero, List.getElem?_cons_succ, Option.some.injEq] at ho
    subst ho
    simp only [Nat.zero_add, Nat.reduceAdd] at hf hpre ⊢
    have l8 := (hpre ⟨8, .data⟩ (by simp) rfl)
    have l7 : L.getD 7 false = true := hdc 8 l8 7 (by simp [deps7])
    obtain ⟨x, old, X, O, cX, cO, e7, hrep, hV⟩ := hI.r7 l7
    have q8 := (hsl 8 33 l8 rfl).trans ((hM 8 l8).trans e7)
    have q8' : a'.tmps[33]?.getD undef = .tuple #[x.val X cX, old.val O cO] := by rw [← Array.getD_eq_getD_getElem?]; exact q8
    have HQ := Lib.hid (HK.out (old.val O cO) W (hI.pure hL (by omega) (by omega) (by omega) (by omega) (by omega) (by omega) _) (fun _ _ _ h => h) (by intro u v e; rw [updF_other _ _ (by omega), e7] at e; rw [updF_same]; injection e with e; injection e with e; injection e with e1 e2; injection e2 with e2))
    clear hI hM hpre hsl HK hV
    go_simp
    exact HQ.out
  -- operation 11
  · simp only [List.getElem?_toArray, List.getElem?_cons_zero, List.getElem?_cons_succ, Option.some.injEq] at ho
    subst ho
    simp only [Nat.zero_add, Nat.reduceAdd] at hf hpre ⊢
    have HQ := Lib.hid (HK.out (ptr W.heap.size) _ (hI.u11 hL hf) (fun j _ _ h => M7_w j _ h) trivial)
    unfold ptr at HQ
    clear hI hM hpre hsl HK
    go_simp
    exact HQ.out
  -- operation 12
  · simp only [List.getElem?_toArray, List.getElem?_cons_zero, List.getElem?_cons_succ, Option.some.injEq] at ho
    subst ho
    simp only [Nat.zero_add, Nat.reduceAdd] at hf hpre ⊢
    have HQ := Lib.hid (HK.out (ptr W.heap.size) _ (hI.u12 hL hf) (fun j _ _ h => M7_w j _ h) trivial)
    unfold ptr at HQ
    clear hI hM hpre hsl HK
    go_simp
    exact HQ.out
  -- operation 13
  · simp only [List.getElem?_toArray, List.getElem?_cons_zero, List.getElem?_cons_succ, Option.some.injEq] at ho
    subst ho
    simp only [Nat.zero_add, Nat.reduceAdd] at hf hpre ⊢
    have lp := (hpre ⟨11, .data⟩ (by simp) rfl)
    have lv := (hpre ⟨9, .data⟩ (by simp) rfl)
    have l7 : L.getD 7 false = true := hdc 9 lv 7 (by simp [deps7])
    obtain ⟨x, old, X, O, cX, cO, e7, hrep, hV⟩ := hI.r7 l7
    have ev : f 9 = x.val X cX := hM 9 lv _ _ e7
    obtain ⟨p, ep, hlo, hlt, hvar⟩ := hI.x11 lp
    have qp := (hsl 11 9 lp rfl).trans ep
    have qv := (hsl 9 42 lv rfl).trans ev
    have qp' : a'.tmps[9]?.getD undef = ptr p := by rw [← Array.getD_eq_getD_getElem?]; exact qp
    have qv' : a'.tmps[42]?.getD undef = x.val X cX := by rw [← Array.getD_eq_getD_getElem?]; exact qv
    obtain ⟨⟨u0, z0⟩, ⟨u1, z1⟩, ⟨u2, z2⟩, ⟨u3, z3⟩, ⟨u4, z4⟩⟩ := And.intro (hvar.1 0 (by omega)) (And.intro (hvar.1 1 (by omega)) (And.intro (hvar.1 2 (by omega)) (And.intro (hvar.1 3 (by omega)) (hvar.1 4 (by omega)))))
    have hfz := hvar.2
    have HQ := Lib.hid (HK.out undef _ (hI.u13 hL hf l7 lp ep e7 undef) (fun j _ _ h => M7_w j _ h) trivial)
    clear hI hM hpre hsl HK hV hvar
    unfold ptr at qp qp'
    unfold set5 at HQ
    simp only [Nat.zero_add] at HQ
    unfold Nd.val at qv qv'
    go_simp
    exact HQ.out
  -- operation 14
  · simp only [List.getElem?_toArray, List.getElem?_cons_zero, List.getElem?_cons_succ, Option.some.injEq] at ho
    subst ho
    simp only [Nat.zero_add, Nat.reduceAdd] at hf hpre ⊢
    have lp := (hpre ⟨12, .data⟩ (by simp) rfl)
    have lv := (hpre ⟨10, .data⟩ (by simp) rfl)
    have l7 : L.getD 7 false = true := hdc 10 lv 7 (by simp [deps7])
    obtain ⟨x, old, X, O, cX, cO, e7, hrep, hV⟩ := hI.r7 l7
    have ev : f 10 = old.val O cO := hM 10 lv _ _ e7
    obtain ⟨p, ep, hlo, hlt, hvar⟩ := hI.x12 lp
    have qp := (hsl 12 10 lp rfl).trans ep
    have qv := (hsl 10 43 lv rfl).trans ev
    have qp' : a'.tmps[10]?.getD undef = ptr p := by rw [← Array.getD_eq_getD_getElem?]; exact qp
    have qv' : a'.tmps[43]?.getD undef = old.val O cO := by rw [← Array.getD_eq_getD_getElem?]; exact qv
    obtain ⟨⟨u0, z0⟩, ⟨u1, z1⟩, ⟨u2, z2⟩, ⟨u3, z3⟩, ⟨u4, z4⟩⟩ := And.intro (hvar.1 0 (by omega)) (And.intro (hvar.1 1 (by omega)) (And.intro (hvar.1 2 (by omega)) (And.intro (hvar.1 3 (by omega)) (hvar.1 4 (by omega)))))
    have hfz := hvar.2
    have HQ := Lib.hid (HK.out undef _ (hI.u14 hL hf l7 lp ep e7 undef) (fun j _ _ h => M7_w j _ h) trivial)
    clear hI hM hpre hsl HK hV hvar
    unfold ptr at qp qp'
    unfold set5 at HQ
    simp only [Nat.zero_add] at HQ
    unfold Nd.val at qv qv'
    go_simp
    exact HQ.out
  · omega
end Go.Proofs.Ytjijfgkmjachnaa

namespace Go.Proofs.Ytjijfgkmjachnaa
set_option linter.unusedVariables false
set_option linter.unusedSimpArgs false
open Go.RowKit

set_option maxRecDepth 100000 in
set_option maxHeartbeats 4000000 in
theorem lawReplaces (a b c : Nd) (A B C : Option Addr) (cA cB cC : Nat) (m : Nat) (hm : m < 256) (w : World) (hA : RN w a A cA) (hB : RN w b B cB) (hC : RN w c C cC) :
    Calls Try.prog 7 #[a.val A cA, b.val B cB, c.val C cC, .int .u8 (m : Nat)] w fun e w' => e = .returned (.bool true) ∧ Below w.heap.size w w' := by
  obtain ⟨w0, hw0⟩ : ∃ w0, ((w.alloc (.cells (cells5 a A cA).toArray 24)).alloc (.cells (cells5 b B cB).toArray 24)).alloc (.cells (cells5 c C cC).toArray 24) = w0 := ⟨_, rfl⟩
  obtain ⟨pa, pb, pc, hb0⟩ := heap3' w a b c A B C cA cB cC w0 hw0
  have HCE := Lib.hid (show ∀ W, Below w0.heap.size w0 W → At5 W w.heap.size 0 a A cA ∧ At5 W (w.heap.size + 1) 0 b B cB ∧ At5 W (w.heap.size + 1 + 1) 0 c C cC from fun W h => ⟨pa.below h, pb.below h, pc.below h⟩)
  have HT := Lib.hid (show ∀ W, Below w0.heap.size w0 W → Below w.heap.size w W from fun W h => hb0.trans (h.mono hb0.size))
  have HA := Lib.hid (show ∀ W, Below w0.heap.size w0 W → RN W a A cA from fun W h => RN.keep h (RN.keep hb0 hA))
  have HB := Lib.hid (show ∀ W, Below w0.heap.size w0 W → RN W b B cB from fun W h => RN.keep h (RN.keep hb0 hB))
  have HC := Lib.hid (show ∀ W, Below w0.heap.size w0 W → RN W c C cC from fun W h => RN.keep h (RN.keep hb0 hC))
  have hw1 : ((w.alloc (.cells #[.int .i64 a.kind, .string a.text, .int .i64 a.pos, .int .i64 a.fin, .slice A a.kids.length cA] 24)).alloc (.cells #[.int .i64 b.kind, .string b.text, .int .i64 b.pos, .int .i64 b.fin, .slice B b.kids.length cB] 24)).alloc (.cells #[.int .i64 c.kind, .string c.text, .int .i64 c.pos, .int .i64 c.fin, .slice C c.kids.length cC] 24) = w0 := hw0
  clear hw0 pa pb pc hb0 hA hB hC
  have HF1 := Lib.hid (fun W (h : Below w0.heap.size w0 W) => lawfew a b 15 A B cA cB W (HA.out W h) (HB.out W h) (by omega) (by omega))
  have HF2 := Lib.hid (fun W (h : Below w0.heap.size w0 W) => lawfew c c 15 C C cC cC W (HC.out W h) (HC.out W h) (by omega) (by omega))
  have HD := Lib.hid (fun W (x y : Nd) (X Y : Option Addr) (cX cY : Nat) (hX : RN W x X cX) (hY : RN W y Y cY) (s1 : x.size ≤ 100) (s2 : y.size ≤ 100) => Distance x y X Y cX cY W hX hY (by omega) (by omega))
  have HSU := Lib.hid (fun W (x y : Nd) (X Y : Option Addr) (cX cY : Nat) (hX : RN W x X cX) (hY : RN W y Y cY) (s1 : x.size ≤ 100) (s2 : y.size ≤ 100) => Subtrees x y X Y cX cY W hX hY (by omega) (by omega))
  unfold Nd.val at HF1 HF2 HD HSU ⊢
  go_enter Try.func7, Try.ntmps7
  go_wp2_with fail
  refine (awake w0).mono ?_
  rintro e w1 ⟨rfl, hb⟩
  have H1 := Lib.hid hb
  obtain ⟨⟨a0, a1, a2, a3, a4⟩, ⟨b0, b1, b2, b3, b4⟩, c0, c1, c2, c3, c4⟩ := HCE.out _ H1.out
  clear hb hw1
  go_wp2_with fail
  refine (HF1.out w1 H1.out).mono ?_
  rintro e w2 ⟨rfl, hb⟩
  clear a0 a1 a2 a3 a4 b0 b1 b2 b3 b4 c0 c1 c2 c3 c4
  have H2 := Lib.hid (trans_b H1.out hb)
  obtain ⟨⟨a0, a1, a2, a3, a4⟩, ⟨b0, b1, b2, b3, b4⟩, c0, c1, c2, c3, c4⟩ := HCE.out _ H2.out
  clear hb HF1
  cases hq : FewB a 15 && FewB b 15 with
  | false =>
    clear hq
    go_wp2_with fail
    go_ret
    exact ⟨rfl, HT.out _ H2.out⟩
  | true =>
    have HQ := Lib.hid hq
    clear hq
    go_wp2_with fail
    refine (HF2.out w2 H2.out).mono ?_
    rintro e w3 ⟨rfl, hb⟩
    clear a0 a1 a2 a3 a4 b0 b1 b2 b3 b4 c0 c1 c2 c3 c4
    have H3 := Lib.hid (trans_b H2.out hb)
    clear hb HF2
    cases hq : FewB c 15 && FewB c 15 with
    | false =>
      clear hq
      go_wp2_with fail
      go_ret
      exact ⟨rfl, HT.out _ H3.out⟩
    | true =>
      have HQ2 := Lib.hid hq
      clear hq
      have sa : a.size ≤ 15 := by have := HQ.out; simp only [Bool.and_eq_true] at this; have := FewB_size this.1; omega
      have sb : b.size ≤ 15 := by have := HQ.out; simp only [Bool.and_eq_true] at this; have := FewB_size this.2; omega
      have sc : c.size ≤ 15 := by have := HQ2.out; simp only [Bool.and_eq_true] at this; have := FewB_size this.1; omega
      go_wp2_with fail
      refine region7 a c A C cA cC m hm w0 w.heap.size (w.heap.size + 1 + 1) (HA.out _ (Below.refl _ _)) (HC.out _ (Below.refl _ _)) (HCE.out _ (Below.refl _ _)).1 (HCE.out _ (Below.refl _ _)).2.2 (by omega) _ (by rfl) (by rfl) (by rfl) (by rfl) _ _ H3.out ?_
      intro L f W hall hI hM
      simp only [ds7, setAll, List.setIfInBounds_toArray, List.set_cons_zero, List.set_cons_succ, Nat.zero_add, Nat.reduceAdd]
      obtain ⟨p, ep, _, hpl, _⟩ := hI.x11 (hall 11 (by omega))
      obtain ⟨q, eq, _, hql, _⟩ := hI.x12 (hall 12 (by omega))
      obtain ⟨x, old, X, O, cX, cO, e7, hrep, hV⟩ := hI.r7 (hall 7 (by omega))
      obtain ⟨hx, ho⟩ := hV W (fun _ _ _ _ => rfl)
      have hxp := (hI.s13 (hall 13 (by omega))).2.2 p x X cX _ ep e7
      have hoq := (hI.s14 (hall 14 (by omega))).2.2 q old O cO _ eq e7
      have HPQ := Lib.hid (show ∀ V, Below W.heap.size W V → At5 V p 0 x X cX ∧ At5 V q 0 old O cO ∧ RN V x X cX ∧ RN V old O cO from fun V h => ⟨hxp.below h, hoq.below h, RN.keep h hx, RN.keep h ho⟩)
      have HW := Lib.hid hI.bel
      obtain ⟨sx, so⟩ := hrep.size_le
      have hd4 := hrep.td_le
      have t1 := td_tri a x b
      have t2 := td_tri x a b
      rw [td_comm x a] at t2
      have u1 := td_le a b
      have u2 := td_le x b
      have u3 := td_le old c
      have u4 := td_le a x
      obtain ⟨d1, hd1⟩ : ∃ d, td a b = d := ⟨_, rfl⟩
      obtain ⟨d2, hd2⟩ : ∃ d, td x b = d := ⟨_, rfl⟩
      obtain ⟨d3, hd3⟩ : ∃ d, td old c = d := ⟨_, rfl⟩
      obtain ⟨d4, hd4e⟩ : ∃ d, td a x = d := ⟨_, rfl⟩
      rw [hd3, hd4e] at hd4
      rw [hd1, hd4e, hd2] at t1 t2
      rw [hd1] at u1
      rw [hd2] at u2
      rw [hd3] at u3
      rw [hd4e] at u4
      have D1 := Lib.hid (fun V (h : Below w0.heap.size w0 V) => HD.out V a b A B cA cB (HA.out V h) (HB.out V h) (by omega) (by omega))
      have D2 := Lib.hid (fun V (h : Below W.heap.size W V) => HD.out V x b X B cX cB (HPQ.out V h).2.2.1 (HB.out V (trans_b HW.out h)) (by omega) (by omega))
      have D3 := Lib.hid (fun V (h : Below W.heap.size W V) => HD.out V old c O C cO cC (HPQ.out V h).2.2.2 (HC.out V (trans_b HW.out h)) (by omega) (by omega))
      have D4 := Lib.hid (fun V (h : Below W.heap.size W V) => HD.out V a x A X cA cX (HA.out V (trans_b HW.out h)) (HPQ.out V h).2.2.1 (by omega) (by omega))
      have D5 := Lib.hid (fun V (h : Below W.heap.size W V) => HSU.out V old c O C cO cC (HPQ.out V h).2.2.2 (HC.out V (trans_b HW.out h)) (by omega) (by omega))
      rw [dV_small (by omega) (by omega), dC_small (by omega) (by omega), hd1] at D1
      rw [dV_small (by omega) (by omega), dC_small (by omega) (by omega), hd2] at D2
      rw [dV_small (by omega) (by omega), dC_small (by omega) (by omega), hd3] at D3
      rw [dV_small (by omega) (by omega), dC_small (by omega) (by omega), hd4e] at D4
      have HBIG := Lib.hid (show bigAny [old, c] = false from small2 (by omega) (by omega))
      have HSZ := Lib.hid (And.intro old.size_pos c.size_pos)
      have HD3 := Lib.hid hd3
      have b1 : d1 ≤ 100 := by omega
      have b2 : d2 ≤ 100 := by omega
      have b3 : d3 ≤ 100 := by omega
      have HBO := Lib.hid (show ∀ V, Below W.heap.size W V → Below w0.heap.size w0 V from fun V h => trans_b HW.out h)
      rw [ep, eq]
      unfold ptr
      clear hI hM hV hx ho hxp hoq e7 hrep ep eq hd1 hd2 hd3 hd4e u1 u2 u3 u4 sx so hpl hql sa sb sc HD HSU
      obtain ⟨⟨a0, a1, a2, a3, a4⟩, ⟨b0, b1', b2', b3', b4⟩, c0, c1, c2, c3, c4⟩ := HCE.out _ HW.out
      have HW4 := Lib.hid (Below.refl W.heap.size W)
      go_wp2_with fail
      refine (D1.out W HW.out).mono ?_
      rintro e w5 ⟨rfl, hb⟩
      clear a0 a1 a2 a3 a4 b0 b1' b2' b3' b4 c0 c1 c2 c3 c4
      have H5 := Lib.hid hb
      obtain ⟨⟨a0, a1, a2, a3, a4⟩, ⟨b0, b1', b2', b3', b4⟩, c0, c1, c2, c3, c4⟩ := HCE.out _ (HBO.out _ H5.out)
      obtain ⟨⟨x0, x1, x2, x3, x4⟩, ⟨o0, o1, o2, o3, o4⟩, _, _⟩ := HPQ.out _ H5.out
      clear hb
      go_wp2_with fail
      refine (D2.out w5 H5.out).mono ?_
      rintro e w6 ⟨rfl, hb⟩
      clear a0 a1 a2 a3 a4 b0 b1' b2' b3' b4 c0 c1 c2 c3 c4 x0 x1 x2 x3 x4 o0 o1 o2 o3 o4
      have H6 := Lib.hid (trans_b H5.out hb)
      obtain ⟨⟨a0, a1, a2, a3, a4⟩, ⟨b0, b1', b2', b3', b4⟩, c0, c1, c2, c3, c4⟩ := HCE.out _ (HBO.out _ H6.out)
      obtain ⟨⟨x0, x1, x2, x3, x4⟩, ⟨o0, o1, o2, o3, o4⟩, _, _⟩ := HPQ.out _ H6.out
      clear hb
      go_wp2_with fail
      refine (D3.out w6 H6.out).mono ?_
      rintro e w7 ⟨rfl, hb⟩
      clear a0 a1 a2 a3 a4 b0 b1' b2' b3' b4 c0 c1 c2 c3 c4 x0 x1 x2 x3 x4 o0 o1 o2 o3 o4
      have H7 := Lib.hid (trans_b H6.out hb)
      obtain ⟨⟨a0, a1, a2, a3, a4⟩, ⟨b0, b1', b2', b3', b4⟩, c0, c1, c2, c3, c4⟩ := HCE.out _ (HBO.out _ H7.out)
      obtain ⟨⟨x0, x1, x2, x3, x4⟩, ⟨o0, o1, o2, o3, o4⟩, _, _⟩ := HPQ.out _ H7.out
      clear hb
      go_wp2_with fail
      refine (D4.out w7 H7.out).mono ?_
      rintro e w8 ⟨rfl, hb⟩
      clear a0 a1 a2 a3 a4 b0 b1' b2' b3' b4 c0 c1 c2 c3 c4 x0 x1 x2 x3 x4 o0 o1 o2 o3 o4
      have H8 := Lib.hid (trans_b H7.out hb)
      obtain ⟨⟨a0, a1, a2, a3, a4⟩, ⟨b0, b1', b2', b3', b4⟩, c0, c1, c2, c3, c4⟩ := HCE.out _ (HBO.out _ H8.out)
      obtain ⟨⟨x0, x1, x2, x3, x4⟩, ⟨o0, o1, o2, o3, o4⟩, _, _⟩ := HPQ.out _ H8.out
      clear hb
      go_wp2_with fail
      refine (D5.out w8 H8.out).mono ?_
      rintro e w9 ⟨hr, hb⟩
      clear a0 a1 a2 a3 a4 b0 b1' b2' b3' b4 c0 c1 c2 c3 c4 x0 x1 x2 x3 x4 o0 o1 o2 o3 o4
      obtain ⟨_, gs, bs, T, rfl, hT, hS⟩ := hr.resolve_left (fun h => by rw [HBIG.out] at h; cases h.1)
      have H9 := Lib.hid (trans_b H8.out hb)
      have z0 := hT.outer 0 HSZ.out.1
      have z1 := hT.inner 0 0 HSZ.out.1 HSZ.out.2
      rw [hS.zero, HD3.out] at z1
      have so : (0 : Int) < (old.size : Nat) := by have := HSZ.out.1; omega
      have sc : (0 : Int) < (c.size : Nat) := by have := HSZ.out.2; omega
      clear hT hS hb hr
      go_wp2_with fail
      go_ret
      exact ⟨by simp, HT.out _ (HBO.out _ H9.out)⟩
end Go.Proofs.Ytjijfgkmjachnaa
