import Derived.Test.YtjijfgkmjachnaaT33
namespace Go.Proofs.Ytjijfgkmjachnaa
set_option linter.unusedVariables false
set_option linter.unusedSimpArgs false
open Go.RowKit

noncomputable def ops30 : Array Oper := ((Try.f30.body.bind (firstReg 1)).getD #[])
def frm30 (x y : Value) (p q : Nat) (v5 v6 v18 v19 v20 v21 : Value) : Array Value := #[x, y, .pointer (some ⟨p, 0, none⟩), .pointer (some ⟨q, 0, none⟩), .slice none 0 0, v5, v6, undef, undef, undef, undef, undef, undef, undef, undef, undef, undef, undef, v18, v19, v20, v21, undef, undef, undef, undef, undef, undef, undef, undef, undef, undef, undef, undef, undef, undef, undef, undef, undef, undef, undef, undef, undef, undef, undef, undef, undef, undef, undef, undef, undef, undef, undef, undef, undef, undef, undef, undef, undef, undef, undef, undef, undef, undef, undef, undef, undef, undef, undef, undef, undef, undef, undef, undef, undef, undef, undef, undef, undef, undef, undef, undef, undef, undef, undef, undef, undef, undef, undef, undef, undef, undef]

structure X30 where
  (a b : Nd) (A B : Option Addr) (cA cB p q : Nat) (w0 : World)
structure X30.Ok (C : X30) : Prop where
  p5 : At5 C.w0 C.p 0 C.a C.A C.cA
  q5 : At5 C.w0 C.q 0 C.b C.B C.cB
  ra : RN C.w0 C.a C.A C.cA
  rb : RN C.w0 C.b C.B C.cB
  sa : C.a.size ≤ 1000000
  sb : C.b.size ≤ 1000000

def bz : Obj := .cells #[.slice none 0 0, .slice none 0 0, .slice none 0 0] 66 (0, 0)
def Bx (W : World) (lo : Nat) (st : Bool) (v f : Value) : Prop :=
  ∃ b5, v = .pointer (some ⟨b5, 0, none⟩) ∧ lo ≤ b5 ∧ ((st = false ∧ W.heap[b5]? = some bz) ∨ (st = true ∧ ∃ x0 x1 x2, f = .agg #[x0, x1, x2] ∧ W.heap[b5]? = some (.cells #[x0, x1, x2] 66 (0, 0))))
structure R30 (C : X30) (L : Array Bool) (W : World) (v5 v6 v18 v19 v20 v21 : Value) : Prop where
  bel : Below C.w0.heap.size C.w0 W
  f0 : L.getD 0 false = true → v18 = C.a.val C.A C.cA
  f1 : L.getD 1 false = true → Fl W C.a v19
  f2 : L.getD 2 false = true → v20 = C.b.val C.B C.cB
  f3 : L.getD 3 false = true → Fl W C.b v21
  f4 : L.getD 4 false = true → Bx W C.w0.heap.size (L.getD 6 false) v5 v19
  f5 : L.getD 5 false = true → Bx W C.w0.heap.size (L.getD 7 false) v6 v21
  ne : L.getD 4 false = true → L.getD 5 false = true → v5 ≠ v6
  g6 : L.getD 6 false = true → L.getD 4 false = true ∧ L.getD 5 false = true ∧ L.getD 1 false = true
  g7 : L.getD 7 false = true → L.getD 4 false = true ∧ L.getD 5 false = true ∧ L.getD 3 false = true
def I30 (C : X30) (x y : Value) (L : Array Bool) (act : Act) (W : World) : Prop :=
  ∃ v5 v6 v18 v19 v20 v21, act = ⟨frm30 x y C.p C.q v5 v6 v18 v19 v20 v21, []⟩ ∧ R30 C L W v5 v6 v18 v19 v20 v21

theorem Bx.keep {W W' : World} {lo : Nat} {st : Bool} {v f : Value} (h : Bx W lo st v f) (hk : ∀ (k : Nat) (o : Obj), W.heap[k]? = some o → W'.heap[k]? = some o) : Bx W' lo st v f := by
  obtain ⟨b5, e, hl, h⟩ := h
  refine ⟨b5, e, hl, ?_⟩
  rcases h with ⟨h1, h2⟩ | ⟨h1, x0, x1, x2, h2, h3⟩
  · exact .inl ⟨h1, hk _ _ h2⟩
  · exact .inr ⟨h1, x0, x1, x2, h2, hk _ _ h3⟩
theorem Bx.free {W : World} {lo : Nat} {v f f' : Value} {st : Bool} (h : Bx W lo st v f) (hs : st = false) : Bx W lo st v f' := by
  obtain ⟨b5, e, hl, h⟩ := h
  refine ⟨b5, e, hl, ?_⟩
  rcases h with ⟨h1, h2⟩ | ⟨h1, _⟩
  · exact .inl ⟨h1, h2⟩
  · rw [hs] at h1; cases h1

/-- new blocks only -/
theorem R30.grow {C : X30} {L : Array Bool} {W W' : World} {v5 v6 v18 v19 v20 v21 : Value} (h : R30 C L W v5 v6 v18 v19 v20 v21) (hb : Below W.heap.size W W') : R30 C L W' v5 v6 v18 v19 v20 v21 :=
  have hk : ∀ (k : Nat) (o : Obj), W.heap[k]? = some o → W'.heap[k]? = some o := fun k o e => (hb.block k (Array.getElem?_eq_some_iff.1 e).1).trans e
  ⟨h.bel.trans (hb.mono h.bel.size), h.f0, fun l => (h.f1 l).below hb, h.f2, fun l => (h.f3 l).below hb, fun l => Bx.keep (h.f4 l) hk, fun l => Bx.keep (h.f5 l) hk, h.ne, h.g6, h.g7⟩
theorem Bx.lt {W : World} {lo : Nat} {st : Bool} {v f : Value} (h : Bx W lo st v f) : v ≠ .pointer (some ⟨W.heap.size, 0, none⟩) := by
  obtain ⟨b5, rfl, hl, h⟩ := h
  have : b5 < W.heap.size := by
    rcases h with ⟨_, h⟩ | ⟨_, x0, x1, x2, _, h⟩ <;> exact (Array.getElem?_eq_some_iff.1 h).1
  intro e
  first | (simp at e; done) | (simp at e; omega)
theorem R30.s0 {C : X30} {L : Array Bool} {W : World} {v5 v6 v18 v19 v20 v21 : Value} (h : R30 C L W v5 v6 v18 v19 v20 v21) (hL : L.size = 8) : R30 C (L.setIfInBounds 0 true) W v5 v6 (C.a.val C.A C.cA) v19 v20 v21 := by
  have hk : ∀ j, j ≠ 0 → (L.setIfInBounds 0 true).getD j false = L.getD j false := fun j hj => by rw [getD_set (by omega)]; simp [hj]
  have k1 := hk 1 (by omega)
  have k2 := hk 2 (by omega)
  have k3 := hk 3 (by omega)
  have k4 := hk 4 (by omega)
  have k5 := hk 5 (by omega)
  have k6 := hk 6 (by omega)
  have k7 := hk 7 (by omega)
  have k0 : (L.setIfInBounds 0 true).getD 0 false = true := by rw [getD_set (by omega)]; simp
  refine ⟨?_, ?_, ?_, ?_, ?_, ?_, ?_, ?_, ?_, ?_⟩ <;> try simp only [k0, k1, k2, k3, k4, k5, k6, k7]
  · exact h.bel
  · first | exact fun _ => rfl | (intros; trivial)
  · exact h.f1
  · exact h.f2
  · exact h.f3
  · exact h.f4
  · exact h.f5
  · exact h.ne
  · exact h.g6
  · exact h.g7

theorem R30.s2 {C : X30} {L : Array Bool} {W : World} {v5 v6 v18 v19 v20 v21 : Value} (h : R30 C L W v5 v6 v18 v19 v20 v21) (hL : L.size = 8) : R30 C (L.setIfInBounds 2 true) W v5 v6 v18 v19 (C.b.val C.B C.cB) v21 := by
  have hk : ∀ j, j ≠ 2 → (L.setIfInBounds 2 true).getD j false = L.getD j false := fun j hj => by rw [getD_set (by omega)]; simp [hj]
  have k0 := hk 0 (by omega)
  have k1 := hk 1 (by omega)
  have k3 := hk 3 (by omega)
  have k4 := hk 4 (by omega)
  have k5 := hk 5 (by omega)
  have k6 := hk 6 (by omega)
  have k7 := hk 7 (by omega)
  have k2 : (L.setIfInBounds 2 true).getD 2 false = true := by rw [getD_set (by omega)]; simp
  refine ⟨?_, ?_, ?_, ?_, ?_, ?_, ?_, ?_, ?_, ?_⟩ <;> try simp only [k0, k1, k2, k3, k4, k5, k6, k7]
  · exact h.bel
  · exact h.f0
  · exact h.f1
  · first | exact fun _ => rfl | (intros; trivial)
  · exact h.f3
  · exact h.f4
  · exact h.f5
  · exact h.ne
  · exact h.g6
  · exact h.g7

theorem R30.s1 {C : X30} {L : Array Bool} {W : World} {v5 v6 v18 v19 v20 v21 : Value} (h : R30 C L W v5 v6 v18 v19 v20 v21) (hL : L.size = 8) {v : Value} (hv : Fl W C.a v) (h6 : L.getD 6 false = false) : R30 C (L.setIfInBounds 1 true) W v5 v6 v18 v v20 v21 := by
  have hk : ∀ j, j ≠ 1 → (L.setIfInBounds 1 true).getD j false = L.getD j false := fun j hj => by rw [getD_set (by omega)]; simp [hj]
  have k0 := hk 0 (by omega)
  have k2 := hk 2 (by omega)
  have k3 := hk 3 (by omega)
  have k4 := hk 4 (by omega)
  have k5 := hk 5 (by omega)
  have k6 := hk 6 (by omega)
  have k7 := hk 7 (by omega)
  have k1 : (L.setIfInBounds 1 true).getD 1 false = true := by rw [getD_set (by omega)]; simp
  refine ⟨?_, ?_, ?_, ?_, ?_, ?_, ?_, ?_, ?_, ?_⟩ <;> try simp only [k0, k1, k2, k3, k4, k5, k6, k7]
  · exact h.bel
  · exact h.f0
  · exact fun _ => hv
  · exact h.f2
  · exact h.f3
  · exact fun l => Bx.free (h.f4 l) h6
  · exact h.f5
  · exact h.ne
  · intro l; rw [h6] at l; cases l
  · exact h.g7

theorem R30.s3 {C : X30} {L : Array Bool} {W : World} {v5 v6 v18 v19 v20 v21 : Value} (h : R30 C L W v5 v6 v18 v19 v20 v21) (hL : L.size = 8) {v : Value} (hv : Fl W C.b v) (h7 : L.getD 7 false = false) : R30 C (L.setIfInBounds 3 true) W v5 v6 v18 v19 v20 v := by
  have hk : ∀ j, j ≠ 3 → (L.setIfInBounds 3 true).getD j false = L.getD j false := fun j hj => by rw [getD_set (by omega)]; simp [hj]
  have k0 := hk 0 (by omega)
  have k1 := hk 1 (by omega)
  have k2 := hk 2 (by omega)
  have k4 := hk 4 (by omega)
  have k5 := hk 5 (by omega)
  have k6 := hk 6 (by omega)
  have k7 := hk 7 (by omega)
  have k3 : (L.setIfInBounds 3 true).getD 3 false = true := by rw [getD_set (by omega)]; simp
  refine ⟨?_, ?_, ?_, ?_, ?_, ?_, ?_, ?_, ?_, ?_⟩ <;> try simp only [k0, k1, k2, k3, k4, k5, k6, k7]
  · exact h.bel
  · exact h.f0
  · exact h.f1
  · exact h.f2
  · exact fun _ => hv
  · exact h.f4
  · exact fun l => Bx.free (h.f5 l) h7
  · exact h.ne
  · exact h.g6
  · intro l; rw [h7] at l; cases l

theorem R30.s4 {C : X30} {L : Array Bool} {W : World} {v5 v6 v18 v19 v20 v21 : Value} (h : R30 C L W v5 v6 v18 v19 v20 v21) (hL : L.size = 8) (h6 : L.getD 6 false = false) : R30 C (L.setIfInBounds 4 true) (W.alloc bz) (.pointer (some ⟨W.heap.size, 0, none⟩)) v6 v18 v19 v20 v21 := by
  have hk : ∀ j, j ≠ 4 → (L.setIfInBounds 4 true).getD j false = L.getD j false := fun j hj => by rw [getD_set (by omega)]; simp [hj]
  have k0 := hk 0 (by omega)
  have k1 := hk 1 (by omega)
  have k2 := hk 2 (by omega)
  have k3 := hk 3 (by omega)
  have k5 := hk 5 (by omega)
  have k6 := hk 6 (by omega)
  have k7 := hk 7 (by omega)
  have k4 : (L.setIfInBounds 4 true).getD 4 false = true := by rw [getD_set (by omega)]; simp
  have hg := h.grow ((Below.refl _ W).alloc (Nat.le_refl _) bz)
  refine ⟨?_, ?_, ?_, ?_, ?_, ?_, ?_, ?_, ?_, ?_⟩ <;> try simp only [k0, k1, k2, k3, k4, k5, k6, k7]
  · exact hg.bel
  · exact h.f0
  · exact hg.f1
  · exact h.f2
  · exact hg.f3
  · exact fun _ => ⟨_, rfl, h.bel.size, .inl ⟨h6, heap_alloc_new W bz⟩⟩
  · exact hg.f5
  · exact fun _ l e => Bx.lt (h.f5 l) e.symm
  · intro l; rw [h6] at l; cases l
  · exact fun l => ⟨trivial, (h.g7 l).2⟩

theorem R30.s5 {C : X30} {L : Array Bool} {W : World} {v5 v6 v18 v19 v20 v21 : Value} (h : R30 C L W v5 v6 v18 v19 v20 v21) (hL : L.size = 8) (h7 : L.getD 7 false = false) : R30 C (L.setIfInBounds 5 true) (W.alloc bz) v5 (.pointer (some ⟨W.heap.size, 0, none⟩)) v18 v19 v20 v21 := by
  have hk : ∀ j, j ≠ 5 → (L.setIfInBounds 5 true).getD j false = L.getD j false := fun j hj => by rw [getD_set (by omega)]; simp [hj]
  have k0 := hk 0 (by omega)
  have k1 := hk 1 (by omega)
  have k2 := hk 2 (by omega)
  have k3 := hk 3 (by omega)
  have k4 := hk 4 (by omega)
  have k6 := hk 6 (by omega)
  have k7 := hk 7 (by omega)
  have k5 : (L.setIfInBounds 5 true).getD 5 false = true := by rw [getD_set (by omega)]; simp
  have hg := h.grow ((Below.refl _ W).alloc (Nat.le_refl _) bz)
  refine ⟨?_, ?_, ?_, ?_, ?_, ?_, ?_, ?_, ?_, ?_⟩ <;> try simp only [k0, k1, k2, k3, k4, k5, k6, k7]
  · exact hg.bel
  · exact h.f0
  · exact hg.f1
  · exact h.f2
  · exact hg.f3
  · exact hg.f4
  · exact fun _ => ⟨_, rfl, h.bel.size, .inl ⟨h7, heap_alloc_new W bz⟩⟩
  · exact fun l _ e => Bx.lt (h.f4 l) e
  · exact fun l => ⟨(h.g6 l).1, trivial, (h.g6 l).2.2⟩
  · intro l; rw [h7] at l; cases l


theorem set3 {W : World} {b : Nat} {y0 y1 y2 : Value} (x0 x1 x2 : Value) (h : W.heap[b]? = some (.cells #[y0, y1, y2] 66 (0, 0))) :
    (((W.setCell ⟨b, 0, none⟩ x0).setCell ⟨b, 1, none⟩ x1).setCell ⟨b, 2, none⟩ x2).heap[b]? = some (.cells #[x0, x1, x2] 66 (0, 0)) ∧
    Keeps (· = b) W (((W.setCell ⟨b, 0, none⟩ x0).setCell ⟨b, 1, none⟩ x1).setCell ⟨b, 2, none⟩ x2) ∧ ∀ lo, lo ≤ b → Below lo W (((W.setCell ⟨b, 0, none⟩ x0).setCell ⟨b, 1, none⟩ x1).setCell ⟨b, 2, none⟩ x2) :=
  ⟨by simp [World.setCell, Array.getElem?_modify, h], ((Keeps.setCell (S := fun k => k = b) (Keeps.refl _ W) (p := ⟨b, 0, none⟩) (.inl rfl) _).setCell (p := ⟨b, 1, none⟩) (.inl rfl) _).setCell (p := ⟨b, 2, none⟩) (.inl rfl) _,
   fun lo hl => (((Below.refl lo W).setCell (p := ⟨b, 0, none⟩) hl _).setCell (p := ⟨b, 1, none⟩) hl _).setCell (p := ⟨b, 2, none⟩) hl _⟩
theorem Bx.off {W W' : World} {lo b : Nat} {st : Bool} {v f : Value} (h : Bx W lo st v f) (hk : Keeps (· = b) W W') (hn : v ≠ .pointer (some ⟨b, 0, none⟩)) : Bx W' lo st v f := by
  obtain ⟨b5, rfl, hl, h⟩ := h
  have hb : b5 ≠ b := fun e => hn (by rw [e])
  have mv : ∀ o, W.heap[b5]? = some o → W'.heap[b5]? = some o := fun o e => (hk.block b5 (Array.getElem?_eq_some_iff.1 e).1 hb).trans e
  refine ⟨b5, rfl, hl, ?_⟩
  rcases h with ⟨h1, h2⟩ | ⟨h1, x0, x1, x2, h2, h3⟩
  · exact .inl ⟨h1, mv _ h2⟩
  · exact .inr ⟨h1, x0, x1, x2, h2, mv _ h3⟩
theorem R30.s6 {C : X30} {L : Array Bool} {W W' : World} {b5 : Nat} {x0 x1 x2 v5 v6 v18 v19 v20 v21 : Value} (h : R30 C L W v5 v6 v18 v19 v20 v21) (hL : L.size = 8) (h5 : v5 = .pointer (some ⟨b5, 0, none⟩)) (h19 : v19 = .agg #[x0, x1, x2]) (l4 : L.getD 4 false = true) (l5 : L.getD 5 false = true) (l1 : L.getD 1 false = true)
    (hz : W.heap[b5]? = some bz) (hs : W'.heap[b5]? = some (.cells #[x0, x1, x2] 66 (0, 0))) (hkp : Keeps (· = b5) W W') (hlo : C.w0.heap.size ≤ b5) (hbl : Below C.w0.heap.size W W') : R30 C (L.setIfInBounds 6 true) W' v5 v6 v18 v19 v20 v21 := by
  have hk : ∀ j, j ≠ 6 → (L.setIfInBounds 6 true).getD j false = L.getD j false := fun j hj => by rw [getD_set (by omega)]; simp [hj]
  have k0 := hk 0 (by omega)
  have k1 := hk 1 (by omega)
  have k2 := hk 2 (by omega)
  have k3 := hk 3 (by omega)
  have k4 := hk 4 (by omega)
  have k5 := hk 5 (by omega)
  have k7 := hk 7 (by omega)
  have k6 : (L.setIfInBounds 6 true).getD 6 false = true := by rw [getD_set (by omega)]; simp
  have hc0 : W.cell? ⟨b5, 0, none⟩ = some (.slice none 0 0) := by simp [World.cell?, hz, bz]
  refine ⟨h.bel.trans hbl, ?_, ?_, ?_, ?_, ?_, ?_, ?_, ?_, ?_⟩ <;> try simp only [k0, k1, k2, k3, k4, k5, k6, k7]
  · exact h.f0
  · exact fun l => (h.f1 l).set hc0 hkp
  · exact h.f2
  · exact fun l => (h.f3 l).set hc0 hkp
  · exact fun _ => ⟨b5, h5, hlo, .inr ⟨rfl, x0, x1, x2, h19, hs⟩⟩
  · exact fun l => Bx.off (h.f5 l) hkp (fun e => h.ne l4 l (h5.trans e.symm))
  · exact h.ne
  · exact fun _ => ⟨l4, l5, l1⟩
  · exact h.g7
theorem R30.s7 {C : X30} {L : Array Bool} {W W' : World} {b5 : Nat} {x0 x1 x2 v5 v6 v18 v19 v20 v21 : Value} (h : R30 C L W v5 v6 v18 v19 v20 v21) (hL : L.size = 8) (h5 : v6 = .pointer (some ⟨b5, 0, none⟩)) (h19 : v21 = .agg #[x0, x1, x2]) (l4 : L.getD 4 false = true) (l5 : L.getD 5 false = true) (l1 : L.getD 3 false = true)
    (hz : W.heap[b5]? = some bz) (hs : W'.heap[b5]? = some (.cells #[x0, x1, x2] 66 (0, 0))) (hkp : Keeps (· = b5) W W') (hlo : C.w0.heap.size ≤ b5) (hbl : Below C.w0.heap.size W W') : R30 C (L.setIfInBounds 7 true) W' v5 v6 v18 v19 v20 v21 := by
  have hk : ∀ j, j ≠ 7 → (L.setIfInBounds 7 true).getD j false = L.getD j false := fun j hj => by rw [getD_set (by omega)]; simp [hj]
  have k0 := hk 0 (by omega)
  have k1 := hk 1 (by omega)
  have k2 := hk 2 (by omega)
  have k3 := hk 3 (by omega)
  have k4 := hk 4 (by omega)
  have k5 := hk 5 (by omega)
  have k6 := hk 6 (by omega)
  have k7 : (L.setIfInBounds 7 true).getD 7 false = true := by rw [getD_set (by omega)]; simp
  have hc0 : W.cell? ⟨b5, 0, none⟩ = some (.slice none 0 0) := by simp [World.cell?, hz, bz]
  refine ⟨h.bel.trans hbl, ?_, ?_, ?_, ?_, ?_, ?_, ?_, ?_, ?_⟩ <;> try simp only [k0, k1, k2, k3, k4, k5, k6, k7]
  · exact h.f0
  · exact fun l => (h.f1 l).set hc0 hkp
  · exact h.f2
  · exact fun l => (h.f3 l).set hc0 hkp
  · exact fun l => Bx.off (h.f4 l) hkp (fun e => h.ne l l5 (e.trans h5.symm))
  · exact fun _ => ⟨b5, h5, hlo, .inr ⟨rfl, x0, x1, x2, h19, hs⟩⟩
  · exact h.ne
  · exact h.g6
  · exact fun _ => ⟨l4, l5, l1⟩
end Go.Proofs.Ytjijfgkmjachnaa
