import Derived.Test.YtjijfgkmjachnaaT10
namespace Go.Proofs.Ytjijfgkmjachnaa
set_option linter.unusedVariables false
set_option linter.unusedSimpArgs false
open Go.RowKit

theorem getD_set {L : Array Bool} {i : Nat} (hi : i < L.size) (j : Nat) : (L.setIfInBounds i true).getD j false = (decide (j = i) || L.getD j false) := by
  simp only [Array.getD_eq_getD_getElem?, Array.getElem?_setIfInBounds]
  by_cases h : i = j
  · subst h; simp [hi]
  · rw [if_neg h]; simp [show ¬ j = i from fun e => h e.symm]
theorem put_get {a : Act} {d : Nat} (hd : d < a.tmps.size) (v : Value) (k : Nat) : (a.put (some d) v).tmps.getD k undef = if k = d then v else a.tmps.getD k undef := by
  simp only [Act.put, Array.getD_eq_getD_getElem?, Array.getElem?_setIfInBounds]
  by_cases h : d = k
  · subst h; simp [hd]
  · rw [if_neg h, if_neg (fun e => h e.symm)]

/-- the frame at the three appends -/
structure Ctx where
  (B bn bf bw b4 : Nat)
  (zs : List Ent)
  (t : Nd)
  (first me mm : Nat)
  (vL vF vN : Value)
  (A : Option Addr)
  (c : Nat)
  (W0 : World)
def Ctx.ent (C : Ctx) : Ent := (C.t, C.first, C.me)
def Ctx.xs (C : Ctx) (b : Bool) : List Ent := if b then C.zs ++ [C.ent] else C.zs

def slots (C : Ctx) (cL cF cN : Value) : List (Nat × Nat × Value) :=
  [(0, 26, .pointer (some ⟨C.bf, 0, none⟩)), (1, 27, C.vL), (2, 28, .pointer (some ⟨C.b4, 0, none⟩)), (3, 29, .int .i64 C.t.kind), (4, 30, .pointer (some ⟨C.b4, 1, none⟩)), (5, 31, .string C.t.text),
   (6, 32, .agg #[.int .i64 C.t.kind, .string C.t.text]), (8, 34, cL), (9, 35, .pointer (some ⟨C.bf, 1, none⟩)), (10, 36, C.vF), (11, 37, .int .i64 (C.first : Nat)), (13, 39, cF), (14, 40, .pointer (some ⟨C.bf, 2, none⟩)), (15, 41, C.vN),
   (16, 42, .int .i64 (C.me : Nat)), (18, 44, cN), (19, 45, .pointer (some ⟨C.bf, 0, none⟩)), (21, 46, .pointer (some ⟨C.bf, 1, none⟩)), (23, 47, .pointer (some ⟨C.bf, 2, none⟩))]
def base8 (C : Ctx) : List (Nat × Value) := [(2, .pointer (some ⟨C.bf, 0, none⟩)), (4, .pointer (some ⟨C.b4, 0, none⟩)), (5, .int .i64 (C.me : Nat)), (6, .int .i64 (C.first : Nat))]

/-- what must have been done before the stores -/
def Od (L : Array Bool) : Prop := (L.getD 20 false = true → L.getD 1 false = true ∧ L.getD 8 false = true) ∧ (L.getD 22 false = true → L.getD 10 false = true ∧ L.getD 13 false = true) ∧ (L.getD 24 false = true → L.getD 15 false = true ∧ L.getD 18 false = true)
theorem set_up {L : Array Bool} {i j : Nat} (hi : i < L.size) (h : L.getD j false = true) : (L.setIfInBounds i true).getD j false = true := by rw [getD_set hi, h]; simp
theorem Od.keep {L : Array Bool} {i : Nat} (h : Od L) (hi : i < L.size) (h1 : i ≠ 20) (h2 : i ≠ 22) (h3 : i ≠ 24) : Od (L.setIfInBounds i true) := by
  refine ⟨fun e => ?_, fun e => ?_, fun e => ?_⟩
  · rw [getD_set hi] at e; have := h.1 (by simpa [h1.symm] using e); exact ⟨set_up hi this.1, set_up hi this.2⟩
  · rw [getD_set hi] at e; have := h.2.1 (by simpa [h2.symm] using e); exact ⟨set_up hi this.1, set_up hi this.2⟩
  · rw [getD_set hi] at e; have := h.2.2 (by simpa [h3.symm] using e); exact ⟨set_up hi this.1, set_up hi this.2⟩
structure R8 (C : Ctx) (cL cF cN : Value) (L : Array Bool) (a : Act) (W : World) : Prop where
  sz : a.tmps.size = 48
  df : a.defers = []
  bs : ∀ x ∈ base8 C, a.tmps.getD x.1 undef = x.2
  sl : ∀ x ∈ slots C cL cF cN, L.getD x.1 false = true → a.tmps.getD x.2.1 undef = x.2.2
  b1 : L.getD 7 false = true → L.getD 8 false = false → ∃ g, a.tmps.getD 33 undef = .slice (some ⟨g, 0, none⟩) 1 1 ∧ W.heap[g]? = some (.cells #[.int .i64 C.t.kind, .string C.t.text] 70 (0, 0))
  b2 : L.getD 12 false = true → L.getD 13 false = false → ∃ g, a.tmps.getD 38 undef = .slice (some ⟨g, 0, none⟩) 1 1 ∧ W.heap[g]? = some (.cells #[.int .i64 (C.first : Nat)] 3 (0, 0)) ∧ g ≠ C.bn ∧ cF.ownBlock ≠ some g ∧ cN.ownBlock ≠ some g
  b3 : L.getD 17 false = true → L.getD 18 false = false → ∃ g, a.tmps.getD 43 undef = .slice (some ⟨g, 0, none⟩) 1 1 ∧ W.heap[g]? = some (.cells #[.int .i64 (C.me : Nat)] 3 (0, 0)) ∧ g ≠ C.bn ∧ cF.ownBlock ≠ some g ∧ cN.ownBlock ≠ some g
  vL : L.getD 8 false = false → cL = C.vL
  vF : L.getD 13 false = false → cF = C.vF
  vN : L.getD 18 false = false → cN = C.vN
  num : W.heap[C.bn]? = some (.cells #[.int .i64 (C.mm : Nat)] 3 (0, 0))
  fbx : W.heap[C.bf]? = some (.cells #[if L.getD 20 false then cL else C.vL, if L.getD 22 false then cF else C.vF, if L.getD 24 false then cN else C.vN] 66 (0, 0))
  wbx : W.heap[C.bw]? = some (.cells #[walkV C.bn C.bf C.bw] 80 (0, 0))
  nbx : W.heap[C.b4]? = some (.cells #[.int .i64 C.t.kind, .string C.t.text, .int .i64 C.t.pos, .int .i64 C.t.fin, .slice C.A C.t.kids.length C.c] 24 (0, 0))
  oL : W.ownsRow C.B 70 2 cL (C.xs (L.getD 8 false)).length (labC (C.xs (L.getD 8 false)))
  oF : W.ownsRow C.B 3 1 cF (C.xs (L.getD 13 false)).length (lefC (C.xs (L.getD 13 false)))
  oN : W.ownsRow C.B 3 1 cN (C.xs (L.getD 18 false)).length (numC (C.xs (L.getD 18 false)))
  ne : cF.ownBlock = none ∨ cF.ownBlock ≠ cN.ownBlock
  nF : cF.ownBlock ≠ some C.bn
  nN : cN.ownBlock ≠ some C.bn
  od : Od L
  kp : Keeps (fun b => b = C.bf ∨ rb C.vL C.vF C.vN b) C.W0 W
  fr : ∀ b, rb cL cF cN b → rb C.vL C.vF C.vN b ∨ C.W0.heap.size ≤ b

def Inv8 (C : Ctx) (L : Array Bool) (a : Act) (W : World) : Prop := ∃ cL cF cN, R8 C cL cF cN L a W

/-- an operation that only computes -/
theorem R8.pure {C : Ctx} {cL cF cN : Value} {L : Array Bool} {a : Act} {W : World} (h : R8 C cL cF cN L a W) (hL : L.size = 25) {i d : Nat} {v : Value} (hi : i < 25) (hd : d < 48)
    (hv : ∀ x ∈ slots C cL cF cN, (x.1 = i ∧ x.2.1 = d ∧ x.2.2 = v) ∨ (x.1 ≠ i ∧ x.2.1 ≠ d)) (hn : ∀ j ∈ [7, 8, 12, 13, 17, 18, 20, 22, 24], j ≠ i) (hm : ∀ k ∈ [2, 4, 5, 6, 33, 38, 43], k ≠ d) : Inv8 C (L.setIfInBounds i true) (a.put (some d) v) W := by
  have hk : ∀ j ∈ [7, 8, 12, 13, 17, 18, 20, 22, 24], (L.setIfInBounds i true).getD j false = L.getD j false := fun j hj => by rw [getD_set (by omega)]; simp [hn j hj]
  have hp : ∀ k, k ≠ d → (a.put (some d) v).tmps.getD k undef = a.tmps.getD k undef := fun k hk => by rw [put_get (by rw [h.sz]; exact hd), if_neg hk]
  have k7 := hk 7 (by simp); have k8 := hk 8 (by simp); have k12 := hk 12 (by simp); have k13 := hk 13 (by simp); have k17 := hk 17 (by simp); have k18 := hk 18 (by simp); have k20 := hk 20 (by simp); have k22 := hk 22 (by simp); have k24 := hk 24 (by simp)
  have p33 := hp 33 (hm 33 (by simp)); have p38 := hp 38 (hm 38 (by simp)); have p43 := hp 43 (hm 43 (by simp))
  refine ⟨cL, cF, cN, ⟨by simp [Act.put, h.sz], h.df, fun x hx => ?_, fun x hx hl => ?_, by rw [k7, k8, p33]; exact h.b1, by rw [k12, k13, p38]; exact h.b2, by rw [k17, k18, p43]; exact h.b3, by rw [k8]; exact h.vL, by rw [k13]; exact h.vF, by rw [k18]; exact h.vN,
    h.num, by rw [k20, k22, k24]; exact h.fbx, h.wbx, h.nbx, by rw [k8]; exact h.oL, by rw [k13]; exact h.oF, by rw [k18]; exact h.oN, h.ne, h.nF, h.nN, h.od.keep (by omega) (fun e => hn 20 (by simp) e.symm) (fun e => hn 22 (by simp) e.symm) (fun e => hn 24 (by simp) e.symm), h.kp, h.fr⟩⟩
  · rw [hp _ (by
      have : x.1 ∈ [2, 4, 5, 6] := by simp [base8] at hx; rcases hx with rfl | rfl | rfl | rfl <;> simp
      exact hm _ (by simp at this ⊢; omega))]
    exact h.bs x hx
  · rcases hv x hx with ⟨h1, h2, h3⟩ | ⟨h1, h2⟩
    · rw [put_get (by rw [h.sz]; exact hd), if_pos h2]; exact h3.symm
    · rw [hp _ h2]
      rw [getD_set (by omega)] at hl
      exact h.sl x hx (by simpa [h1] using hl)

theorem own_len {w : World} {base : Nat} {e : TypeId} {size n : Nat} {v : Value} {xs : List Value} (h : w.ownsRow base e size v n xs) : n ≤ 9223372036854775807 := by
  rcases h.2 with ⟨_, rfl⟩ | ⟨g, cap, cur, _, _, _, h1, h2, _⟩
  · omega
  · unfold maxLen at h2; omega
theorem hlt {w : World} {b : Nat} {o : Obj} (h : w.heap[b]? = some o) : b < w.heap.size := (Array.getElem?_eq_some_iff.1 h).1
theorem own_size {w : World} {base : Nat} {e : TypeId} {size n : Nat} {v : Value} {xs : List Value} (h : w.ownsRow base e size v n xs) : v.ownBlock ≠ some w.heap.size := fun hb => by
  obtain ⟨_, cur, hc⟩ := own_block_at h hb
  have := hlt hc; omega

/-- what lies in other blocks than x moves on -/
theorem moveObj {W W' : World} (ox : Option Nat) (hs : ∀ k, k < W.heap.size → some k ≠ ox → W'.heap[k]? = W.heap[k]?)
    {b : Nat} {o : Obj} (hb : W.heap[b]? = some o) (hne : ox ≠ some b) : W'.heap[b]? = some o := (hs b (hlt hb) (fun e => hne e.symm)).trans hb

theorem Inv8.build7 {C : Ctx} {cL cF cN : Value} {L : Array Bool} {a : Act} {W : World} (h : R8 C cL cF cN L a W) (hL : L.size = 25) :
    Inv8 C (L.setIfInBounds 7 true) (a.put (some 33) (.slice (some ⟨W.heap.size, 0, none⟩) 1 1)) (W.alloc (.cells #[.int .i64 C.t.kind, .string C.t.text] 70)) := by
  have hs : ∀ k, k < W.heap.size → some k ≠ none → (W.alloc (.cells #[.int .i64 C.t.kind, .string C.t.text] 70)).heap[k]? = W.heap[k]? := fun k hk _ => Below.heap_alloc _ _ _ hk
  have mv := fun {b : Nat} {o : Obj} (hb : W.heap[b]? = some o) => moveObj (W := W) (W' := W.alloc (.cells #[.int .i64 C.t.kind, .string C.t.text] 70)) none hs hb (by simp)
  have hk : ∀ j, j ≠ 7 → (L.setIfInBounds 7 true).getD j false = L.getD j false := fun j hj => by rw [getD_set (by omega)]; simp [hj]
  have hp : ∀ k, k ≠ 33 → (a.put (some 33) (.slice (some ⟨W.heap.size, 0, none⟩) 1 1)).tmps.getD k undef = a.tmps.getD k undef := fun k hk => by rw [put_get (by rw [h.sz]; omega), if_neg hk]
  have k8 := hk 8 (by omega); have k12 := hk 12 (by omega); have k13 := hk 13 (by omega); have k17 := hk 17 (by omega); have k18 := hk 18 (by omega); have k20 := hk 20 (by omega); have k22 := hk 22 (by omega); have k24 := hk 24 (by omega)
  refine ⟨cL, cF, cN, ⟨by simp [Act.put, h.sz], h.df, fun x hx => ?_, fun x hx hl => ?_, fun _ _ => ⟨_, by rw [put_get (by rw [h.sz]; omega), if_pos rfl], heap_alloc_new W _⟩, ?_, ?_, by rw [k8]; exact h.vL, by rw [k13]; exact h.vF, by rw [k18]; exact h.vN,
    mv h.num, by rw [k20, k22, k24]; exact mv h.fbx, mv h.wbx, mv h.nbx, by rw [k8]; exact h.oL.alloc _, by rw [k13]; exact h.oF.alloc _, by rw [k18]; exact h.oN.alloc _, h.ne, h.nF, h.nN, h.od.keep (by omega) (by omega) (by omega) (by omega), h.kp.alloc _, h.fr⟩⟩
  · have : x.1 ≠ 33 := by simp [base8] at hx; rcases hx with rfl | rfl | rfl | rfl <;> simp
    rw [hp _ this]; exact h.bs x hx
  · have : x.1 ≠ 7 ∧ x.2.1 ≠ 33 := by simp [slots] at hx; rcases hx with rfl | rfl | rfl | rfl | rfl | rfl | rfl | rfl | rfl | rfl | rfl | rfl | rfl | rfl | rfl | rfl | rfl | rfl | rfl <;> simp
    rw [hp _ this.2]; rw [hk _ this.1] at hl; exact h.sl x hx hl
  · rw [k12, k13, hp 38 (by omega)]; intro h1 h2; obtain ⟨g, h3, h4, h5⟩ := h.b2 h1 h2; exact ⟨g, h3, mv h4, h5⟩
  · rw [k17, k18, hp 43 (by omega)]; intro h1 h2; obtain ⟨g, h3, h4, h5⟩ := h.b3 h1 h2; exact ⟨g, h3, mv h4, h5⟩

theorem Inv8.build12 {C : Ctx} {cL cF cN : Value} {L : Array Bool} {a : Act} {W : World} (h : R8 C cL cF cN L a W) (hL : L.size = 25) :
    Inv8 C (L.setIfInBounds 12 true) (a.put (some 38) (.slice (some ⟨W.heap.size, 0, none⟩) 1 1)) (W.alloc (.cells #[.int .i64 (C.first : Nat)] 3)) := by
  have hs : ∀ k, k < W.heap.size → some k ≠ none → (W.alloc (.cells #[.int .i64 (C.first : Nat)] 3)).heap[k]? = W.heap[k]? := fun k hk _ => Below.heap_alloc _ _ _ hk
  have mv := fun {b : Nat} {o : Obj} (hb : W.heap[b]? = some o) => moveObj (W := W) (W' := W.alloc (.cells #[.int .i64 (C.first : Nat)] 3)) none hs hb (by simp)
  have hk : ∀ j, j ≠ 12 → (L.setIfInBounds 12 true).getD j false = L.getD j false := fun j hj => by rw [getD_set (by omega)]; simp [hj]
  have hp : ∀ k, k ≠ 38 → (a.put (some 38) (.slice (some ⟨W.heap.size, 0, none⟩) 1 1)).tmps.getD k undef = a.tmps.getD k undef := fun k hk => by rw [put_get (by rw [h.sz]; omega), if_neg hk]
  have k7 := hk 7 (by omega); have k8 := hk 8 (by omega); have k13 := hk 13 (by omega); have k17 := hk 17 (by omega); have k18 := hk 18 (by omega); have k20 := hk 20 (by omega); have k22 := hk 22 (by omega); have k24 := hk 24 (by omega)
  refine ⟨cL, cF, cN, ⟨by simp [Act.put, h.sz], h.df, fun x hx => ?_, fun x hx hl => ?_, ?_, fun _ _ => ⟨_, by rw [put_get (by rw [h.sz]; omega), if_pos rfl], heap_alloc_new W _, fun e => by have := hlt h.num; omega, own_size h.oF, own_size h.oN⟩, ?_, by rw [k8]; exact h.vL, by rw [k13]; exact h.vF, by rw [k18]; exact h.vN,
    mv h.num, by rw [k20, k22, k24]; exact mv h.fbx, mv h.wbx, mv h.nbx, by rw [k8]; exact h.oL.alloc _, by rw [k13]; exact h.oF.alloc _, by rw [k18]; exact h.oN.alloc _, h.ne, h.nF, h.nN, h.od.keep (by omega) (by omega) (by omega) (by omega), h.kp.alloc _, h.fr⟩⟩
  · have : x.1 ≠ 38 := by simp [base8] at hx; rcases hx with rfl | rfl | rfl | rfl <;> simp
    rw [hp _ this]; exact h.bs x hx
  · have : x.1 ≠ 12 ∧ x.2.1 ≠ 38 := by simp [slots] at hx; rcases hx with rfl | rfl | rfl | rfl | rfl | rfl | rfl | rfl | rfl | rfl | rfl | rfl | rfl | rfl | rfl | rfl | rfl | rfl | rfl <;> simp
    rw [hp _ this.2]; rw [hk _ this.1] at hl; exact h.sl x hx hl
  · rw [k7, k8, hp 33 (by omega)]; intro h1 h2; obtain ⟨g, h3, h4⟩ := h.b1 h1 h2; exact ⟨g, h3, mv h4⟩
  · rw [k17, k18, hp 43 (by omega)]; intro h1 h2; obtain ⟨g, h3, h4, h5⟩ := h.b3 h1 h2; exact ⟨g, h3, mv h4, h5⟩

theorem Inv8.build17 {C : Ctx} {cL cF cN : Value} {L : Array Bool} {a : Act} {W : World} (h : R8 C cL cF cN L a W) (hL : L.size = 25) :
    Inv8 C (L.setIfInBounds 17 true) (a.put (some 43) (.slice (some ⟨W.heap.size, 0, none⟩) 1 1)) (W.alloc (.cells #[.int .i64 (C.me : Nat)] 3)) := by
  have hs : ∀ k, k < W.heap.size → some k ≠ none → (W.alloc (.cells #[.int .i64 (C.me : Nat)] 3)).heap[k]? = W.heap[k]? := fun k hk _ => Below.heap_alloc _ _ _ hk
  have mv := fun {b : Nat} {o : Obj} (hb : W.heap[b]? = some o) => moveObj (W := W) (W' := W.alloc (.cells #[.int .i64 (C.me : Nat)] 3)) none hs hb (by simp)
  have hk : ∀ j, j ≠ 17 → (L.setIfInBounds 17 true).getD j false = L.getD j false := fun j hj => by rw [getD_set (by omega)]; simp [hj]
  have hp : ∀ k, k ≠ 43 → (a.put (some 43) (.slice (some ⟨W.heap.size, 0, none⟩) 1 1)).tmps.getD k undef = a.tmps.getD k undef := fun k hk => by rw [put_get (by rw [h.sz]; omega), if_neg hk]
  have k7 := hk 7 (by omega); have k8 := hk 8 (by omega); have k12 := hk 12 (by omega); have k13 := hk 13 (by omega); have k18 := hk 18 (by omega); have k20 := hk 20 (by omega); have k22 := hk 22 (by omega); have k24 := hk 24 (by omega)
  refine ⟨cL, cF, cN, ⟨by simp [Act.put, h.sz], h.df, fun x hx => ?_, fun x hx hl => ?_, ?_, ?_, fun _ _ => ⟨_, by rw [put_get (by rw [h.sz]; omega), if_pos rfl], heap_alloc_new W _, fun e => by have := hlt h.num; omega, own_size h.oF, own_size h.oN⟩, by rw [k8]; exact h.vL, by rw [k13]; exact h.vF, by rw [k18]; exact h.vN,
    mv h.num, by rw [k20, k22, k24]; exact mv h.fbx, mv h.wbx, mv h.nbx, by rw [k8]; exact h.oL.alloc _, by rw [k13]; exact h.oF.alloc _, by rw [k18]; exact h.oN.alloc _, h.ne, h.nF, h.nN, h.od.keep (by omega) (by omega) (by omega) (by omega), h.kp.alloc _, h.fr⟩⟩
  · have : x.1 ≠ 43 := by simp [base8] at hx; rcases hx with rfl | rfl | rfl | rfl <;> simp
    rw [hp _ this]; exact h.bs x hx
  · have : x.1 ≠ 17 ∧ x.2.1 ≠ 43 := by simp [slots] at hx; rcases hx with rfl | rfl | rfl | rfl | rfl | rfl | rfl | rfl | rfl | rfl | rfl | rfl | rfl | rfl | rfl | rfl | rfl | rfl | rfl <;> simp
    rw [hp _ this.2]; rw [hk _ this.1] at hl; exact h.sl x hx hl
  · rw [k7, k8, hp 33 (by omega)]; intro h1 h2; obtain ⟨g, h3, h4⟩ := h.b1 h1 h2; exact ⟨g, h3, mv h4⟩
  · rw [k12, k13, hp 38 (by omega)]; intro h1 h2; obtain ⟨g, h3, h4, h5⟩ := h.b2 h1 h2; exact ⟨g, h3, mv h4, h5⟩

theorem Inv8.store20 {C : Ctx} {cL cF cN : Value} {L : Array Bool} {a : Act} {W : World} (h : R8 C cL cF cN L a W) (hL : L.size = 25) (ha : L.getD 1 false = true) (hb : L.getD 8 false = true) :
    Inv8 C (L.setIfInBounds 20 true) a (W.setCell ⟨C.bf, 0, none⟩ cL) := by
  have hs : ∀ k, k < W.heap.size → some k ≠ some C.bf → (W.setCell ⟨C.bf, 0, none⟩ cL).heap[k]? = W.heap[k]? := fun k hk hne => Below.heap_setCell _ _ _ _ (by intro e; exact hne (by rw [e]))
  have mv := fun {b : Nat} {o : Obj} (hb : W.heap[b]? = some o) (hne : C.bf ≠ b) => moveObj (W := W) (W' := W.setCell ⟨C.bf, 0, none⟩ cL) (some C.bf) hs hb (fun e => hne (Option.some.inj e))
  have hk : ∀ j, j ≠ 20 → (L.setIfInBounds 20 true).getD j false = L.getD j false := fun j hj => by rw [getD_set (by omega)]; simp [hj]
  have k20 : (L.setIfInBounds 20 true).getD 20 false = true := by rw [getD_set (by omega)]; simp
  have k7 := hk 7 (by omega); have k8 := hk 8 (by omega); have k12 := hk 12 (by omega); have k13 := hk 13 (by omega); have k17 := hk 17 (by omega); have k18 := hk 18 (by omega); have k22 := hk 22 (by omega); have k24 := hk 24 (by omega)
  have hne : ∀ {e size n : Nat} {v : Value} {xs : List Value}, W.ownsRow C.B e size v n xs → e ≠ 66 → ∀ k, v.ownBlock = some k → (W.setCell ⟨C.bf, 0, none⟩ cL).heap[k]? = W.heap[k]? := fun ho he k hk => by
    obtain ⟨_, cur, hc⟩ := own_block_at ho hk
    exact Below.heap_setCell _ _ _ _ (heap_ne_type hc h.fbx he)
  refine ⟨cL, cF, cN, ⟨h.sz, h.df, h.bs, fun x hx hl => ?_, ?_, ?_, ?_, by rw [k8]; exact h.vL, by rw [k13]; exact h.vF, by rw [k18]; exact h.vN,
    mv h.num (heap_ne_type h.fbx h.num (by decide)), ?_, mv h.wbx (heap_ne_type h.fbx h.wbx (by decide)), mv h.nbx (heap_ne_type h.fbx h.nbx (by decide)), by rw [k8]; exact own_move h.oL (hne h.oL (by decide)), by rw [k13]; exact own_move h.oF (hne h.oF (by decide)), by rw [k18]; exact own_move h.oN (hne h.oN (by decide)), h.ne, h.nF, h.nN, ⟨(fun _ => ⟨set_up (by omega) ha, set_up (by omega) hb⟩), (fun e => by rw [k22] at e; exact ⟨set_up (by omega) (h.od.2.1 e).1, set_up (by omega) (h.od.2.1 e).2⟩), (fun e => by rw [k24] at e; exact ⟨set_up (by omega) (h.od.2.2 e).1, set_up (by omega) (h.od.2.2 e).2⟩)⟩, h.kp.setCell (p := ⟨C.bf, 0, none⟩) (.inl (.inl rfl)) _, h.fr⟩⟩
  · have : x.1 ≠ 20 := by simp [slots] at hx; rcases hx with rfl | rfl | rfl | rfl | rfl | rfl | rfl | rfl | rfl | rfl | rfl | rfl | rfl | rfl | rfl | rfl | rfl | rfl | rfl <;> simp
    rw [hk _ this] at hl; exact h.sl x hx hl
  · rw [k7, k8]; intro h1 h2; obtain ⟨g, h3, h4⟩ := h.b1 h1 h2; exact ⟨g, h3, mv h4 (heap_ne_type h.fbx h4 (by decide))⟩
  · rw [k12, k13]; intro h1 h2; obtain ⟨g, h3, h4, h5⟩ := h.b2 h1 h2; exact ⟨g, h3, mv h4 (heap_ne_type h.fbx h4 (by decide)), h5⟩
  · rw [k17, k18]; intro h1 h2; obtain ⟨g, h3, h4, h5⟩ := h.b3 h1 h2; exact ⟨g, h3, mv h4 (heap_ne_type h.fbx h4 (by decide)), h5⟩
  · rw [k20, k22, k24]; simp [World.setCell, Array.getElem?_modify, h.fbx]

theorem Inv8.store22 {C : Ctx} {cL cF cN : Value} {L : Array Bool} {a : Act} {W : World} (h : R8 C cL cF cN L a W) (hL : L.size = 25) (ha : L.getD 10 false = true) (hb : L.getD 13 false = true) :
    Inv8 C (L.setIfInBounds 22 true) a (W.setCell ⟨C.bf, 1, none⟩ cF) := by
  have hs : ∀ k, k < W.heap.size → some k ≠ some C.bf → (W.setCell ⟨C.bf, 1, none⟩ cF).heap[k]? = W.heap[k]? := fun k hk hne => Below.heap_setCell _ _ _ _ (by intro e; exact hne (by rw [e]))
  have mv := fun {b : Nat} {o : Obj} (hb : W.heap[b]? = some o) (hne : C.bf ≠ b) => moveObj (W := W) (W' := W.setCell ⟨C.bf, 1, none⟩ cF) (some C.bf) hs hb (fun e => hne (Option.some.inj e))
  have hk : ∀ j, j ≠ 22 → (L.setIfInBounds 22 true).getD j false = L.getD j false := fun j hj => by rw [getD_set (by omega)]; simp [hj]
  have k22 : (L.setIfInBounds 22 true).getD 22 false = true := by rw [getD_set (by omega)]; simp
  have k7 := hk 7 (by omega); have k8 := hk 8 (by omega); have k12 := hk 12 (by omega); have k13 := hk 13 (by omega); have k17 := hk 17 (by omega); have k18 := hk 18 (by omega); have k20 := hk 20 (by omega); have k24 := hk 24 (by omega)
  have hne : ∀ {e size n : Nat} {v : Value} {xs : List Value}, W.ownsRow C.B e size v n xs → e ≠ 66 → ∀ k, v.ownBlock = some k → (W.setCell ⟨C.bf, 1, none⟩ cF).heap[k]? = W.heap[k]? := fun ho he k hk => by
    obtain ⟨_, cur, hc⟩ := own_block_at ho hk
    exact Below.heap_setCell _ _ _ _ (heap_ne_type hc h.fbx he)
  refine ⟨cL, cF, cN, ⟨h.sz, h.df, h.bs, fun x hx hl => ?_, ?_, ?_, ?_, by rw [k8]; exact h.vL, by rw [k13]; exact h.vF, by rw [k18]; exact h.vN,
    mv h.num (heap_ne_type h.fbx h.num (by decide)), ?_, mv h.wbx (heap_ne_type h.fbx h.wbx (by decide)), mv h.nbx (heap_ne_type h.fbx h.nbx (by decide)), by rw [k8]; exact own_move h.oL (hne h.oL (by decide)), by rw [k13]; exact own_move h.oF (hne h.oF (by decide)), by rw [k18]; exact own_move h.oN (hne h.oN (by decide)), h.ne, h.nF, h.nN, ⟨(fun e => by rw [k20] at e; exact ⟨set_up (by omega) (h.od.1 e).1, set_up (by omega) (h.od.1 e).2⟩), (fun _ => ⟨set_up (by omega) ha, set_up (by omega) hb⟩), (fun e => by rw [k24] at e; exact ⟨set_up (by omega) (h.od.2.2 e).1, set_up (by omega) (h.od.2.2 e).2⟩)⟩, h.kp.setCell (p := ⟨C.bf, 1, none⟩) (.inl (.inl rfl)) _, h.fr⟩⟩
  · have : x.1 ≠ 22 := by simp [slots] at hx; rcases hx with rfl | rfl | rfl | rfl | rfl | rfl | rfl | rfl | rfl | rfl | rfl | rfl | rfl | rfl | rfl | rfl | rfl | rfl | rfl <;> simp
    rw [hk _ this] at hl; exact h.sl x hx hl
  · rw [k7, k8]; intro h1 h2; obtain ⟨g, h3, h4⟩ := h.b1 h1 h2; exact ⟨g, h3, mv h4 (heap_ne_type h.fbx h4 (by decide))⟩
  · rw [k12, k13]; intro h1 h2; obtain ⟨g, h3, h4, h5⟩ := h.b2 h1 h2; exact ⟨g, h3, mv h4 (heap_ne_type h.fbx h4 (by decide)), h5⟩
  · rw [k17, k18]; intro h1 h2; obtain ⟨g, h3, h4, h5⟩ := h.b3 h1 h2; exact ⟨g, h3, mv h4 (heap_ne_type h.fbx h4 (by decide)), h5⟩
  · rw [k20, k22, k24]; simp [World.setCell, Array.getElem?_modify, h.fbx]

theorem Inv8.store24 {C : Ctx} {cL cF cN : Value} {L : Array Bool} {a : Act} {W : World} (h : R8 C cL cF cN L a W) (hL : L.size = 25) (ha : L.getD 15 false = true) (hb : L.getD 18 false = true) :
    Inv8 C (L.setIfInBounds 24 true) a (W.setCell ⟨C.bf, 2, none⟩ cN) := by
  have hs : ∀ k, k < W.heap.size → some k ≠ some C.bf → (W.setCell ⟨C.bf, 2, none⟩ cN).heap[k]? = W.heap[k]? := fun k hk hne => Below.heap_setCell _ _ _ _ (by intro e; exact hne (by rw [e]))
  have mv := fun {b : Nat} {o : Obj} (hb : W.heap[b]? = some o) (hne : C.bf ≠ b) => moveObj (W := W) (W' := W.setCell ⟨C.bf, 2, none⟩ cN) (some C.bf) hs hb (fun e => hne (Option.some.inj e))
  have hk : ∀ j, j ≠ 24 → (L.setIfInBounds 24 true).getD j false = L.getD j false := fun j hj => by rw [getD_set (by omega)]; simp [hj]
  have k24 : (L.setIfInBounds 24 true).getD 24 false = true := by rw [getD_set (by omega)]; simp
  have k7 := hk 7 (by omega); have k8 := hk 8 (by omega); have k12 := hk 12 (by omega); have k13 := hk 13 (by omega); have k17 := hk 17 (by omega); have k18 := hk 18 (by omega); have k20 := hk 20 (by omega); have k22 := hk 22 (by omega)
  have hne : ∀ {e size n : Nat} {v : Value} {xs : List Value}, W.ownsRow C.B e size v n xs → e ≠ 66 → ∀ k, v.ownBlock = some k → (W.setCell ⟨C.bf, 2, none⟩ cN).heap[k]? = W.heap[k]? := fun ho he k hk => by
    obtain ⟨_, cur, hc⟩ := own_block_at ho hk
    exact Below.heap_setCell _ _ _ _ (heap_ne_type hc h.fbx he)
  refine ⟨cL, cF, cN, ⟨h.sz, h.df, h.bs, fun x hx hl => ?_, ?_, ?_, ?_, by rw [k8]; exact h.vL, by rw [k13]; exact h.vF, by rw [k18]; exact h.vN,
    mv h.num (heap_ne_type h.fbx h.num (by decide)), ?_, mv h.wbx (heap_ne_type h.fbx h.wbx (by decide)), mv h.nbx (heap_ne_type h.fbx h.nbx (by decide)), by rw [k8]; exact own_move h.oL (hne h.oL (by decide)), by rw [k13]; exact own_move h.oF (hne h.oF (by decide)), by rw [k18]; exact own_move h.oN (hne h.oN (by decide)), h.ne, h.nF, h.nN, ⟨(fun e => by rw [k20] at e; exact ⟨set_up (by omega) (h.od.1 e).1, set_up (by omega) (h.od.1 e).2⟩), (fun e => by rw [k22] at e; exact ⟨set_up (by omega) (h.od.2.1 e).1, set_up (by omega) (h.od.2.1 e).2⟩), (fun _ => ⟨set_up (by omega) ha, set_up (by omega) hb⟩)⟩, h.kp.setCell (p := ⟨C.bf, 2, none⟩) (.inl (.inl rfl)) _, h.fr⟩⟩
  · have : x.1 ≠ 24 := by simp [slots] at hx; rcases hx with rfl | rfl | rfl | rfl | rfl | rfl | rfl | rfl | rfl | rfl | rfl | rfl | rfl | rfl | rfl | rfl | rfl | rfl | rfl <;> simp
    rw [hk _ this] at hl; exact h.sl x hx hl
  · rw [k7, k8]; intro h1 h2; obtain ⟨g, h3, h4⟩ := h.b1 h1 h2; exact ⟨g, h3, mv h4 (heap_ne_type h.fbx h4 (by decide))⟩
  · rw [k12, k13]; intro h1 h2; obtain ⟨g, h3, h4, h5⟩ := h.b2 h1 h2; exact ⟨g, h3, mv h4 (heap_ne_type h.fbx h4 (by decide)), h5⟩
  · rw [k17, k18]; intro h1 h2; obtain ⟨g, h3, h4, h5⟩ := h.b3 h1 h2; exact ⟨g, h3, mv h4 (heap_ne_type h.fbx h4 (by decide)), h5⟩
  · rw [k20, k22, k24]; simp [World.setCell, Array.getElem?_modify, h.fbx]

theorem labC_append (xs ys : List Ent) : labC (xs ++ ys) = labC xs ++ labC ys := by simp [labC]
theorem Ctx.xs_true (C : Ctx) : C.xs true = C.zs ++ [C.ent] := rfl
theorem Ctx.xs_false (C : Ctx) : C.xs false = C.zs := rfl

theorem Inv8.app8 {C : Ctx} {cL cF cN : Value} {L : Array Bool} {a : Act} {W W1 : World} {g cap : Nat} (h : R8 C cL cF cN L a W) (hL : L.size = 25) (h0 : L.getD 8 false = false) (hst : L.getD 20 false = false)
    (ho : W1.ownsRow C.B 70 2 (.slice (some ⟨g, 0, none⟩) (C.zs.length + 1) cap) (C.zs.length + 1) (labC C.zs ++ [.int .i64 C.t.kind, .string C.t.text])) (hg : W.grownBy W1 cL.ownBlock) (hat : cL.ownBlock = some g ∨ g = W.heap.size) :
    Inv8 C (L.setIfInBounds 8 true) (a.put (some 34) (.slice (some ⟨g, 0, none⟩) (C.zs.length + 1) cap)) W1 := by
  have hs : ∀ k, k < W.heap.size → some k ≠ cL.ownBlock → W1.heap[k]? = W.heap[k]? := fun k hk hn => hg.block k hk hn
  have mv := fun {b : Nat} {o : Obj} (hb : W.heap[b]? = some o) (hne : cL.ownBlock ≠ some b) => moveObj (W := W) (W' := W1) cL.ownBlock hs hb hne
  have hk : ∀ j, j ≠ 8 → (L.setIfInBounds 8 true).getD j false = L.getD j false := fun j hj => by rw [getD_set (by omega)]; simp [hj]
  have kk : (L.setIfInBounds 8 true).getD 8 false = true := by rw [getD_set (by omega)]; simp
  have hp : ∀ k, k ≠ 34 → (a.put (some 34) (.slice (some ⟨g, 0, none⟩) (C.zs.length + 1) cap)).tmps.getD k undef = a.tmps.getD k undef := fun k hk => by rw [put_get (by rw [h.sz]; omega), if_neg hk]
  have k7 := hk 7 (by omega); have k12 := hk 12 (by omega); have k13 := hk 13 (by omega); have k17 := hk 17 (by omega); have k18 := hk 18 (by omega); have k20 := hk 20 (by omega); have k22 := hk 22 (by omega); have k24 := hk 24 (by omega)
  have hcur : cL = C.vL := h.vL h0
  have ty : ∀ {b : Nat} {cs : Array Value} {t' : TypeId} {f : Nat × Nat}, W.heap[b]? = some (.cells cs t' f) → t' ≠ 70 → cL.ownBlock ≠ some b := fun hb ht e => by obtain ⟨_, cur, hc⟩ := own_block_at h.oL e; exact heap_ne_type hc hb ht.symm rfl
  have hgn : ∀ {b : Nat} {o : Obj}, W.heap[b]? = some o → cL.ownBlock ≠ some b → g ≠ b := fun hb hne e => by subst e; rcases hat with h1 | h1; exact hne h1; have := hlt hb; omega
  refine ⟨(.slice (some ⟨g, 0, none⟩) (C.zs.length + 1) cap), cF, cN, ⟨by simp [Act.put, h.sz], h.df, fun x hx => ?bs, fun x hx hl => ?sl, (fun _ e => by rw [kk] at e; cases e), ?b2, ?b3, (fun e => by rw [kk] at e; cases e), by rw [k13]; exact h.vF, by rw [k18]; exact h.vN,
    mv h.num (ty h.num (by decide)), by rw [k20, k22, k24]; have := mv h.fbx (ty h.fbx (by decide)); rw [hst] at this ⊢; exact this, mv h.wbx (ty h.wbx (by decide)), mv h.nbx (ty h.nbx (by decide)), by rw [kk, Ctx.xs_true, List.length_append, labC_append]; simpa [labC, Ctx.ent] using ho, by rw [k13]; exact own_move h.oF (fun k hk => by obtain ⟨_, cur, hc⟩ := own_block_at h.oF hk; rw [hc]; exact mv hc (ty hc (by decide))), by rw [k18]; exact own_move h.oN (fun k hk => by obtain ⟨_, cur, hc⟩ := own_block_at h.oN hk; rw [hc]; exact mv hc (ty hc (by decide))), h.ne, h.nF, h.nN, h.od.keep (by omega) (by omega) (by omega) (by omega), ?kp, fun b hb => ?fr⟩⟩
  case bs =>
    have : x.1 ≠ 34 := by simp [base8] at hx; rcases hx with rfl | rfl | rfl | rfl <;> simp
    rw [hp _ this]; exact h.bs x hx
  case sl =>
    simp only [slots, List.mem_cons, List.not_mem_nil, or_false] at hx
    rcases hx with rfl | rfl | rfl | rfl | rfl | rfl | rfl | rfl | rfl | rfl | rfl | rfl | rfl | rfl | rfl | rfl | rfl | rfl | rfl
    all_goals first
      | (rw [put_get (by rw [h.sz]; omega), if_pos rfl]; done)
      | (rw [hp _ (by simp)]; rw [hk _ (by simp)] at hl; exact h.sl _ (by simp [slots]) hl)
  case b2 => rw [k12, k13, hp 38 (by omega)]; intro h1 h2; obtain ⟨g', h3, h4, h5, h6, h7⟩ := h.b2 h1 h2; exact ⟨g', h3, mv h4 (ty h4 (by decide)), h5, h6, h7⟩
  case b3 => rw [k17, k18, hp 43 (by omega)]; intro h1 h2; obtain ⟨g', h3, h4, h5, h6, h7⟩ := h.b3 h1 h2; exact ⟨g', h3, mv h4 (ty h4 (by decide)), h5, h6, h7⟩
  case kp =>
    have hb2 := h.kp
    refine ⟨hg.os.trans hb2.os, hg.tape.trans hb2.tape, hg.output.trans hb2.output, Nat.le_trans hb2.size hg.size, fun k hk hn => ?_⟩
    rw [hg.block k (Nat.lt_of_lt_of_le hk hb2.size) (fun e => hn (.inr (by rw [hcur] at e; exact .inl e.symm)))]
    exact hb2.block k hk hn
  case fr =>
    rcases hb with hb | hb | hb
    · have e : g = b := by simpa [Value.ownBlock] using hb
      subst e; rcases hat with h1 | h1; exact h.fr g (.inl h1); exact .inr (by have := h.kp.size; omega)
    · exact h.fr b (.inr (.inl hb))
    · exact h.fr b (.inr (.inr hb))

theorem Inv8.app13 {C : Ctx} {cL cF cN : Value} {L : Array Bool} {a : Act} {W W1 : World} {g cap : Nat} (h : R8 C cL cF cN L a W) (hL : L.size = 25) (h0 : L.getD 13 false = false) (hst : L.getD 22 false = false)
    (ho : W1.ownsRow C.B 3 1 (.slice (some ⟨g, 0, none⟩) (C.zs.length + 1) cap) (C.zs.length + 1) (lefC C.zs ++ [.int .i64 (C.first : Nat)])) (hg : W.grownBy W1 cF.ownBlock) (hat : cF.ownBlock = some g ∨ g = W.heap.size) :
    Inv8 C (L.setIfInBounds 13 true) (a.put (some 39) (.slice (some ⟨g, 0, none⟩) (C.zs.length + 1) cap)) W1 := by
  have hs : ∀ k, k < W.heap.size → some k ≠ cF.ownBlock → W1.heap[k]? = W.heap[k]? := fun k hk hn => hg.block k hk hn
  have mv := fun {b : Nat} {o : Obj} (hb : W.heap[b]? = some o) (hne : cF.ownBlock ≠ some b) => moveObj (W := W) (W' := W1) cF.ownBlock hs hb hne
  have hk : ∀ j, j ≠ 13 → (L.setIfInBounds 13 true).getD j false = L.getD j false := fun j hj => by rw [getD_set (by omega)]; simp [hj]
  have kk : (L.setIfInBounds 13 true).getD 13 false = true := by rw [getD_set (by omega)]; simp
  have hp : ∀ k, k ≠ 39 → (a.put (some 39) (.slice (some ⟨g, 0, none⟩) (C.zs.length + 1) cap)).tmps.getD k undef = a.tmps.getD k undef := fun k hk => by rw [put_get (by rw [h.sz]; omega), if_neg hk]
  have k7 := hk 7 (by omega); have k8 := hk 8 (by omega); have k12 := hk 12 (by omega); have k17 := hk 17 (by omega); have k18 := hk 18 (by omega); have k20 := hk 20 (by omega); have k22 := hk 22 (by omega); have k24 := hk 24 (by omega)
  have hcur : cF = C.vF := h.vF h0
  have ty : ∀ {b : Nat} {cs : Array Value} {t' : TypeId} {f : Nat × Nat}, W.heap[b]? = some (.cells cs t' f) → t' ≠ 3 → cF.ownBlock ≠ some b := fun hb ht e => by obtain ⟨_, cur, hc⟩ := own_block_at h.oF e; exact heap_ne_type hc hb ht.symm rfl
  have hgn : ∀ {b : Nat} {o : Obj}, W.heap[b]? = some o → cF.ownBlock ≠ some b → g ≠ b := fun hb hne e => by subst e; rcases hat with h1 | h1; exact hne h1; have := hlt hb; omega
  have ndist : ∀ k, cF.ownBlock = some k → cN.ownBlock ≠ some k := fun k h1 h2 => by rcases h.ne with h3 | h3; rw [h3] at h1; cases h1; exact h3 (h1.trans h2.symm)
  refine ⟨cL, (.slice (some ⟨g, 0, none⟩) (C.zs.length + 1) cap), cN, ⟨by simp [Act.put, h.sz], h.df, fun x hx => ?bs, fun x hx hl => ?sl, ?b1, (fun _ e => by rw [kk] at e; cases e), ?b3, by rw [k8]; exact h.vL, (fun e => by rw [kk] at e; cases e), by rw [k18]; exact h.vN,
    mv h.num h.nF, by rw [k20, k22, k24]; have := mv h.fbx (ty h.fbx (by decide)); rw [hst] at this ⊢; exact this, mv h.wbx (ty h.wbx (by decide)), mv h.nbx (ty h.nbx (by decide)), by rw [k8]; exact own_move h.oL (fun k hk => by obtain ⟨_, cur, hc⟩ := own_block_at h.oL hk; rw [hc]; exact mv hc (ty hc (by decide))), by rw [kk, Ctx.xs_true, List.length_append]; simpa [lefC, Ctx.ent] using ho, by rw [k18]; exact own_move h.oN (fun k hk => by obtain ⟨_, cur, hc⟩ := own_block_at h.oN hk; rw [hc]; exact mv hc (fun e => ndist _ e hk)), ?ne, fun e => hgn h.num h.nF (by simpa [Value.ownBlock] using e), h.nN, h.od.keep (by omega) (by omega) (by omega) (by omega), ?kp, fun b hb => ?fr⟩⟩
  case bs =>
    have : x.1 ≠ 39 := by simp [base8] at hx; rcases hx with rfl | rfl | rfl | rfl <;> simp
    rw [hp _ this]; exact h.bs x hx
  case sl =>
    simp only [slots, List.mem_cons, List.not_mem_nil, or_false] at hx
    rcases hx with rfl | rfl | rfl | rfl | rfl | rfl | rfl | rfl | rfl | rfl | rfl | rfl | rfl | rfl | rfl | rfl | rfl | rfl | rfl
    all_goals first
      | (rw [put_get (by rw [h.sz]; omega), if_pos rfl]; done)
      | (rw [hp _ (by simp)]; rw [hk _ (by simp)] at hl; exact h.sl _ (by simp [slots]) hl)
  case b1 => rw [k7, k8, hp 33 (by omega)]; intro h1 h2; obtain ⟨g', h3, h4⟩ := h.b1 h1 h2; exact ⟨g', h3, mv h4 (ty h4 (by decide))⟩
  case b3 => rw [k17, k18, hp 43 (by omega)]; intro h1 h2; obtain ⟨g', h3, h4, h5, h6, h7⟩ := h.b3 h1 h2; exact ⟨g', h3, mv h4 h6, h5, fun e => hgn h4 h6 (by simpa [Value.ownBlock] using e), h7⟩
  case ne => refine .inr (fun e => ?_); have e' : cN.ownBlock = some g := by rw [← e]; rfl
             obtain ⟨_, cur, hc⟩ := own_block_at h.oN e'; exact hgn hc (fun e2 => ndist _ e2 e') rfl
  case kp =>
    have hb2 := h.kp
    refine ⟨hg.os.trans hb2.os, hg.tape.trans hb2.tape, hg.output.trans hb2.output, Nat.le_trans hb2.size hg.size, fun k hk hn => ?_⟩
    rw [hg.block k (Nat.lt_of_lt_of_le hk hb2.size) (fun e => hn (.inr (by rw [hcur] at e; exact .inr (.inl e.symm))))]
    exact hb2.block k hk hn
  case fr =>
    rcases hb with hb | hb | hb
    · exact h.fr b (.inl hb)
    · have e : g = b := by simpa [Value.ownBlock] using hb
      subst e; rcases hat with h1 | h1; exact h.fr g (.inr (.inl h1)); exact .inr (by have := h.kp.size; omega)
    · exact h.fr b (.inr (.inr hb))

theorem Inv8.app18 {C : Ctx} {cL cF cN : Value} {L : Array Bool} {a : Act} {W W1 : World} {g cap : Nat} (h : R8 C cL cF cN L a W) (hL : L.size = 25) (h0 : L.getD 18 false = false) (hst : L.getD 24 false = false)
    (ho : W1.ownsRow C.B 3 1 (.slice (some ⟨g, 0, none⟩) (C.zs.length + 1) cap) (C.zs.length + 1) (numC C.zs ++ [.int .i64 (C.me : Nat)])) (hg : W.grownBy W1 cN.ownBlock) (hat : cN.ownBlock = some g ∨ g = W.heap.size) :
    Inv8 C (L.setIfInBounds 18 true) (a.put (some 44) (.slice (some ⟨g, 0, none⟩) (C.zs.length + 1) cap)) W1 := by
  have hs : ∀ k, k < W.heap.size → some k ≠ cN.ownBlock → W1.heap[k]? = W.heap[k]? := fun k hk hn => hg.block k hk hn
  have mv := fun {b : Nat} {o : Obj} (hb : W.heap[b]? = some o) (hne : cN.ownBlock ≠ some b) => moveObj (W := W) (W' := W1) cN.ownBlock hs hb hne
  have hk : ∀ j, j ≠ 18 → (L.setIfInBounds 18 true).getD j false = L.getD j false := fun j hj => by rw [getD_set (by omega)]; simp [hj]
  have kk : (L.setIfInBounds 18 true).getD 18 false = true := by rw [getD_set (by omega)]; simp
  have hp : ∀ k, k ≠ 44 → (a.put (some 44) (.slice (some ⟨g, 0, none⟩) (C.zs.length + 1) cap)).tmps.getD k undef = a.tmps.getD k undef := fun k hk => by rw [put_get (by rw [h.sz]; omega), if_neg hk]
  have k7 := hk 7 (by omega); have k8 := hk 8 (by omega); have k12 := hk 12 (by omega); have k13 := hk 13 (by omega); have k17 := hk 17 (by omega); have k20 := hk 20 (by omega); have k22 := hk 22 (by omega); have k24 := hk 24 (by omega)
  have hcur : cN = C.vN := h.vN h0
  have ty : ∀ {b : Nat} {cs : Array Value} {t' : TypeId} {f : Nat × Nat}, W.heap[b]? = some (.cells cs t' f) → t' ≠ 3 → cN.ownBlock ≠ some b := fun hb ht e => by obtain ⟨_, cur, hc⟩ := own_block_at h.oN e; exact heap_ne_type hc hb ht.symm rfl
  have hgn : ∀ {b : Nat} {o : Obj}, W.heap[b]? = some o → cN.ownBlock ≠ some b → g ≠ b := fun hb hne e => by subst e; rcases hat with h1 | h1; exact hne h1; have := hlt hb; omega
  have ndist : ∀ k, cN.ownBlock = some k → cF.ownBlock ≠ some k := fun k h1 h2 => by rcases h.ne with h3 | h3; rw [h3] at h2; cases h2; exact h3 (h2.trans h1.symm)
  refine ⟨cL, cF, (.slice (some ⟨g, 0, none⟩) (C.zs.length + 1) cap), ⟨by simp [Act.put, h.sz], h.df, fun x hx => ?bs, fun x hx hl => ?sl, ?b1, ?b2, (fun _ e => by rw [kk] at e; cases e), by rw [k8]; exact h.vL, by rw [k13]; exact h.vF, (fun e => by rw [kk] at e; cases e),
    mv h.num h.nN, by rw [k20, k22, k24]; have := mv h.fbx (ty h.fbx (by decide)); rw [hst] at this ⊢; exact this, mv h.wbx (ty h.wbx (by decide)), mv h.nbx (ty h.nbx (by decide)), by rw [k8]; exact own_move h.oL (fun k hk => by obtain ⟨_, cur, hc⟩ := own_block_at h.oL hk; rw [hc]; exact mv hc (ty hc (by decide))), by rw [k13]; exact own_move h.oF (fun k hk => by obtain ⟨_, cur, hc⟩ := own_block_at h.oF hk; rw [hc]; exact mv hc (fun e => ndist _ e hk)), by rw [kk, Ctx.xs_true, List.length_append]; simpa [numC, Ctx.ent] using ho, ?ne, h.nF, fun e => hgn h.num h.nN (by simpa [Value.ownBlock] using e), h.od.keep (by omega) (by omega) (by omega) (by omega), ?kp, fun b hb => ?fr⟩⟩
  case bs =>
    have : x.1 ≠ 44 := by simp [base8] at hx; rcases hx with rfl | rfl | rfl | rfl <;> simp
    rw [hp _ this]; exact h.bs x hx
  case sl =>
    simp only [slots, List.mem_cons, List.not_mem_nil, or_false] at hx
    rcases hx with rfl | rfl | rfl | rfl | rfl | rfl | rfl | rfl | rfl | rfl | rfl | rfl | rfl | rfl | rfl | rfl | rfl | rfl | rfl
    all_goals first
      | (rw [put_get (by rw [h.sz]; omega), if_pos rfl]; done)
      | (rw [hp _ (by simp)]; rw [hk _ (by simp)] at hl; exact h.sl _ (by simp [slots]) hl)
  case b1 => rw [k7, k8, hp 33 (by omega)]; intro h1 h2; obtain ⟨g', h3, h4⟩ := h.b1 h1 h2; exact ⟨g', h3, mv h4 (ty h4 (by decide))⟩
  case b2 => rw [k12, k13, hp 38 (by omega)]; intro h1 h2; obtain ⟨g', h3, h4, h5, h6, h7⟩ := h.b2 h1 h2; exact ⟨g', h3, mv h4 h7, h5, h6, fun e => hgn h4 h7 (by simpa [Value.ownBlock] using e)⟩
  case ne => refine .inr (fun e => ?_); have e' : cF.ownBlock = some g := by rw [e]; rfl
             obtain ⟨_, cur, hc⟩ := own_block_at h.oF e'; exact hgn hc (fun e2 => ndist _ e2 e') rfl
  case kp =>
    have hb2 := h.kp
    refine ⟨hg.os.trans hb2.os, hg.tape.trans hb2.tape, hg.output.trans hb2.output, Nat.le_trans hb2.size hg.size, fun k hk hn => ?_⟩
    rw [hg.block k (Nat.lt_of_lt_of_le hk hb2.size) (fun e => hn (.inr (by rw [hcur] at e; exact .inr (.inr e.symm))))]
    exact hb2.block k hk hn
  case fr =>
    rcases hb with hb | hb | hb
    · exact h.fr b (.inl hb)
    · exact h.fr b (.inr (.inl hb))
    · have e : g = b := by simpa [Value.ownBlock] using hb
      subst e; rcases hat with h1 | h1; exact h.fr g (.inr (.inr h1)); exact .inr (by have := h.kp.size; omega)
end Go.Proofs.Ytjijfgkmjachnaa
