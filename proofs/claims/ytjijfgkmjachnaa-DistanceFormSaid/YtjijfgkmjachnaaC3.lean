/- Seat 37, texts merged: the walk of flatten. Lemmas for the laws of chapter 37; no conditions of their own beyond what each states. -/
import Derived.Test.YtjijfgkmjachnaaC2
import Derived.Deep.AppendLies
import Derived.Orders
import Derived.WalkKit
import Derived.Laws.EntriesVeiled
namespace Go.Proofs.Ytjijfgkmjachnaa
set_option linter.unusedVariables false
set_option linter.unusedSimpArgs false
open Go.RowKit

/-! ### the nodes in postorder: each with the place of its first node and its number -/
mutual
def post : Nd → Nat → Nat → List Ent
  | .mk k x a e kids, f, m => postK kids f (m + 1) ++ [(.mk k x a e kids, f, m)]
def postK : List Nd → Nat → Nat → List Ent
  | [], _, _ => []
  | t :: ts, f, m => post t f m ++ postK ts (f + t.size) (m + t.size)
end
theorem post_eq (t : Nd) (f m : Nat) : post t f m = postK t.kids f (m + 1) ++ [(t, f, m)] := by cases t; simp [post, Nd.kids]
theorem postK_nil (f m : Nat) : postK [] f m = [] := by simp [postK]
theorem postK_cons (t : Nd) (ts : List Nd) (f m : Nat) : postK (t :: ts) f m = post t f m ++ postK ts (f + t.size) (m + t.size) := by simp [postK]
theorem post_len_aux (n : Nat) : (∀ t : Nd, t.size ≤ n → ∀ f m, (post t f m).length = t.size) ∧ (∀ l : List Nd, Nd.sizes l ≤ n → ∀ f m, (postK l f m).length = Nd.sizes l) := by
  induction n with
  | zero =>
    refine ⟨fun t h => by have := t.size_pos; omega, fun l h f m => ?_⟩
    cases l with
    | nil => simp [postK_nil, Nd.sizes_nil]
    | cons t ts => rw [Nd.sizes_cons] at h; have := t.size_pos; omega
  | succ n ih =>
    have h1 : ∀ t : Nd, t.size ≤ n + 1 → ∀ f m, (post t f m).length = t.size := fun t h f m => by
      rw [post_eq, List.length_append, t.size_eq, ih.2 t.kids (by have := t.size_eq; omega)]; simp; omega
    refine ⟨h1, fun l => ?_⟩
    induction l with
    | nil => intro _ f m; simp [postK_nil, Nd.sizes_nil]
    | cons t ts ihl =>
      intro h f m
      rw [Nd.sizes_cons] at h ⊢
      rw [postK_cons, List.length_append, h1 t (by omega), ihl (by omega)]
theorem post_len (t : Nd) (f m : Nat) : (post t f m).length = t.size := (post_len_aux t.size).1 t (Nat.le_refl _) f m
theorem postK_len (l : List Nd) (f m : Nat) : (postK l f m).length = Nd.sizes l := (post_len_aux (Nd.sizes l)).2 l (Nat.le_refl _) f m
theorem postK_append (l k : List Nd) : ∀ f m, postK (l ++ k) f m = postK l f m ++ postK k (f + Nd.sizes l) (m + Nd.sizes l) := by
  induction l with
  | nil => intro f m; simp [postK_nil, Nd.sizes_nil]
  | cons t ts ih => intro f m; rw [List.cons_append, postK_cons, postK_cons, ih, Nd.sizes_cons, List.append_assoc, Nat.add_assoc, Nat.add_assoc]
theorem postK_take_succ (l : List Nd) (k : Nat) (h : k < l.length) (f m : Nat) : postK (l.take (k + 1)) f m = postK (l.take k) f m ++ post (l[k]) (f + Nd.sizes (l.take k)) (m + Nd.sizes (l.take k)) := by
  rw [List.take_succ_eq_append_getElem h, postK_append, postK_cons, postK_nil, List.append_nil]

/-! ### the walk's variables -/
def labC (xs : List Ent) : List Value := xs.flatMap fun e => [.int .i64 e.1.kind, .string e.1.text]
def lefC (xs : List Ent) : List Value := xs.map fun e => .int .i64 (e.2.1 : Nat)
def numC (xs : List Ent) : List Value := xs.map fun e => .int .i64 (e.2.2 : Nat)
def rb (vL vF vN : Value) (b : Nat) : Prop := vL.ownBlock = some b ∨ vF.ownBlock = some b ∨ vN.ownBlock = some b
def walkV (bn bf bw : Nat) : Value := .func (.func 43) #[] #[.pointer (some ⟨bn, 0, none⟩), .pointer (some ⟨bf, 0, none⟩), .pointer (some ⟨bw, 0, none⟩)]
structure St (B : Nat) (W : World) (bn bf bw : Nat) (xs : List Ent) (m : Nat) (vL vF vN : Value) : Prop where
  num : W.heap[bn]? = some (.cells #[.int .i64 (m : Nat)] 3 (0, 0))
  fbx : W.heap[bf]? = some (.cells #[vL, vF, vN] 66 (0, 0))
  wbx : W.heap[bw]? = some (.cells #[walkV bn bf bw] 80 (0, 0))
  oL : W.ownsRow B 70 2 vL xs.length (labC xs)
  oF : W.ownsRow B 3 1 vF xs.length (lefC xs)
  oN : W.ownsRow B 3 1 vN xs.length (numC xs)
  ne : vF.ownBlock = none ∨ vF.ownBlock ≠ vN.ownBlock
  nF : vF.ownBlock ≠ some bn
  nN : vN.ownBlock ≠ some bn
  Bn : B ≤ bn
  Bf : B ≤ bf
  Bw : B ≤ bw

theorem inf70 : (Try.prog.info? 70).map (fun i => (i.zero, i.size, i.bytes)) = some (some (.agg #[.int .i64 0, .string ⟨#[]⟩]), 2, 24) := by kernel_rfl

theorem own_form {w : World} {base : Nat} {e : TypeId} {size n : Nat} {v : Value} {xs : List Value} (h : w.ownsRow base e size v n xs) : ∃ A c, v = .slice A n c ∧ n ≤ c := by
  rcases h.2 with ⟨rfl, rfl⟩ | ⟨g, cap, cur, rfl, _, _, hc, _⟩
  · exact ⟨none, 0, rfl, Nat.le_refl _⟩
  · exact ⟨_, cap, rfl, hc⟩
theorem own_block_at {w : World} {base : Nat} {e : TypeId} {size n : Nat} {v : Value} {xs : List Value} (h : w.ownsRow base e size v n xs) {b : Nat} (hb : v.ownBlock = some b) : base ≤ b ∧ ∃ cur, w.heap[b]? = some (.cells cur e (0, 0)) := by
  rcases h.2 with ⟨rfl, _⟩ | ⟨g, cap, cur, rfl, hg, hh, _⟩
  · simp [Value.ownBlock] at hb
  · have : g = b := by simpa [Value.ownBlock] using hb
    subst this; exact ⟨hg, cur, hh⟩
theorem own_move {w w1 : World} {base : Nat} {e : TypeId} {size n : Nat} {v : Value} {xs : List Value} (h : w.ownsRow base e size v n xs) (hm : ∀ k, v.ownBlock = some k → w1.heap[k]? = w.heap[k]?) : w1.ownsRow base e size v n xs := by
  obtain ⟨h1, h2⟩ := h
  refine ⟨h1, ?_⟩
  rcases h2 with h2 | ⟨g, cap, cur, rfl, hg, hh, r⟩
  · exact .inl h2
  · exact .inr ⟨g, cap, cur, rfl, hg, (hm g (by simp [Value.ownBlock])).trans hh, r⟩
theorem heap_ne_type {w : World} {a b : Nat} {c c' : Array Value} {t t' : TypeId} {f f' : Nat × Nat} (h : w.heap[a]? = some (.cells c t f)) (h' : w.heap[b]? = some (.cells c' t' f')) (ht : t ≠ t') : a ≠ b := by
  rintro rfl; rw [h] at h'; injection h' with h'; injection h' with _ e; exact ht e
end Go.Proofs.Ytjijfgkmjachnaa

namespace Go.Proofs.Ytjijfgkmjachnaa
set_option linter.unusedVariables false
set_option linter.unusedSimpArgs false
open Go.RowKit

theorem getD_set {L : Array Bool} {i : Nat} (hi : i < L.size) (j : Nat) : (L.setIfInBounds i true).getD j false = (decide (j = i) || L.getD j false) := by
  simp only [Array.getD_eq_getD_getElem?, Array.getElem?_setIfInBounds]
  by_cases h : i = j
  · subst h; simp [hi]
  · rw [if_neg h]; simp [show ¬ j = i from fun e => h e.symm]
theorem put_get {a : Act} {d : Nat} (hd : d < a.tmps.size) (v : Value) (k : Nat) : (a.put (some d) v).tmps.getD k undef = if k = d then v else a.tmps.getD k undef := by
  simp only [Act.put, Array.getD_eq_getD_getElem?, Array.getElem?_setIfInBounds]
  by_cases h : d = k
  · subst h; simp [hd]
  · rw [if_neg h, if_neg (fun e => h e.symm)]

/-- the frame at the three appends -/
structure Ctx where
  (B bn bf bw b4 : Nat)
  (zs : List Ent)
  (t : Nd)
  (first me mm : Nat)
  (vL vF vN : Value)
  (A : Option Addr)
  (c : Nat)
  (W0 : World)
def Ctx.ent (C : Ctx) : Ent := (C.t, C.first, C.me)
def Ctx.xs (C : Ctx) (b : Bool) : List Ent := if b then C.zs ++ [C.ent] else C.zs

def slots (C : Ctx) (cL cF cN : Value) : List (Nat × Nat × Value) :=
  [(0, 26, .pointer (some ⟨C.bf, 0, none⟩)), (1, 27, C.vL), (2, 28, .pointer (some ⟨C.b4, 0, none⟩)), (3, 29, .int .i64 C.t.kind), (4, 30, .pointer (some ⟨C.b4, 1, none⟩)), (5, 31, .string C.t.text),
   (6, 32, .agg #[.int .i64 C.t.kind, .string C.t.text]), (8, 34, cL), (9, 35, .pointer (some ⟨C.bf, 1, none⟩)), (10, 36, C.vF), (11, 37, .int .i64 (C.first : Nat)), (13, 39, cF), (14, 40, .pointer (some ⟨C.bf, 2, none⟩)), (15, 41, C.vN),
   (16, 42, .int .i64 (C.me : Nat)), (18, 44, cN), (19, 45, .pointer (some ⟨C.bf, 0, none⟩)), (21, 46, .pointer (some ⟨C.bf, 1, none⟩)), (23, 47, .pointer (some ⟨C.bf, 2, none⟩))]
def base8 (C : Ctx) : List (Nat × Value) := [(2, .pointer (some ⟨C.bf, 0, none⟩)), (4, .pointer (some ⟨C.b4, 0, none⟩)), (5, .int .i64 (C.me : Nat)), (6, .int .i64 (C.first : Nat))]

/-- what must have been done before the stores -/
def Od (L : Array Bool) : Prop := (L.getD 20 false = true → L.getD 1 false = true ∧ L.getD 8 false = true) ∧ (L.getD 22 false = true → L.getD 10 false = true ∧ L.getD 13 false = true) ∧ (L.getD 24 false = true → L.getD 15 false = true ∧ L.getD 18 false = true)
theorem set_up {L : Array Bool} {i j : Nat} (hi : i < L.size) (h : L.getD j false = true) : (L.setIfInBounds i true).getD j false = true := by rw [getD_set hi, h]; simp
theorem Od.keep {L : Array Bool} {i : Nat} (h : Od L) (hi : i < L.size) (h1 : i ≠ 20) (h2 : i ≠ 22) (h3 : i ≠ 24) : Od (L.setIfInBounds i true) := by
  refine ⟨fun e => ?_, fun e => ?_, fun e => ?_⟩
  · rw [getD_set hi] at e; have := h.1 (by simpa [h1.symm] using e); exact ⟨set_up hi this.1, set_up hi this.2⟩
  · rw [getD_set hi] at e; have := h.2.1 (by simpa [h2.symm] using e); exact ⟨set_up hi this.1, set_up hi this.2⟩
  · rw [getD_set hi] at e; have := h.2.2 (by simpa [h3.symm] using e); exact ⟨set_up hi this.1, set_up hi this.2⟩
structure R8 (C : Ctx) (cL cF cN : Value) (L : Array Bool) (a : Act) (W : World) : Prop where
  sz : a.tmps.size = 48
  df : a.defers = []
  bs : ∀ x ∈ base8 C, a.tmps.getD x.1 undef = x.2
  sl : ∀ x ∈ slots C cL cF cN, L.getD x.1 false = true → a.tmps.getD x.2.1 undef = x.2.2
  b1 : L.getD 7 false = true → L.getD 8 false = false → ∃ g, a.tmps.getD 33 undef = .slice (some ⟨g, 0, none⟩) 1 1 ∧ W.heap[g]? = some (.cells #[.int .i64 C.t.kind, .string C.t.text] 70 (0, 0))
  b2 : L.getD 12 false = true → L.getD 13 false = false → ∃ g, a.tmps.getD 38 undef = .slice (some ⟨g, 0, none⟩) 1 1 ∧ W.heap[g]? = some (.cells #[.int .i64 (C.first : Nat)] 3 (0, 0)) ∧ g ≠ C.bn ∧ cF.ownBlock ≠ some g ∧ cN.ownBlock ≠ some g
  b3 : L.getD 17 false = true → L.getD 18 false = false → ∃ g, a.tmps.getD 43 undef = .slice (some ⟨g, 0, none⟩) 1 1 ∧ W.heap[g]? = some (.cells #[.int .i64 (C.me : Nat)] 3 (0, 0)) ∧ g ≠ C.bn ∧ cF.ownBlock ≠ some g ∧ cN.ownBlock ≠ some g
  vL : L.getD 8 false = false → cL = C.vL
  vF : L.getD 13 false = false → cF = C.vF
  vN : L.getD 18 false = false → cN = C.vN
  num : W.heap[C.bn]? = some (.cells #[.int .i64 (C.mm : Nat)] 3 (0, 0))
  fbx : W.heap[C.bf]? = some (.cells #[if L.getD 20 false then cL else C.vL, if L.getD 22 false then cF else C.vF, if L.getD 24 false then cN else C.vN] 66 (0, 0))
  wbx : W.heap[C.bw]? = some (.cells #[walkV C.bn C.bf C.bw] 80 (0, 0))
  nbx : W.heap[C.b4]? = some (.cells #[.int .i64 C.t.kind, .string C.t.text, .int .i64 C.t.pos, .int .i64 C.t.fin, .slice C.A C.t.kids.length C.c] 24 (0, 0))
  oL : W.ownsRow C.B 70 2 cL (C.xs (L.getD 8 false)).length (labC (C.xs (L.getD 8 false)))
  oF : W.ownsRow C.B 3 1 cF (C.xs (L.getD 13 false)).length (lefC (C.xs (L.getD 13 false)))
  oN : W.ownsRow C.B 3 1 cN (C.xs (L.getD 18 false)).length (numC (C.xs (L.getD 18 false)))
  ne : cF.ownBlock = none ∨ cF.ownBlock ≠ cN.ownBlock
  nF : cF.ownBlock ≠ some C.bn
  nN : cN.ownBlock ≠ some C.bn
  od : Od L
  kp : Keeps (fun b => b = C.bf ∨ rb C.vL C.vF C.vN b) C.W0 W
  fr : ∀ b, rb cL cF cN b → rb C.vL C.vF C.vN b ∨ C.W0.heap.size ≤ b

def Inv8 (C : Ctx) (L : Array Bool) (a : Act) (W : World) : Prop := ∃ cL cF cN, R8 C cL cF cN L a W

/-- an operation that only computes -/
theorem R8.pure {C : Ctx} {cL cF cN : Value} {L : Array Bool} {a : Act} {W : World} (h : R8 C cL cF cN L a W) (hL : L.size = 25) {i d : Nat} {v : Value} (hi : i < 25) (hd : d < 48)
    (hv : ∀ x ∈ slots C cL cF cN, (x.1 = i ∧ x.2.1 = d ∧ x.2.2 = v) ∨ (x.1 ≠ i ∧ x.2.1 ≠ d)) (hn : ∀ j ∈ [7, 8, 12, 13, 17, 18, 20, 22, 24], j ≠ i) (hm : ∀ k ∈ [2, 4, 5, 6, 33, 38, 43], k ≠ d) : Inv8 C (L.setIfInBounds i true) (a.put (some d) v) W := by
  have hk : ∀ j ∈ [7, 8, 12, 13, 17, 18, 20, 22, 24], (L.setIfInBounds i true).getD j false = L.getD j false := fun j hj => by rw [getD_set (by omega)]; simp [hn j hj]
  have hp : ∀ k, k ≠ d → (a.put (some d) v).tmps.getD k undef = a.tmps.getD k undef := fun k hk => by rw [put_get (by rw [h.sz]; exact hd), if_neg hk]
  have k7 := hk 7 (by simp); have k8 := hk 8 (by simp); have k12 := hk 12 (by simp); have k13 := hk 13 (by simp); have k17 := hk 17 (by simp); have k18 := hk 18 (by simp); have k20 := hk 20 (by simp); have k22 := hk 22 (by simp); have k24 := hk 24 (by simp)
  have p33 := hp 33 (hm 33 (by simp)); have p38 := hp 38 (hm 38 (by simp)); have p43 := hp 43 (hm 43 (by simp))
  refine ⟨cL, cF, cN, ⟨by simp [Act.put, h.sz], h.df, fun x hx => ?_, fun x hx hl => ?_, by rw [k7, k8, p33]; exact h.b1, by rw [k12, k13, p38]; exact h.b2, by rw [k17, k18, p43]; exact h.b3, by rw [k8]; exact h.vL, by rw [k13]; exact h.vF, by rw [k18]; exact h.vN,
    h.num, by rw [k20, k22, k24]; exact h.fbx, h.wbx, h.nbx, by rw [k8]; exact h.oL, by rw [k13]; exact h.oF, by rw [k18]; exact h.oN, h.ne, h.nF, h.nN, h.od.keep (by omega) (fun e => hn 20 (by simp) e.symm) (fun e => hn 22 (by simp) e.symm) (fun e => hn 24 (by simp) e.symm), h.kp, h.fr⟩⟩
  · rw [hp _ (by
      have : x.1 ∈ [2, 4, 5, 6] := by simp [base8] at hx; rcases hx with rfl | rfl | rfl | rfl <;> simp
      exact hm _ (by simp at this ⊢; omega))]
    exact h.bs x hx
  · rcases hv x hx with ⟨h1, h2, h3⟩ | ⟨h1, h2⟩
    · rw [put_get (by rw [h.sz]; exact hd), if_pos h2]; exact h3.symm
    · rw [hp _ h2]
      rw [getD_set (by omega)] at hl
      exact h.sl x hx (by simpa [h1] using hl)

theorem own_len {w : World} {base : Nat} {e : TypeId} {size n : Nat} {v : Value} {xs : List Value} (h : w.ownsRow base e size v n xs) : n ≤ 9223372036854775807 := by
  rcases h.2 with ⟨_, rfl⟩ | ⟨g, cap, cur, _, _, _, h1, h2, _⟩
  · omega
  · unfold maxLen at h2; omega
theorem hlt {w : World} {b : Nat} {o : Obj} (h : w.heap[b]? = some o) : b < w.heap.size := (Array.getElem?_eq_some_iff.1 h).1
theorem own_size {w : World} {base : Nat} {e : TypeId} {size n : Nat} {v : Value} {xs : List Value} (h : w.ownsRow base e size v n xs) : v.ownBlock ≠ some w.heap.size := fun hb => by
  obtain ⟨_, cur, hc⟩ := own_block_at h hb
  have := hlt hc; omega

/-- what lies in other blocks than x moves on -/
theorem moveObj {W W' : World} (ox : Option Nat) (hs : ∀ k, k < W.heap.size → some k ≠ ox → W'.heap[k]? = W.heap[k]?)
    {b : Nat} {o : Obj} (hb : W.heap[b]? = some o) (hne : ox ≠ some b) : W'.heap[b]? = some o := (hs b (hlt hb) (fun e => hne e.symm)).trans hb

theorem Inv8.build7 {C : Ctx} {cL cF cN : Value} {L : Array Bool} {a : Act} {W : World} (h : R8 C cL cF cN L a W) (hL : L.size = 25) :
    Inv8 C (L.setIfInBounds 7 true) (a.put (some 33) (.slice (some ⟨W.heap.size, 0, none⟩) 1 1)) (W.alloc (.cells #[.int .i64 C.t.kind, .string C.t.text] 70)) := by
  have hs : ∀ k, k < W.heap.size → some k ≠ none → (W.alloc (.cells #[.int .i64 C.t.kind, .string C.t.text] 70)).heap[k]? = W.heap[k]? := fun k hk _ => Below.heap_alloc _ _ _ hk
  have mv := fun {b : Nat} {o : Obj} (hb : W.heap[b]? = some o) => moveObj (W := W) (W' := W.alloc (.cells #[.int .i64 C.t.kind, .string C.t.text] 70)) none hs hb (by simp)
  have hk : ∀ j, j ≠ 7 → (L.setIfInBounds 7 true).getD j false = L.getD j false := fun j hj => by rw [getD_set (by omega)]; simp [hj]
  have hp : ∀ k, k ≠ 33 → (a.put (some 33) (.slice (some ⟨W.heap.size, 0, none⟩) 1 1)).tmps.getD k undef = a.tmps.getD k undef := fun k hk => by rw [put_get (by rw [h.sz]; omega), if_neg hk]
  have k8 := hk 8 (by omega); have k12 := hk 12 (by omega); have k13 := hk 13 (by omega); have k17 := hk 17 (by omega); have k18 := hk 18 (by omega); have k20 := hk 20 (by omega); have k22 := hk 22 (by omega); have k24 := hk 24 (by omega)
  refine ⟨cL, cF, cN, ⟨by simp [Act.put, h.sz], h.df, fun x hx => ?_, fun x hx hl => ?_, fun _ _ => ⟨_, by rw [put_get (by rw [h.sz]; omega), if_pos rfl], heap_alloc_new W _⟩, ?_, ?_, by rw [k8]; exact h.vL, by rw [k13]; exact h.vF, by rw [k18]; exact h.vN,
    mv h.num, by rw [k20, k22, k24]; exact mv h.fbx, mv h.wbx, mv h.nbx, by rw [k8]; exact h.oL.alloc _, by rw [k13]; exact h.oF.alloc _, by rw [k18]; exact h.oN.alloc _, h.ne, h.nF, h.nN, h.od.keep (by omega) (by omega) (by omega) (by omega), h.kp.alloc _, h.fr⟩⟩
  · have : x.1 ≠ 33 := by simp [base8] at hx; rcases hx with rfl | rfl | rfl | rfl <;> simp
    rw [hp _ this]; exact h.bs x hx
  · have : x.1 ≠ 7 ∧ x.2.1 ≠ 33 := by simp [slots] at hx; rcases hx with rfl | rfl | rfl | rfl | rfl | rfl | rfl | rfl | rfl | rfl | rfl | rfl | rfl | rfl | rfl | rfl | rfl | rfl | rfl <;> simp
    rw [hp _ this.2]; rw [hk _ this.1] at hl; exact h.sl x hx hl
  · rw [k12, k13, hp 38 (by omega)]; intro h1 h2; obtain ⟨g, h3, h4, h5⟩ := h.b2 h1 h2; exact ⟨g, h3, mv h4, h5⟩
  · rw [k17, k18, hp 43 (by omega)]; intro h1 h2; obtain ⟨g, h3, h4, h5⟩ := h.b3 h1 h2; exact ⟨g, h3, mv h4, h5⟩

theorem Inv8.build12 {C : Ctx} {cL cF cN : Value} {L : Array Bool} {a : Act} {W : World} (h : R8 C cL cF cN L a W) (hL : L.size = 25) :
    Inv8 C (L.setIfInBounds 12 true) (a.put (some 38) (.slice (some ⟨W.heap.size, 0, none⟩) 1 1)) (W.alloc (.cells #[.int .i64 (C.first : Nat)] 3)) := by
  have hs : ∀ k, k < W.heap.size → some k ≠ none → (W.alloc (.cells #[.int .i64 (C.first : Nat)] 3)).heap[k]? = W.heap[k]? := fun k hk _ => Below.heap_alloc _ _ _ hk
  have mv := fun {b : Nat} {o : Obj} (hb : W.heap[b]? = some o) => moveObj (W := W) (W' := W.alloc (.cells #[.int .i64 (C.first : Nat)] 3)) none hs hb (by simp)
  have hk : ∀ j, j ≠ 12 → (L.setIfInBounds 12 true).getD j false = L.getD j false := fun j hj => by rw [getD_set (by omega)]; simp [hj]
  have hp : ∀ k, k ≠ 38 → (a.put (some 38) (.slice (some ⟨W.heap.size, 0, none⟩) 1 1)).tmps.getD k undef = a.tmps.getD k undef := fun k hk => by rw [put_get (by rw [h.sz]; omega), if_neg hk]
  have k7 := hk 7 (by omega); have k8 := hk 8 (by omega); have k13 := hk 13 (by omega); have k17 := hk 17 (by omega); have k18 := hk 18 (by omega); have k20 := hk 20 (by omega); have k22 := hk 22 (by omega); have k24 := hk 24 (by omega)
  refine ⟨cL, cF, cN, ⟨by simp [Act.put, h.sz], h.df, fun x hx => ?_, fun x hx hl => ?_, ?_, fun _ _ => ⟨_, by rw [put_get (by rw [h.sz]; omega), if_pos rfl], heap_alloc_new W _, fun e => by have := hlt h.num; omega, own_size h.oF, own_size h.oN⟩, ?_, by rw [k8]; exact h.vL, by rw [k13]; exact h.vF, by rw [k18]; exact h.vN,
    mv h.num, by rw [k20, k22, k24]; exact mv h.fbx, mv h.wbx, mv h.nbx, by rw [k8]; exact h.oL.alloc _, by rw [k13]; exact h.oF.alloc _, by rw [k18]; exact h.oN.alloc _, h.ne, h.nF, h.nN, h.od.keep (by omega) (by omega) (by omega) (by omega), h.kp.alloc _, h.fr⟩⟩
  · have : x.1 ≠ 38 := by simp [base8] at hx; rcases hx with rfl | rfl | rfl | rfl <;> simp
    rw [hp _ this]; exact h.bs x hx
  · have : x.1 ≠ 12 ∧ x.2.1 ≠ 38 := by simp [slots] at hx; rcases hx with rfl | rfl | rfl | rfl | rfl | rfl | rfl | rfl | rfl | rfl | rfl | rfl | rfl | rfl | rfl | rfl | rfl | rfl | rfl <;> simp
    rw [hp _ this.2]; rw [hk _ this.1] at hl; exact h.sl x hx hl
  · rw [k7, k8, hp 33 (by omega)]; intro h1 h2; obtain ⟨g, h3, h4⟩ := h.b1 h1 h2; exact ⟨g, h3, mv h4⟩
  · rw [k17, k18, hp 43 (by omega)]; intro h1 h2; obtain ⟨g, h3, h4, h5⟩ := h.b3 h1 h2; exact ⟨g, h3, mv h4, h5⟩

theorem Inv8.build17 {C : Ctx} {cL cF cN : Value} {L : Array Bool} {a : Act} {W : World} (h : R8 C cL cF cN L a W) (hL : L.size = 25) :
    Inv8 C (L.setIfInBounds 17 true) (a.put (some 43) (.slice (some ⟨W.heap.size, 0, none⟩) 1 1)) (W.alloc (.cells #[.int .i64 (C.me : Nat)] 3)) := by
  have hs : ∀ k, k < W.heap.size → some k ≠ none → (W.alloc (.cells #[.int .i64 (C.me : Nat)] 3)).heap[k]? = W.heap[k]? := fun k hk _ => Below.heap_alloc _ _ _ hk
  have mv := fun {b : Nat} {o : Obj} (hb : W.heap[b]? = some o) => moveObj (W := W) (W' := W.alloc (.cells #[.int .i64 (C.me : Nat)] 3)) none hs hb (by simp)
  have hk : ∀ j, j ≠ 17 → (L.setIfInBounds 17 true).getD j false = L.getD j false := fun j hj => by rw [getD_set (by omega)]; simp [hj]
  have hp : ∀ k, k ≠ 43 → (a.put (some 43) (.slice (some ⟨W.heap.size, 0, none⟩) 1 1)).tmps.getD k undef = a.tmps.getD k undef := fun k hk => by rw [put_get (by rw [h.sz]; omega), if_neg hk]
  have k7 := hk 7 (by omega); have k8 := hk 8 (by omega); have k12 := hk 12 (by omega); have k13 := hk 13 (by omega); have k18 := hk 18 (by omega); have k20 := hk 20 (by omega); have k22 := hk 22 (by omega); have k24 := hk 24 (by omega)
  refine ⟨cL, cF, cN, ⟨by simp [Act.put, h.sz], h.df, fun x hx => ?_, fun x hx hl => ?_, ?_, ?_, fun _ _ => ⟨_, by rw [put_get (by rw [h.sz]; omega), if_pos rfl], heap_alloc_new W _, fun e => by have := hlt h.num; omega, own_size h.oF, own_size h.oN⟩, by rw [k8]; exact h.vL, by rw [k13]; exact h.vF, by rw [k18]; exact h.vN,
    mv h.num, by rw [k20, k22, k24]; exact mv h.fbx, mv h.wbx, mv h.nbx, by rw [k8]; exact h.oL.alloc _, by rw [k13]; exact h.oF.alloc _, by rw [k18]; exact h.oN.alloc _, h.ne, h.nF, h.nN, h.od.keep (by omega) (by omega) (by omega) (by omega), h.kp.alloc _, h.fr⟩⟩
  · have : x.1 ≠ 43 := by simp [base8] at hx; rcases hx with rfl | rfl | rfl | rfl <;> simp
    rw [hp _ this]; exact h.bs x hx
  · have : x.1 ≠ 17 ∧ x.2.1 ≠ 43 := by simp [slots] at hx; rcases hx with rfl | rfl | rfl | rfl | rfl | rfl | rfl | rfl | rfl | rfl | rfl | rfl | rfl | rfl | rfl | rfl | rfl | rfl | rfl <;> simp
    rw [hp _ this.2]; rw [hk _ this.1] at hl; exact h.sl x hx hl
  · rw [k7, k8, hp 33 (by omega)]; intro h1 h2; obtain ⟨g, h3, h4⟩ := h.b1 h1 h2; exact ⟨g, h3, mv h4⟩
  · rw [k12, k13, hp 38 (by omega)]; intro h1 h2; obtain ⟨g, h3, h4, h5⟩ := h.b2 h1 h2; exact ⟨g, h3, mv h4, h5⟩

theorem Inv8.store20 {C : Ctx} {cL cF cN : Value} {L : Array Bool} {a : Act} {W : World} (h : R8 C cL cF cN L a W) (hL : L.size = 25) (ha : L.getD 1 false = true) (hb : L.getD 8 false = true) :
    Inv8 C (L.setIfInBounds 20 true) a (W.setCell ⟨C.bf, 0, none⟩ cL) := by
  have hs : ∀ k, k < W.heap.size → some k ≠ some C.bf → (W.setCell ⟨C.bf, 0, none⟩ cL).heap[k]? = W.heap[k]? := fun k hk hne => Below.heap_setCell _ _ _ _ (by intro e; exact hne (by rw [e]))
  have mv := fun {b : Nat} {o : Obj} (hb : W.heap[b]? = some o) (hne : C.bf ≠ b) => moveObj (W := W) (W' := W.setCell ⟨C.bf, 0, none⟩ cL) (some C.bf) hs hb (fun e => hne (Option.some.inj e))
  have hk : ∀ j, j ≠ 20 → (L.setIfInBounds 20 true).getD j false = L.getD j false := fun j hj => by rw [getD_set (by omega)]; simp [hj]
  have k20 : (L.setIfInBounds 20 true).getD 20 false = true := by rw [getD_set (by omega)]; simp
  have k7 := hk 7 (by omega); have k8 := hk 8 (by omega); have k12 := hk 12 (by omega); have k13 := hk 13 (by omega); have k17 := hk 17 (by omega); have k18 := hk 18 (by omega); have k22 := hk 22 (by omega); have k24 := hk 24 (by omega)
  have hne : ∀ {e size n : Nat} {v : Value} {xs : List Value}, W.ownsRow C.B e size v n xs → e ≠ 66 → ∀ k, v.ownBlock = some k → (W.setCell ⟨C.bf, 0, none⟩ cL).heap[k]? = W.heap[k]? := fun ho he k hk => by
    obtain ⟨_, cur, hc⟩ := own_block_at ho hk
    exact Below.heap_setCell _ _ _ _ (heap_ne_type hc h.fbx he)
  refine ⟨cL, cF, cN, ⟨h.sz, h.df, h.bs, fun x hx hl => ?_, ?_, ?_, ?_, by rw [k8]; exact h.vL, by rw [k13]; exact h.vF, by rw [k18]; exact h.vN,
    mv h.num (heap_ne_type h.fbx h.num (by decide)), ?_, mv h.wbx (heap_ne_type h.fbx h.wbx (by decide)), mv h.nbx (heap_ne_type h.fbx h.nbx (by decide)), by rw [k8]; exact own_move h.oL (hne h.oL (by decide)), by rw [k13]; exact own_move h.oF (hne h.oF (by decide)), by rw [k18]; exact own_move h.oN (hne h.oN (by decide)), h.ne, h.nF, h.nN, ⟨(fun _ => ⟨set_up (by omega) ha, set_up (by omega) hb⟩), (fun e => by rw [k22] at e; exact ⟨set_up (by omega) (h.od.2.1 e).1, set_up (by omega) (h.od.2.1 e).2⟩), (fun e => by rw [k24] at e; exact ⟨set_up (by omega) (h.od.2.2 e).1, set_up (by omega) (h.od.2.2 e).2⟩)⟩, h.kp.setCell (p := ⟨C.bf, 0, none⟩) (.inl (.inl rfl)) _, h.fr⟩⟩
  · have : x.1 ≠ 20 := by simp [slots] at hx; rcases hx with rfl | rfl | rfl | rfl | rfl | rfl | rfl | rfl | rfl | rfl | rfl | rfl | rfl | rfl | rfl | rfl | rfl | rfl | rfl <;> simp
    rw [hk _ this] at hl; exact h.sl x hx hl
  · rw [k7, k8]; intro h1 h2; obtain ⟨g, h3, h4⟩ := h.b1 h1 h2; exact ⟨g, h3, mv h4 (heap_ne_type h.fbx h4 (by decide))⟩
  · rw [k12, k13]; intro h1 h2; obtain ⟨g, h3, h4, h5⟩ := h.b2 h1 h2; exact ⟨g, h3, mv h4 (heap_ne_type h.fbx h4 (by decide)), h5⟩
  · rw [k17, k18]; intro h1 h2; obtain ⟨g, h3, h4, h5⟩ := h.b3 h1 h2; exact ⟨g, h3, mv h4 (heap_ne_type h.fbx h4 (by decide)), h5⟩
  · rw [k20, k22, k24]; simp [World.setCell, Array.getElem?_modify, h.fbx]

theorem Inv8.store22 {C : Ctx} {cL cF cN : Value} {L : Array Bool} {a : Act} {W : World} (h : R8 C cL cF cN L a W) (hL : L.size = 25) (ha : L.getD 10 false = true) (hb : L.getD 13 false = true) :
    Inv8 C (L.setIfInBounds 22 true) a (W.setCell ⟨C.bf, 1, none⟩ cF) := by
  have hs : ∀ k, k < W.heap.size → some k ≠ some C.bf → (W.setCell ⟨C.bf, 1, none⟩ cF).heap[k]? = W.heap[k]? := fun k hk hne => Below.heap_setCell _ _ _ _ (by intro e; exact hne (by rw [e]))
  have mv := fun {b : Nat} {o : Obj} (hb : W.heap[b]? = some o) (hne : C.bf ≠ b) => moveObj (W := W) (W' := W.setCell ⟨C.bf, 1, none⟩ cF) (some C.bf) hs hb (fun e => hne (Option.some.inj e))
  have hk : ∀ j, j ≠ 22 → (L.setIfInBounds 22 true).getD j false = L.getD j false := fun j hj => by rw [getD_set (by omega)]; simp [hj]
  have k22 : (L.setIfInBounds 22 true).getD 22 false = true := by rw [getD_set (by omega)]; simp
  have k7 := hk 7 (by omega); have k8 := hk 8 (by omega); have k12 := hk 12 (by omega); have k13 := hk 13 (by omega); have k17 := hk 17 (by omega); have k18 := hk 18 (by omega); have k20 := hk 20 (by omega); have k24 := hk 24 (by omega)
  have hne : ∀ {e size n : Nat} {v : Value} {xs : List Value}, W.ownsRow C.B e size v n xs → e ≠ 66 → ∀ k, v.ownBlock = some k → (W.setCell ⟨C.bf, 1, none⟩ cF).heap[k]? = W.heap[k]? := fun ho he k hk => by
    obtain ⟨_, cur, hc⟩ := own_block_at ho hk
    exact Below.heap_setCell _ _ _ _ (heap_ne_type hc h.fbx he)
  refine ⟨cL, cF, cN, ⟨h.sz, h.df, h.bs, fun x hx hl => ?_, ?_, ?_, ?_, by rw [k8]; exact h.vL, by rw [k13]; exact h.vF, by rw [k18]; exact h.vN,
    mv h.num (heap_ne_type h.fbx h.num (by decide)), ?_, mv h.wbx (heap_ne_type h.fbx h.wbx (by decide)), mv h.nbx (heap_ne_type h.fbx h.nbx (by decide)), by rw [k8]; exact own_move h.oL (hne h.oL (by decide)), by rw [k13]; exact own_move h.oF (hne h.oF (by decide)), by rw [k18]; exact own_move h.oN (hne h.oN (by decide)), h.ne, h.nF, h.nN, ⟨(fun e => by rw [k20] at e; exact ⟨set_up (by omega) (h.od.1 e).1, set_up (by omega) (h.od.1 e).2⟩), (fun _ => ⟨set_up (by omega) ha, set_up (by omega) hb⟩), (fun e => by rw [k24] at e; exact ⟨set_up (by omega) (h.od.2.2 e).1, set_up (by omega) (h.od.2.2 e).2⟩)⟩, h.kp.setCell (p := ⟨C.bf, 1, none⟩) (.inl (.inl rfl)) _, h.fr⟩⟩
  · have : x.1 ≠ 22 := by simp [slots] at hx; rcases hx with rfl | rfl | rfl | rfl | rfl | rfl | rfl | rfl | rfl | rfl | rfl | rfl | rfl | rfl | rfl | rfl | rfl | rfl | rfl <;> simp
    rw [hk _ this] at hl; exact h.sl x hx hl
  · rw [k7, k8]; intro h1 h2; obtain ⟨g, h3, h4⟩ := h.b1 h1 h2; exact ⟨g, h3, mv h4 (heap_ne_type h.fbx h4 (by decide))⟩
  · rw [k12, k13]; intro h1 h2; obtain ⟨g, h3, h4, h5⟩ := h.b2 h1 h2; exact ⟨g, h3, mv h4 (heap_ne_type h.fbx h4 (by decide)), h5⟩
  · rw [k17, k18]; intro h1 h2; obtain ⟨g, h3, h4, h5⟩ := h.b3 h1 h2; exact ⟨g, h3, mv h4 (heap_ne_type h.fbx h4 (by decide)), h5⟩
  · rw [k20, k22, k24]; simp [World.setCell, Array.getElem?_modify, h.fbx]

theorem Inv8.store24 {C : Ctx} {cL cF cN : Value} {L : Array Bool} {a : Act} {W : World} (h : R8 C cL cF cN L a W) (hL : L.size = 25) (ha : L.getD 15 false = true) (hb : L.getD 18 false = true) :
    Inv8 C (L.setIfInBounds 24 true) a (W.setCell ⟨C.bf, 2, none⟩ cN) := by
  have hs : ∀ k, k < W.heap.size → some k ≠ some C.bf → (W.setCell ⟨C.bf, 2, none⟩ cN).heap[k]? = W.heap[k]? := fun k hk hne => Below.heap_setCell _ _ _ _ (by intro e; exact hne (by rw [e]))
  have mv := fun {b : Nat} {o : Obj} (hb : W.heap[b]? = some o) (hne : C.bf ≠ b) => moveObj (W := W) (W' := W.setCell ⟨C.bf, 2, none⟩ cN) (some C.bf) hs hb (fun e => hne (Option.some.inj e))
  have hk : ∀ j, j ≠ 24 → (L.setIfInBounds 24 true).getD j false = L.getD j false := fun j hj => by rw [getD_set (by omega)]; simp [hj]
  have k24 : (L.setIfInBounds 24 true).getD 24 false = true := by rw [getD_set (by omega)]; simp
  have k7 := hk 7 (by omega); have k8 := hk 8 (by omega); have k12 := hk 12 (by omega); have k13 := hk 13 (by omega); have k17 := hk 17 (by omega); have k18 := hk 18 (by omega); have k20 := hk 20 (by omega); have k22 := hk 22 (by omega)
  have hne : ∀ {e size n : Nat} {v : Value} {xs : List Value}, W.ownsRow C.B e size v n xs → e ≠ 66 → ∀ k, v.ownBlock = some k → (W.setCell ⟨C.bf, 2, none⟩ cN).heap[k]? = W.heap[k]? := fun ho he k hk => by
    obtain ⟨_, cur, hc⟩ := own_block_at ho hk
    exact Below.heap_setCell _ _ _ _ (heap_ne_type hc h.fbx he)
  refine ⟨cL, cF, cN, ⟨h.sz, h.df, h.bs, fun x hx hl => ?_, ?_, ?_, ?_, by rw [k8]; exact h.vL, by rw [k13]; exact h.vF, by rw [k18]; exact h.vN,
    mv h.num (heap_ne_type h.fbx h.num (by decide)), ?_, mv h.wbx (heap_ne_type h.fbx h.wbx (by decide)), mv h.nbx (heap_ne_type h.fbx h.nbx (by decide)), by rw [k8]; exact own_move h.oL (hne h.oL (by decide)), by rw [k13]; exact own_move h.oF (hne h.oF (by decide)), by rw [k18]; exact own_move h.oN (hne h.oN (by decide)), h.ne, h.nF, h.nN, ⟨(fun e => by rw [k20] at e; exact ⟨set_up (by omega) (h.od.1 e).1, set_up (by omega) (h.od.1 e).2⟩), (fun e => by rw [k22] at e; exact ⟨set_up (by omega) (h.od.2.1 e).1, set_up (by omega) (h.od.2.1 e).2⟩), (fun _ => ⟨set_up (by omega) ha, set_up (by omega) hb⟩)⟩, h.kp.setCell (p := ⟨C.bf, 2, none⟩) (.inl (.inl rfl)) _, h.fr⟩⟩
  · have : x.1 ≠ 24 := by simp [slots] at hx; rcases hx with rfl | rfl | rfl | rfl | rfl | rfl | rfl | rfl | rfl | rfl | rfl | rfl | rfl | rfl | rfl | rfl | rfl | rfl | rfl <;> simp
    rw [hk _ this] at hl; exact h.sl x hx hl
  · rw [k7, k8]; intro h1 h2; obtain ⟨g, h3, h4⟩ := h.b1 h1 h2; exact ⟨g, h3, mv h4 (heap_ne_type h.fbx h4 (by decide))⟩
  · rw [k12, k13]; intro h1 h2; obtain ⟨g, h3, h4, h5⟩ := h.b2 h1 h2; exact ⟨g, h3, mv h4 (heap_ne_type h.fbx h4 (by decide)), h5⟩
  · rw [k17, k18]; intro h1 h2; obtain ⟨g, h3, h4, h5⟩ := h.b3 h1 h2; exact ⟨g, h3, mv h4 (heap_ne_type h.fbx h4 (by decide)), h5⟩
  · rw [k20, k22, k24]; simp [World.setCell, Array.getElem?_modify, h.fbx]

theorem labC_append (xs ys : List Ent) : labC (xs ++ ys) = labC xs ++ labC ys := by simp [labC]
theorem Ctx.xs_true (C : Ctx) : C.xs true = C.zs ++ [C.ent] := rfl
theorem Ctx.xs_false (C : Ctx) : C.xs false = C.zs := rfl

theorem Inv8.app8 {C : Ctx} {cL cF cN : Value} {L : Array Bool} {a : Act} {W W1 : World} {g cap : Nat} (h : R8 C cL cF cN L a W) (hL : L.size = 25) (h0 : L.getD 8 false = false) (hst : L.getD 20 false = false)
    (ho : W1.ownsRow C.B 70 2 (.slice (some ⟨g, 0, none⟩) (C.zs.length + 1) cap) (C.zs.length + 1) (labC C.zs ++ [.int .i64 C.t.kind, .string C.t.text])) (hg : W.grownBy W1 cL.ownBlock) (hat : cL.ownBlock = some g ∨ g = W.heap.size) :
    Inv8 C (L.setIfInBounds 8 true) (a.put (some 34) (.slice (some ⟨g, 0, none⟩) (C.zs.length + 1) cap)) W1 := by
  have hs : ∀ k, k < W.heap.size → some k ≠ cL.ownBlock → W1.heap[k]? = W.heap[k]? := fun k hk hn => hg.block k hk hn
  have mv := fun {b : Nat} {o : Obj} (hb : W.heap[b]? = some o) (hne : cL.ownBlock ≠ some b) => moveObj (W := W) (W' := W1) cL.ownBlock hs hb hne
  have hk : ∀ j, j ≠ 8 → (L.setIfInBounds 8 true).getD j false = L.getD j false := fun j hj => by rw [getD_set (by omega)]; simp [hj]
  have kk : (L.setIfInBounds 8 true).getD 8 false = true := by rw [getD_set (by omega)]; simp
  have hp : ∀ k, k ≠ 34 → (a.put (some 34) (.slice (some ⟨g, 0, none⟩) (C.zs.length + 1) cap)).tmps.getD k undef = a.tmps.getD k undef := fun k hk => by rw [put_get (by rw [h.sz]; omega), if_neg hk]
  have k7 := hk 7 (by omega); have k12 := hk 12 (by omega); have k13 := hk 13 (by omega); have k17 := hk 17 (by omega); have k18 := hk 18 (by omega); have k20 := hk 20 (by omega); have k22 := hk 22 (by omega); have k24 := hk 24 (by omega)
  have hcur : cL = C.vL := h.vL h0
  have ty : ∀ {b : Nat} {cs : Array Value} {t' : TypeId} {f : Nat × Nat}, W.heap[b]? = some (.cells cs t' f) → t' ≠ 70 → cL.ownBlock ≠ some b := fun hb ht e => by obtain ⟨_, cur, hc⟩ := own_block_at h.oL e; exact heap_ne_type hc hb ht.symm rfl
  have hgn : ∀ {b : Nat} {o : Obj}, W.heap[b]? = some o → cL.ownBlock ≠ some b → g ≠ b := fun hb hne e => by subst e; rcases hat with h1 | h1; exact hne h1; have := hlt hb; omega
  refine ⟨(.slice (some ⟨g, 0, none⟩) (C.zs.length + 1) cap), cF, cN, ⟨by simp [Act.put, h.sz], h.df, fun x hx => ?bs, fun x hx hl => ?sl, (fun _ e => by rw [kk] at e; cases e), ?b2, ?b3, (fun e => by rw [kk] at e; cases e), by rw [k13]; exact h.vF, by rw [k18]; exact h.vN,
    mv h.num (ty h.num (by decide)), by rw [k20, k22, k24]; have := mv h.fbx (ty h.fbx (by decide)); rw [hst] at this ⊢; exact this, mv h.wbx (ty h.wbx (by decide)), mv h.nbx (ty h.nbx (by decide)), by rw [kk, Ctx.xs_true, List.length_append, labC_append]; simpa [labC, Ctx.ent] using ho, by rw [k13]; exact own_move h.oF (fun k hk => by obtain ⟨_, cur, hc⟩ := own_block_at h.oF hk; rw [hc]; exact mv hc (ty hc (by decide))), by rw [k18]; exact own_move h.oN (fun k hk => by obtain ⟨_, cur, hc⟩ := own_block_at h.oN hk; rw [hc]; exact mv hc (ty hc (by decide))), h.ne, h.nF, h.nN, h.od.keep (by omega) (by omega) (by omega) (by omega), ?kp, fun b hb => ?fr⟩⟩
  case bs =>
    have : x.1 ≠ 34 := by simp [base8] at hx; rcases hx with rfl | rfl | rfl | rfl <;> simp
    rw [hp _ this]; exact h.bs x hx
  case sl =>
    simp only [slots, List.mem_cons, List.not_mem_nil, or_false] at hx
    rcases hx with rfl | rfl | rfl | rfl | rfl | rfl | rfl | rfl | rfl | rfl | rfl | rfl | rfl | rfl | rfl | rfl | rfl | rfl | rfl
    all_goals first
      | (rw [put_get (by rw [h.sz]; omega), if_pos rfl]; done)
      | (rw [hp _ (by simp)]; rw [hk _ (by simp)] at hl; exact h.sl _ (by simp [slots]) hl)
  case b2 => rw [k12, k13, hp 38 (by omega)]; intro h1 h2; obtain ⟨g', h3, h4, h5, h6, h7⟩ := h.b2 h1 h2; exact ⟨g', h3, mv h4 (ty h4 (by decide)), h5, h6, h7⟩
  case b3 => rw [k17, k18, hp 43 (by omega)]; intro h1 h2; obtain ⟨g', h3, h4, h5, h6, h7⟩ := h.b3 h1 h2; exact ⟨g', h3, mv h4 (ty h4 (by decide)), h5, h6, h7⟩
  case kp =>
    have hb2 := h.kp
    refine ⟨hg.os.trans hb2.os, hg.tape.trans hb2.tape, hg.output.trans hb2.output, Nat.le_trans hb2.size hg.size, fun k hk hn => ?_⟩
    rw [hg.block k (Nat.lt_of_lt_of_le hk hb2.size) (fun e => hn (.inr (by rw [hcur] at e; exact .inl e.symm)))]
    exact hb2.block k hk hn
  case fr =>
    rcases hb with hb | hb | hb
    · have e : g = b := by simpa [Value.ownBlock] using hb
      subst e; rcases hat with h1 | h1; exact h.fr g (.inl h1); exact .inr (by have := h.kp.size; omega)
    · exact h.fr b (.inr (.inl hb))
    · exact h.fr b (.inr (.inr hb))

theorem Inv8.app13 {C : Ctx} {cL cF cN : Value} {L : Array Bool} {a : Act} {W W1 : World} {g cap : Nat} (h : R8 C cL cF cN L a W) (hL : L.size = 25) (h0 : L.getD 13 false = false) (hst : L.getD 22 false = false)
    (ho : W1.ownsRow C.B 3 1 (.slice (some ⟨g, 0, none⟩) (C.zs.length + 1) cap) (C.zs.length + 1) (lefC C.zs ++ [.int .i64 (C.first : Nat)])) (hg : W.grownBy W1 cF.ownBlock) (hat : cF.ownBlock = some g ∨ g = W.heap.size) :
    Inv8 C (L.setIfInBounds 13 true) (a.put (some 39) (.slice (some ⟨g, 0, none⟩) (C.zs.length + 1) cap)) W1 := by
  have hs : ∀ k, k < W.heap.size → some k ≠ cF.ownBlock → W1.heap[k]? = W.heap[k]? := fun k hk hn => hg.block k hk hn
  have mv := fun {b : Nat} {o : Obj} (hb : W.heap[b]? = some o) (hne : cF.ownBlock ≠ some b) => moveObj (W := W) (W' := W1) cF.ownBlock hs hb hne
  have hk : ∀ j, j ≠ 13 → (L.setIfInBounds 13 true).getD j false = L.getD j false := fun j hj => by rw [getD_set (by omega)]; simp [hj]
  have kk : (L.setIfInBounds 13 true).getD 13 false = true := by rw [getD_set (by omega)]; simp
  have hp : ∀ k, k ≠ 39 → (a.put (some 39) (.slice (some ⟨g, 0, none⟩) (C.zs.length + 1) cap)).tmps.getD k undef = a.tmps.getD k undef := fun k hk => by rw [put_get (by rw [h.sz]; omega), if_neg hk]
  have k7 := hk 7 (by omega); have k8 := hk 8 (by omega); have k12 := hk 12 (by omega); have k17 := hk 17 (by omega); have k18 := hk 18 (by omega); have k20 := hk 20 (by omega); have k22 := hk 22 (by omega); have k24 := hk 24 (by omega)
  have hcur : cF = C.vF := h.vF h0
  have ty : ∀ {b : Nat} {cs : Array Value} {t' : TypeId} {f : Nat × Nat}, W.heap[b]? = some (.cells cs t' f) → t' ≠ 3 → cF.ownBlock ≠ some b := fun hb ht e => by obtain ⟨_, cur, hc⟩ := own_block_at h.oF e; exact heap_ne_type hc hb ht.symm rfl
  have hgn : ∀ {b : Nat} {o : Obj}, W.heap[b]? = some o → cF.ownBlock ≠ some b → g ≠ b := fun hb hne e => by subst e; rcases hat with h1 | h1; exact hne h1; have := hlt hb; omega
  have ndist : ∀ k, cF.ownBlock = some k → cN.ownBlock ≠ some k := fun k h1 h2 => by rcases h.ne with h3 | h3; rw [h3] at h1; cases h1; exact h3 (h1.trans h2.symm)
  refine ⟨cL, (.slice (some ⟨g, 0, none⟩) (C.zs.length + 1) cap), cN, ⟨by simp [Act.put, h.sz], h.df, fun x hx => ?bs, fun x hx hl => ?sl, ?b1, (fun _ e => by rw [kk] at e; cases e), ?b3, by rw [k8]; exact h.vL, (fun e => by rw [kk] at e; cases e), by rw [k18]; exact h.vN,
    mv h.num h.nF, by rw [k20, k22, k24]; have := mv h.fbx (ty h.fbx (by decide)); rw [hst] at this ⊢; exact this, mv h.wbx (ty h.wbx (by decide)), mv h.nbx (ty h.nbx (by decide)), by rw [k8]; exact own_move h.oL (fun k hk => by obtain ⟨_, cur, hc⟩ := own_block_at h.oL hk; rw [hc]; exact mv hc (ty hc (by decide))), by rw [kk, Ctx.xs_true, List.length_append]; simpa [lefC, Ctx.ent] using ho, by rw [k18]; exact own_move h.oN (fun k hk => by obtain ⟨_, cur, hc⟩ := own_block_at h.oN hk; rw [hc]; exact mv hc (fun e => ndist _ e hk)), ?ne, fun e => hgn h.num h.nF (by simpa [Value.ownBlock] using e), h.nN, h.od.keep (by omega) (by omega) (by omega) (by omega), ?kp, fun b hb => ?fr⟩⟩
  case bs =>
    have : x.1 ≠ 39 := by simp [base8] at hx; rcases hx with rfl | rfl | rfl | rfl <;> simp
    rw [hp _ this]; exact h.bs x hx
  case sl =>
    simp only [slots, List.mem_cons, List.not_mem_nil, or_false] at hx
    rcases hx with rfl | rfl | rfl | rfl | rfl | rfl | rfl | rfl | rfl | rfl | rfl | rfl | rfl | rfl | rfl | rfl | rfl | rfl | rfl
    all_goals first
      | (rw [put_get (by rw [h.sz]; omega), if_pos rfl]; done)
      | (rw [hp _ (by simp)]; rw [hk _ (by simp)] at hl; exact h.sl _ (by simp [slots]) hl)
  case b1 => rw [k7, k8, hp 33 (by omega)]; intro h1 h2; obtain ⟨g', h3, h4⟩ := h.b1 h1 h2; exact ⟨g', h3, mv h4 (ty h4 (by decide))⟩
  case b3 => rw [k17, k18, hp 43 (by omega)]; intro h1 h2; obtain ⟨g', h3, h4, h5, h6, h7⟩ := h.b3 h1 h2; exact ⟨g', h3, mv h4 h6, h5, fun e => hgn h4 h6 (by simpa [Value.ownBlock] using e), h7⟩
  case ne => refine .inr (fun e => ?_); have e' : cN.ownBlock = some g := by rw [← e]; rfl
             obtain ⟨_, cur, hc⟩ := own_block_at h.oN e'; exact hgn hc (fun e2 => ndist _ e2 e') rfl
  case kp =>
    have hb2 := h.kp
    refine ⟨hg.os.trans hb2.os, hg.tape.trans hb2.tape, hg.output.trans hb2.output, Nat.le_trans hb2.size hg.size, fun k hk hn => ?_⟩
    rw [hg.block k (Nat.lt_of_lt_of_le hk hb2.size) (fun e => hn (.inr (by rw [hcur] at e; exact .inr (.inl e.symm))))]
    exact hb2.block k hk hn
  case fr =>
    rcases hb with hb | hb | hb
    · exact h.fr b (.inl hb)
    · have e : g = b := by simpa [Value.ownBlock] using hb
      subst e; rcases hat with h1 | h1; exact h.fr g (.inr (.inl h1)); exact .inr (by have := h.kp.size; omega)
    · exact h.fr b (.inr (.inr hb))

theorem Inv8.app18 {C : Ctx} {cL cF cN : Value} {L : Array Bool} {a : Act} {W W1 : World} {g cap : Nat} (h : R8 C cL cF cN L a W) (hL : L.size = 25) (h0 : L.getD 18 false = false) (hst : L.getD 24 false = false)
    (ho : W1.ownsRow C.B 3 1 (.slice (some ⟨g, 0, none⟩) (C.zs.length + 1) cap) (C.zs.length + 1) (numC C.zs ++ [.int .i64 (C.me : Nat)])) (hg : W.grownBy W1 cN.ownBlock) (hat : cN.ownBlock = some g ∨ g = W.heap.size) :
    Inv8 C (L.setIfInBounds 18 true) (a.put (some 44) (.slice (some ⟨g, 0, none⟩) (C.zs.length + 1) cap)) W1 := by
  have hs : ∀ k, k < W.heap.size → some k ≠ cN.ownBlock → W1.heap[k]? = W.heap[k]? := fun k hk hn => hg.block k hk hn
  have mv := fun {b : Nat} {o : Obj} (hb : W.heap[b]? = some o) (hne : cN.ownBlock ≠ some b) => moveObj (W := W) (W' := W1) cN.ownBlock hs hb hne
  have hk : ∀ j, j ≠ 18 → (L.setIfInBounds 18 true).getD j false = L.getD j false := fun j hj => by rw [getD_set (by omega)]; simp [hj]
  have kk : (L.setIfInBounds 18 true).getD 18 false = true := by rw [getD_set (by omega)]; simp
  have hp : ∀ k, k ≠ 44 → (a.put (some 44) (.slice (some ⟨g, 0, none⟩) (C.zs.length + 1) cap)).tmps.getD k undef = a.tmps.getD k undef := fun k hk => by rw [put_get (by rw [h.sz]; omega), if_neg hk]
  have k7 := hk 7 (by omega); have k8 := hk 8 (by omega); have k12 := hk 12 (by omega); have k13 := hk 13 (by omega); have k17 := hk 17 (by omega); have k20 := hk 20 (by omega); have k22 := hk 22 (by omega); have k24 := hk 24 (by omega)
  have hcur : cN = C.vN := h.vN h0
  have ty : ∀ {b : Nat} {cs : Array Value} {t' : TypeId} {f : Nat × Nat}, W.heap[b]? = some (.cells cs t' f) → t' ≠ 3 → cN.ownBlock ≠ some b := fun hb ht e => by obtain ⟨_, cur, hc⟩ := own_block_at h.oN e; exact heap_ne_type hc hb ht.symm rfl
  have hgn : ∀ {b : Nat} {o : Obj}, W.heap[b]? = some o → cN.ownBlock ≠ some b → g ≠ b := fun hb hne e => by subst e; rcases hat with h1 | h1; exact hne h1; have := hlt hb; omega
  have ndist : ∀ k, cN.ownBlock = some k → cF.ownBlock ≠ some k := fun k h1 h2 => by rcases h.ne with h3 | h3; rw [h3] at h2; cases h2; exact h3 (h2.trans h1.symm)
  refine ⟨cL, cF, (.slice (some ⟨g, 0, none⟩) (C.zs.length + 1) cap), ⟨by simp [Act.put, h.sz], h.df, fun x hx => ?bs, fun x hx hl => ?sl, ?b1, ?b2, (fun _ e => by rw [kk] at e; cases e), by rw [k8]; exact h.vL, by rw [k13]; exact h.vF, (fun e => by rw [kk] at e; cases e),
    mv h.num h.nN, by rw [k20, k22, k24]; have := mv h.fbx (ty h.fbx (by decide)); rw [hst] at this ⊢; exact this, mv h.wbx (ty h.wbx (by decide)), mv h.nbx (ty h.nbx (by decide)), by rw [k8]; exact own_move h.oL (fun k hk => by obtain ⟨_, cur, hc⟩ := own_block_at h.oL hk; rw [hc]; exact mv hc (ty hc (by decide))), by rw [k13]; exact own_move h.oF (fun k hk => by obtain ⟨_, cur, hc⟩ := own_block_at h.oF hk; rw [hc]; exact mv hc (fun e => ndist _ e hk)), by rw [kk, Ctx.xs_true, List.length_append]; simpa [numC, Ctx.ent] using ho, ?ne, h.nF, fun e => hgn h.num h.nN (by simpa [Value.ownBlock] using e), h.od.keep (by omega) (by omega) (by omega) (by omega), ?kp, fun b hb => ?fr⟩⟩
  case bs =>
    have : x.1 ≠ 44 := by simp [base8] at hx; rcases hx with rfl | rfl | rfl | rfl <;> simp
    rw [hp _ this]; exact h.bs x hx
  case sl =>
    simp only [slots, List.mem_cons, List.not_mem_nil, or_false] at hx
    rcases hx with rfl | rfl | rfl | rfl | rfl | rfl | rfl | rfl | rfl | rfl | rfl | rfl | rfl | rfl | rfl | rfl | rfl | rfl | rfl
    all_goals first
      | (rw [put_get (by rw [h.sz]; omega), if_pos rfl]; done)
      | (rw [hp _ (by simp)]; rw [hk _ (by simp)] at hl; exact h.sl _ (by simp [slots]) hl)
  case b1 => rw [k7, k8, hp 33 (by omega)]; intro h1 h2; obtain ⟨g', h3, h4⟩ := h.b1 h1 h2; exact ⟨g', h3, mv h4 (ty h4 (by decide))⟩
  case b2 => rw [k12, k13, hp 38 (by omega)]; intro h1 h2; obtain ⟨g', h3, h4, h5, h6, h7⟩ := h.b2 h1 h2; exact ⟨g', h3, mv h4 h7, h5, h6, fun e => hgn h4 h7 (by simpa [Value.ownBlock] using e)⟩
  case ne => refine .inr (fun e => ?_); have e' : cF.ownBlock = some g := by rw [e]; rfl
             obtain ⟨_, cur, hc⟩ := own_block_at h.oF e'; exact hgn hc (fun e2 => ndist _ e2 e') rfl
  case kp =>
    have hb2 := h.kp
    refine ⟨hg.os.trans hb2.os, hg.tape.trans hb2.tape, hg.output.trans hb2.output, Nat.le_trans hb2.size hg.size, fun k hk hn => ?_⟩
    rw [hg.block k (Nat.lt_of_lt_of_le hk hb2.size) (fun e => hn (.inr (by rw [hcur] at e; exact .inr (.inr e.symm))))]
    exact hb2.block k hk hn
  case fr =>
    rcases hb with hb | hb | hb
    · exact h.fr b (.inl hb)
    · exact h.fr b (.inr (.inl hb))
    · have e : g = b := by simpa [Value.ownBlock] using hb
      subst e; rcases hat with h1 | h1; exact h.fr g (.inr (.inr h1)); exact .inr (by have := h.kp.size; omega)
end Go.Proofs.Ytjijfgkmjachnaa

namespace Go.Proofs.Ytjijfgkmjachnaa
set_option linter.unusedVariables false
set_option linter.unusedSimpArgs false

/-- Every edge that binds points back. -/
def backB (ops : Array Oper) : Bool := (List.range ops.size).all fun i => ((ops[i]?).map fun o => o.after.all fun e => !Region.binds .any e || decide (e.on < i)).getD true

theorem ready_of {ops : Array Oper} {L : Array Bool} {i : Nat} (h : i ∈ Region.ready .any ops L) : i < ops.size ∧ L.getD i true = false ∧ ∃ o, ops[i]? = some o ∧ ∀ e ∈ o.after, Region.binds .any e = true → L.getD e.on false = true := by
  unfold Region.ready at h
  rw [List.mem_filter, List.mem_range] at h
  obtain ⟨h1, h2⟩ := h
  obtain ⟨h2, h3⟩ := Bool.and_eq_true_iff.1 h2
  refine ⟨h1, by simpa using h2, ?_⟩
  cases ho : ops[i]? with
  | none => rw [ho] at h3; simp at h3
  | some o =>
    rw [ho] at h3
    refine ⟨o, rfl, fun e he hb => ?_⟩
    simp only [Option.map_some, Option.getD_some] at h3
    have := Array.all_eq_true_iff_forall_mem.1 h3 e he
    rw [hb] at this
    simpa using this
theorem all_done {ops : Array Oper} (hback : backB ops = true) {L : Array Bool} (hs : L.size = ops.size) (h : Region.ready .any ops L = []) : ∀ i, i < ops.size → L.getD i false = true := by
  intro i
  induction i using Nat.strongRecOn with
  | _ i ih =>
    intro hi
    have hb := List.all_eq_true.1 hback i (List.mem_range.2 hi)
    have hge : L.getD i false = L[i]'(by omega) := by simp [Array.getD, show i < L.size by omega]
    have hgt : L.getD i true = L[i]'(by omega) := by simp [Array.getD, show i < L.size by omega]
    rw [hge]
    cases hl : L[i]'(by omega) with
    | true => rfl
    | false =>
      exfalso
      have hmem : i ∈ Region.ready .any ops L := by
        unfold Region.ready
        rw [List.mem_filter, List.mem_range]
        refine ⟨hi, ?_⟩
        rw [hgt, hl]
        simp only [Bool.not_false, Bool.true_and]
        rw [Array.getElem?_eq_getElem hi] at hb ⊢
        simp only [Option.map_some, Option.getD_some] at hb ⊢
        rw [Array.all_eq_true_iff_forall_mem] at hb ⊢
        intro e he
        have h2 := hb e he
        cases hbe : Region.binds .any e with
        | false => simp
        | true =>
          rw [hbe] at h2
          have hlt : e.on < i := by simpa using h2
          simp [ih e.on hlt (by omega)]
      rw [h] at hmem
      cases hmem

def falses (L : Array Bool) : Nat := (L.toList.filter (! ·)).length
theorem falses_set {L : Array Bool} {i : Nat} (hi : i < L.size) (h : L[i] = false) : falses (L.setIfInBounds i true) + 1 = falses L := by
  have key : ∀ (l : List Bool) (i : Nat) (hi : i < l.length), l[i] = false → ((l.set i true).filter (! ·)).length + 1 = (l.filter (! ·)).length := by
    intro l
    induction l with
    | nil => intro i hi; simp at hi
    | cons b l ih =>
      intro i hi h
      cases i with
      | zero =>
        simp only [List.getElem_cons_zero] at h
        subst h
        simp
      | succ i =>
        simp only [List.getElem_cons_succ] at h
        have := ih i (by simpa using hi) h
        simp only [List.set_cons_succ, List.filter_cons]
        split <;> simp_all
  unfold falses
  rw [Array.toList_setIfInBounds]
  exact key L.toList i (by simpa using hi) (by simpa using h)

theorem wpAny_inv {P : Program} {ops : Array Oper} {Q : Exit → Act → World → Prop} (hback : backB ops = true) (Inv : Array Bool → Act → World → Prop)
    (hstep : ∀ (i : Nat) (o : Oper) (L : Array Bool) (a : Act) (w : World), ops[i]? = some o → L.size = ops.size → Inv L a w → L.getD i false = false → (∀ e ∈ o.after, Region.binds .any e = true → L.getD e.on false = true) →
      if Region.wanted o (yielded ops a.tmps) then o.wp P a w (Inv (L.setIfInBounds i true)) Q else Inv (L.setIfInBounds i true) (a.put o.dst undef) w)
    (hend : ∀ (L : Array Bool) (a : Act) (w : World), L.size = ops.size → (∀ i, i < ops.size → L.getD i false = true) → Inv L a w → Q .normal a w) :
    ∀ (fuel : Nat) (L : Array Bool) (a : Act) (w : World), L.size = ops.size → falses L ≤ fuel → Inv L a w → wpAny P .any ops Q fuel L a w := by
  intro fuel
  induction fuel with
  | zero =>
    intro L a w hs hf hi
    have hr : Region.ready .any ops L = [] := by
      apply List.eq_nil_iff_forall_not_mem.2
      intro i hm
      obtain ⟨h1, h2, _⟩ := ready_of hm
      have : L[i]'(by omega) = false := by simpa [Array.getD, show i < L.size by omega] using h2
      have := falses_set (L := L) (i := i) (by omega) this
      omega
    exact ⟨hr, hend L a w hs (all_done hback hs hr) hi⟩
  | succ n ih =>
    intro L a w hs hf hi
    refine ⟨fun hr => hend L a w hs (all_done hback hs hr) hi, fun i hm => ?_⟩
    obtain ⟨h1, h2, o, ho, h3⟩ := ready_of hm
    have hl : L[i]'(by omega) = false := by simpa [Array.getD, show i < L.size by omega] using h2
    have hst := hstep i o L a w ho hs hi (by simp [Array.getD, show i < L.size by omega, hl]) h3
    have hf2 := falses_set (L := L) (i := i) (by omega) hl
    unfold wpOp
    simp only [ho]
    by_cases hw : Region.wanted o (yielded ops a.tmps) = true
    · rw [if_pos hw] at hst ⊢
      exact .inl (Oper.wp_mono (fun a' w' h => ih _ a' w' (by simpa using hs) (by omega) h) hst)
    · rw [if_neg hw] at hst ⊢
      exact ih _ _ _ (by simpa using hs) (by omega) hst

theorem wp_region_inv {P : Program} {id : Nat} {ops : Array Oper} {Q : Exit → Act → World → Prop} {a : Act} {w : World} (hm : P.follows .mixedOrders = true) (hback : backB ops = true) (Inv : Array Bool → Act → World → Prop)
    (h0 : Inv (Array.replicate ops.size false) a w.drew)
    (hstep : ∀ (i : Nat) (o : Oper) (L : Array Bool) (a : Act) (w : World), ops[i]? = some o → L.size = ops.size → Inv L a w → L.getD i false = false → (∀ e ∈ o.after, Region.binds .any e = true → L.getD e.on false = true) →
      if Region.wanted o (yielded ops a.tmps) then o.wp P a w (Inv (L.setIfInBounds i true)) Q else Inv (L.setIfInBounds i true) (a.put o.dst undef) w)
    (hend : ∀ (L : Array Bool) (a : Act) (w : World), L.size = ops.size → (∀ i, i < ops.size → L.getD i false = true) → Inv L a w → Q .normal a w) : (Code.region id ops true).wp P Q a w := by
  refine wp_region_any hm (wpAny_inv hback Inv hstep hend ops.size _ a _ (by simp) ?_ h0)
  unfold falses
  exact Nat.le_trans (List.length_filter_le _ _) (by simp)
end Go.Proofs.Ytjijfgkmjachnaa

namespace Go.Proofs.Ytjijfgkmjachnaa
set_option linter.unusedVariables false
set_option linter.unusedSimpArgs false
open Go.RowKit

theorem R8.fin {C : Ctx} {cL cF cN : Value} {L : Array Bool} {a : Act} {W : World} (h : R8 C cL cF cN L a W) (hall : ∀ i, i < 25 → L.getD i false = true) (h1 : C.B ≤ C.bn) (h2 : C.B ≤ C.bf) (h3 : C.B ≤ C.bw) :
    St C.B W C.bn C.bf C.bw (C.zs ++ [C.ent]) C.mm cL cF cN := by
  have a8 := hall 8 (by omega); have a13 := hall 13 (by omega); have a18 := hall 18 (by omega); have a20 := hall 20 (by omega); have a22 := hall 22 (by omega); have a24 := hall 24 (by omega)
  have e1 := h.fbx; have e2 := h.oL; have e3 := h.oF; have e4 := h.oN
  rw [a20, a22, a24] at e1; rw [a8] at e2; rw [a13] at e3; rw [a18] at e4
  exact ⟨h.num, e1, h.wbx, e2, e3, e4, h.ne, h.nF, h.nN, h1, h2, h3⟩

def firstReg (k : Nat) : Code → Option (Array Oper)
  | .region id ops _ => if id = k then some ops else none
  | .seq x y => match firstReg k x with | some o => some o | none => firstReg k y
  | .cond _ x y => match firstReg k x with | some o => some o | none => firstReg k y
  | .block _ x => firstReg k x
  | .loop x => firstReg k x
  | .scope x => firstReg k x
  | _ => none
noncomputable def ops8 : Array Oper := ((Try.f43.body.bind (firstReg 8)).getD #[])

set_option maxRecDepth 100000 in
set_option maxHeartbeats 4000000 in
theorem region8 (C : Ctx) (Q : Exit → Act → World → Prop) (a : Act) (w : World) (h0 : Inv8 C (Array.replicate 25 false) a w.drew) (hBW : C.B ≤ C.W0.heap.size) (hlen : C.zs.length < 1000000000)
    (fL : ∃ A c, C.vL = .slice A C.zs.length c) (fF : ∃ A c, C.vF = .slice A C.zs.length c) (fN : ∃ A c, C.vN = .slice A C.zs.length c)
    (hend : ∀ L a' W cL cF cN, R8 C cL cF cN L a' W → (∀ i, i < 25 → L.getD i false = true) → Q .normal a' W) :
    (Code.region 8 ops8 true).wp Try.prog Q a w := by
  refine wp_region_inv (by kernel_rfl) (by kernel_rfl) (Inv8 C) h0 ?_ ?_
  · intro i o L a W ho hs hI hf hpre
    obtain ⟨cL, cF, cN, h⟩ := hI
    have hL : L.size = 25 := hs
    have hi : i < 25 := by
      have := (Array.getElem?_eq_some_iff.1 ho).1
      exact this
    conv at ho => lhs; arg 1; whnf
    rcases i with _ | _ | _ | _ | _ | _ | _ | _ | _ | _ | _ | _ | _ | _ | _ | _ | _ | _ | _ | _ | _ | _ | _ | _ | _ | i
    -- operation 0
    · simp only [List.getElem?_toArray, List.getElem?_cons_zero, Option.some.injEq] at ho
      subst ho
      simp only [Region.wanted, if_true]
      have s2 : a.tmps.getD 2 undef = .pointer (some ⟨C.bf, 0, none⟩) := h.bs (2, _) (by simp [base8])
      have hq := h.pure hL (i := 0) (d := 26) (v := .pointer (some ⟨C.bf, 0, none⟩)) (by omega) (by omega) (by simp [slots]) (by simp) (by simp)
      have HQ := Lib.hid hq
      clear hq h hpre
      go_simp
      exact HQ.out
    -- operation 1
    · simp only [List.getElem?_toArray, List.getElem?_cons_zero, List.getElem?_cons_succ, Option.some.injEq] at ho
      subst ho
      simp only [Region.wanted, if_true, Nat.zero_add] at hf ⊢
      have p0 : a.tmps.getD 26 undef = .pointer (some ⟨C.bf, 0, none⟩) := h.sl (0, 26, _) (by simp [slots]) (hpre ⟨0, .data⟩ (by simp) rfl)
      have p0' : a.tmps[26]?.getD undef = .pointer (some ⟨C.bf, 0, none⟩) := by rw [← Array.getD_eq_getD_getElem?]; exact p0
      have hf20 : L.getD 20 false = false := by cases hq : L.getD 20 false with | false => rfl | true => (have := (h.od.1 hq).1; rw [hf] at this; cases this)
      have c1 : W.cell? ⟨C.bf, 0, none⟩ = some (C.vL) := by have := h.fbx; simp only [World.cell?, this, hf20]; rfl
      obtain ⟨AA, cc, ee⟩ : ∃ A c, C.vL = .slice A C.zs.length c := fL
      rw [ee] at c1
      have hq := h.pure hL (i := 1) (d := 27) (v := .slice AA C.zs.length cc) (by omega) (by omega) (by simp [slots, ee]) (by simp) (by simp)
      have HQ := Lib.hid hq
      clear hq h hpre
      go_simp
      exact HQ.out
    -- operation 2
    · simp only [List.getElem?_toArray, List.getElem?_cons_zero, List.getElem?_cons_succ, Option.some.injEq] at ho
      subst ho
      simp only [Region.wanted, if_true, Nat.zero_add, Nat.reduceAdd] at hf ⊢
      have s4 : a.tmps.getD 4 undef = .pointer (some ⟨C.b4, 0, none⟩) := h.bs (4, _) (by simp [base8])
      have hq := h.pure hL (i := 2) (d := 28) (v := .pointer (some ⟨C.b4, 0, none⟩)) (by omega) (by omega) (by simp [slots]) (by simp) (by simp)
      have HQ := Lib.hid hq
      clear hq h hpre
      go_simp
      exact HQ.out
    -- operation 3
    · simp only [List.getElem?_toArray, List.getElem?_cons_zero, List.getElem?_cons_succ, Option.some.injEq] at ho
      subst ho
      simp only [Region.wanted, if_true, Nat.zero_add, Nat.reduceAdd] at hf ⊢
      have p2 : a.tmps.getD 28 undef = .pointer (some ⟨C.b4, 0, none⟩) := h.sl (2, 28, _) (by simp [slots]) (hpre ⟨2, .data⟩ (by simp) rfl)
      have p2' : a.tmps[28]?.getD undef = .pointer (some ⟨C.b4, 0, none⟩) := by rw [← Array.getD_eq_getD_getElem?]; exact p2
      have c1 : W.cell? ⟨C.b4, 0, none⟩ = some (.int .i64 C.t.kind) := by have := h.nbx; simp only [World.cell?, this]; rfl
      have hq := h.pure hL (i := 3) (d := 29) (v := .int .i64 C.t.kind) (by omega) (by omega) (by simp [slots]) (by simp) (by simp)
      have HQ := Lib.hid hq
      clear hq h hpre
      go_simp
      exact HQ.out
    -- operation 4
    · simp only [List.getElem?_toArray, List.getElem?_cons_zero, List.getElem?_cons_succ, Option.some.injEq] at ho
      subst ho
      simp only [Region.wanted, if_true, Nat.zero_add, Nat.reduceAdd] at hf ⊢
      have s4 : a.tmps.getD 4 undef = .pointer (some ⟨C.b4, 0, none⟩) := h.bs (4, _) (by simp [base8])
      have hq := h.pure hL (i := 4) (d := 30) (v := .pointer (some ⟨C.b4, 1, none⟩)) (by omega) (by omega) (by simp [slots]) (by simp) (by simp)
      have HQ := Lib.hid hq
      clear hq h hpre
      go_simp
      exact HQ.out
    -- operation 5
    · simp only [List.getElem?_toArray, List.getElem?_cons_zero, List.getElem?_cons_succ, Option.some.injEq] at ho
      subst ho
      simp only [Region.wanted, if_true, Nat.zero_add, Nat.reduceAdd] at hf ⊢
      have p4 : a.tmps.getD 30 undef = .pointer (some ⟨C.b4, 1, none⟩) := h.sl (4, 30, _) (by simp [slots]) (hpre ⟨4, .data⟩ (by simp) rfl)
      have p4' : a.tmps[30]?.getD undef = .pointer (some ⟨C.b4, 1, none⟩) := by rw [← Array.getD_eq_getD_getElem?]; exact p4
      have c1 : W.cell? ⟨C.b4, 1, none⟩ = some (.string C.t.text) := by have := h.nbx; simp only [World.cell?, this]; rfl
      have hq := h.pure hL (i := 5) (d := 31) (v := .string C.t.text) (by omega) (by omega) (by simp [slots]) (by simp) (by simp)
      have HQ := Lib.hid hq
      clear hq h hpre
      go_simp
      exact HQ.out
    -- operation 6
    · simp only [List.getElem?_toArray, List.getElem?_cons_zero, List.getElem?_cons_succ, Option.some.injEq] at ho
      subst ho
      simp only [Region.wanted, if_true, Nat.zero_add, Nat.reduceAdd] at hf ⊢
      have p3 : a.tmps.getD 29 undef = .int .i64 C.t.kind := h.sl (3, 29, _) (by simp [slots]) (hpre ⟨3, .data⟩ (by simp) rfl)
      have p3' : a.tmps[29]?.getD undef = .int .i64 C.t.kind := by rw [← Array.getD_eq_getD_getElem?]; exact p3
      have p5 : a.tmps.getD 31 undef = .string C.t.text := h.sl (5, 31, _) (by simp [slots]) (hpre ⟨5, .data⟩ (by simp) rfl)
      have p5' : a.tmps[31]?.getD undef = .string C.t.text := by rw [← Array.getD_eq_getD_getElem?]; exact p5
      have hq := h.pure hL (i := 6) (d := 32) (v := .agg #[.int .i64 C.t.kind, .string C.t.text]) (by omega) (by omega) (by simp [slots]) (by simp) (by simp)
      have HQ := Lib.hid hq
      clear hq h hpre
      go_simp
      exact HQ.out
    -- operation 7
    · simp only [List.getElem?_toArray, List.getElem?_cons_zero, List.getElem?_cons_succ, Option.some.injEq] at ho
      subst ho
      simp only [Region.wanted, if_true, Nat.zero_add, Nat.reduceAdd] at hf ⊢
      have p6 : a.tmps.getD 32 undef = .agg #[.int .i64 C.t.kind, .string C.t.text] := h.sl (6, 32, _) (by simp [slots]) (hpre ⟨6, .data⟩ (by simp) rfl)
      have p6' : a.tmps[32]?.getD undef = .agg #[.int .i64 C.t.kind, .string C.t.text] := by rw [← Array.getD_eq_getD_getElem?]; exact p6
      have HQ := Lib.hid (Inv8.build7 h hL)
      clear h hpre
      go_simp
      exact HQ.out
    -- operation 8
    · simp only [List.getElem?_toArray, List.getElem?_cons_zero, List.getElem?_cons_succ, Option.some.injEq] at ho
      subst ho
      simp only [Region.wanted, if_true, Nat.zero_add, Nat.reduceAdd] at hf ⊢
      have pv : a.tmps.getD 27 undef = C.vL := h.sl (1, 27, _) (by simp [slots]) (hpre ⟨1, .data⟩ (by simp) rfl)
      obtain ⟨g0, hg0, hh0⟩ := h.b1 (hpre ⟨7, .data⟩ (by simp) rfl) hf
      have hst : L.getD 20 false = false := by cases hq : L.getD 20 false with | false => rfl | true => (have := (h.od.1 hq).2; rw [hf] at this; cases this)
      have how := h.oL
      rw [hf, Ctx.xs_false, h.vL hf] at how
      obtain ⟨i0, hi0, hz0, hz1, hz2⟩ := info_parts inf70
      refine wp_append_lies W _ _ 64 rfl C.B 70 i0 _ 2 24 Try.underlying64 hi0 hz0 hz1 hz2 rfl (by omega) C.vL C.zs.length _ pv how ⟨g0, 0, none⟩ 1 1 [.int .i64 C.t.kind, .string C.t.text] hg0 rfl (World.news_of_block hh0) (by simp [Value.oneCell']) (by omega) (by unfold maxLen; omega) (by omega) (Nat.le_trans hBW h.kp.size) _ rfl ?_
      intro g cap w1 ho1 hg1 hat _
      exact Inv8.app8 h hL hf hst ho1 (by rw [h.vL hf]; exact hg1) (by rw [h.vL hf]; exact hat)
    -- operation 9
    · simp only [List.getElem?_toArray, List.getElem?_cons_zero, List.getElem?_cons_succ, Option.some.injEq] at ho
      subst ho
      simp only [Region.wanted, if_true, Nat.zero_add, Nat.reduceAdd] at hf ⊢
      have s2 : a.tmps.getD 2 undef = .pointer (some ⟨C.bf, 0, none⟩) := h.bs (2, _) (by simp [base8])
      have hq := h.pure hL (i := 9) (d := 35) (v := .pointer (some ⟨C.bf, 1, none⟩)) (by omega) (by omega) (by simp [slots]) (by simp) (by simp)
      have HQ := Lib.hid hq
      clear hq h hpre
      go_simp
      exact HQ.out
    -- operation 10
    · simp only [List.getElem?_toArray, List.getElem?_cons_zero, List.getElem?_cons_succ, Option.some.injEq] at ho
      subst ho
      simp only [Region.wanted, if_true, Nat.zero_add, Nat.reduceAdd] at hf ⊢
      have p9 : a.tmps.getD 35 undef = .pointer (some ⟨C.bf, 1, none⟩) := h.sl (9, 35, _) (by simp [slots]) (hpre ⟨9, .data⟩ (by simp) rfl)
      have p9' : a.tmps[35]?.getD undef = .pointer (some ⟨C.bf, 1, none⟩) := by rw [← Array.getD_eq_getD_getElem?]; exact p9
      have hf22 : L.getD 22 false = false := by cases hq : L.getD 22 false with | false => rfl | true => (have := (h.od.2.1 hq).1; rw [hf] at this; cases this)
      have c1 : W.cell? ⟨C.bf, 1, none⟩ = some (C.vF) := by have := h.fbx; simp only [World.cell?, this, hf22]; rfl
      obtain ⟨AA, cc, ee⟩ : ∃ A c, C.vF = .slice A C.zs.length c := fF
      rw [ee] at c1
      have hq := h.pure hL (i := 10) (d := 36) (v := .slice AA C.zs.length cc) (by omega) (by omega) (by simp [slots, ee]) (by simp) (by simp)
      have HQ := Lib.hid hq
      clear hq h hpre
      go_simp
      exact HQ.out
    -- operation 11
    · simp only [List.getElem?_toArray, List.getElem?_cons_zero, List.getElem?_cons_succ, Option.some.injEq] at ho
      subst ho
      simp only [Region.wanted, if_true, Nat.zero_add, Nat.reduceAdd] at hf ⊢
      have s6 : a.tmps.getD 6 undef = .int .i64 (C.first : Nat) := h.bs (6, _) (by simp [base8])
      have hq := h.pure hL (i := 11) (d := 37) (v := .int .i64 (C.first : Nat)) (by omega) (by omega) (by simp [slots]) (by simp) (by simp)
      have HQ := Lib.hid hq
      clear hq h hpre
      go_simp
      exact HQ.out
    -- operation 12
    · simp only [List.getElem?_toArray, List.getElem?_cons_zero, List.getElem?_cons_succ, Option.some.injEq] at ho
      subst ho
      simp only [Region.wanted, if_true, Nat.zero_add, Nat.reduceAdd] at hf ⊢
      have p11 : a.tmps.getD 37 undef = .int .i64 (C.first : Nat) := h.sl (11, 37, _) (by simp [slots]) (hpre ⟨11, .data⟩ (by simp) rfl)
      have p11' : a.tmps[37]?.getD undef = .int .i64 (C.first : Nat) := by rw [← Array.getD_eq_getD_getElem?]; exact p11
      have HQ := Lib.hid (Inv8.build12 h hL)
      clear h hpre
      go_simp
      exact HQ.out
    -- operation 13
    · simp only [List.getElem?_toArray, List.getElem?_cons_zero, List.getElem?_cons_succ, Option.some.injEq] at ho
      subst ho
      simp only [Region.wanted, if_true, Nat.zero_add, Nat.reduceAdd] at hf ⊢
      have pv : a.tmps.getD 36 undef = C.vF := h.sl (10, 36, _) (by simp [slots]) (hpre ⟨10, .data⟩ (by simp) rfl)
      obtain ⟨g0, hg0, hh0, _⟩ := h.b2 (hpre ⟨12, .data⟩ (by simp) rfl) hf
      have hst : L.getD 22 false = false := by cases hq : L.getD 22 false with | false => rfl | true => (have := (h.od.2.1 hq).2; rw [hf] at this; cases this)
      have how := h.oF
      rw [hf, Ctx.xs_false, h.vF hf] at how
      obtain ⟨i0, hi0, hz0, hz1, hz2⟩ := info_parts inf3
      refine wp_append_lies W _ _ 34 rfl C.B 3 i0 _ 1 8 Try.underlying34 hi0 hz0 hz1 hz2 rfl (by omega) C.vF C.zs.length _ pv how ⟨g0, 0, none⟩ 1 1 [.int .i64 (C.first : Nat)] hg0 rfl (World.news_of_block hh0) (by simp [Value.oneCell']) (by omega) (by unfold maxLen; omega) (by omega) (Nat.le_trans hBW h.kp.size) _ rfl ?_
      intro g cap w1 ho1 hg1 hat _
      exact Inv8.app13 h hL hf hst ho1 (by rw [h.vF hf]; exact hg1) (by rw [h.vF hf]; exact hat)
    -- operation 14
    · simp only [List.getElem?_toArray, List.getElem?_cons_zero, List.getElem?_cons_succ, Option.some.injEq] at ho
      subst ho
      simp only [Region.wanted, if_true, Nat.zero_add, Nat.reduceAdd] at hf ⊢
      have s2 : a.tmps.getD 2 undef = .pointer (some ⟨C.bf, 0, none⟩) := h.bs (2, _) (by simp [base8])
      have hq := h.pure hL (i := 14) (d := 40) (v := .pointer (some ⟨C.bf, 2, none⟩)) (by omega) (by omega) (by simp [slots]) (by simp) (by simp)
      have HQ := Lib.hid hq
      clear hq h hpre
      go_simp
      exact HQ.out
    -- operation 15
    · simp only [List.getElem?_toArray, List.getElem?_cons_zero, List.getElem?_cons_succ, Option.some.injEq] at ho
      subst ho
      simp only [Region.wanted, if_true, Nat.zero_add, Nat.reduceAdd] at hf ⊢
      have p14 : a.tmps.getD 40 undef = .pointer (some ⟨C.bf, 2, none⟩) := h.sl (14, 40, _) (by simp [slots]) (hpre ⟨14, .data⟩ (by simp) rfl)
      have p14' : a.tmps[40]?.getD undef = .pointer (some ⟨C.bf, 2, none⟩) := by rw [← Array.getD_eq_getD_getElem?]; exact p14
      have hf24 : L.getD 24 false = false := by cases hq : L.getD 24 false with | false => rfl | true => (have := (h.od.2.2 hq).1; rw [hf] at this; cases this)
      have c1 : W.cell? ⟨C.bf, 2, none⟩ = some (C.vN) := by have := h.fbx; simp only [World.cell?, this, hf24]; rfl
      obtain ⟨AA, cc, ee⟩ : ∃ A c, C.vN = .slice A C.zs.length c := fN
      rw [ee] at c1
      have hq := h.pure hL (i := 15) (d := 41) (v := .slice AA C.zs.length cc) (by omega) (by omega) (by simp [slots, ee]) (by simp) (by simp)
      have HQ := Lib.hid hq
      clear hq h hpre
      go_simp
      exact HQ.out
    -- operation 16
    · simp only [List.getElem?_toArray, List.getElem?_cons_zero, List.getElem?_cons_succ, Option.some.injEq] at ho
      subst ho
      simp only [Region.wanted, if_true, Nat.zero_add, Nat.reduceAdd] at hf ⊢
      have s5 : a.tmps.getD 5 undef = .int .i64 (C.me : Nat) := h.bs (5, _) (by simp [base8])
      have hq := h.pure hL (i := 16) (d := 42) (v := .int .i64 (C.me : Nat)) (by omega) (by omega) (by simp [slots]) (by simp) (by simp)
      have HQ := Lib.hid hq
      clear hq h hpre
      go_simp
      exact HQ.out
    -- operation 17
    · simp only [List.getElem?_toArray, List.getElem?_cons_zero, List.getElem?_cons_succ, Option.some.injEq] at ho
      subst ho
      simp only [Region.wanted, if_true, Nat.zero_add, Nat.reduceAdd] at hf ⊢
      have p16 : a.tmps.getD 42 undef = .int .i64 (C.me : Nat) := h.sl (16, 42, _) (by simp [slots]) (hpre ⟨16, .data⟩ (by simp) rfl)
      have p16' : a.tmps[42]?.getD undef = .int .i64 (C.me : Nat) := by rw [← Array.getD_eq_getD_getElem?]; exact p16
      have HQ := Lib.hid (Inv8.build17 h hL)
      clear h hpre
      go_simp
      exact HQ.out
    -- operation 18
    · simp only [List.getElem?_toArray, List.getElem?_cons_zero, List.getElem?_cons_succ, Option.some.injEq] at ho
      subst ho
      simp only [Region.wanted, if_true, Nat.zero_add, Nat.reduceAdd] at hf ⊢
      have pv : a.tmps.getD 41 undef = C.vN := h.sl (15, 41, _) (by simp [slots]) (hpre ⟨15, .data⟩ (by simp) rfl)
      obtain ⟨g0, hg0, hh0, _⟩ := h.b3 (hpre ⟨17, .data⟩ (by simp) rfl) hf
      have hst : L.getD 24 false = false := by cases hq : L.getD 24 false with | false => rfl | true => (have := (h.od.2.2 hq).2; rw [hf] at this; cases this)
      have how := h.oN
      rw [hf, Ctx.xs_false, h.vN hf] at how
      obtain ⟨i0, hi0, hz0, hz1, hz2⟩ := info_parts inf3
      refine wp_append_lies W _ _ 34 rfl C.B 3 i0 _ 1 8 Try.underlying34 hi0 hz0 hz1 hz2 rfl (by omega) C.vN C.zs.length _ pv how ⟨g0, 0, none⟩ 1 1 [.int .i64 (C.me : Nat)] hg0 rfl (World.news_of_block hh0) (by simp [Value.oneCell']) (by omega) (by unfold maxLen; omega) (by omega) (Nat.le_trans hBW h.kp.size) _ rfl ?_
      intro g cap w1 ho1 hg1 hat _
      exact Inv8.app18 h hL hf hst ho1 (by rw [h.vN hf]; exact hg1) (by rw [h.vN hf]; exact hat)
    -- operation 19
    · simp only [List.getElem?_toArray, List.getElem?_cons_zero, List.getElem?_cons_succ, Option.some.injEq] at ho
      subst ho
      simp only [Region.wanted, if_true, Nat.zero_add, Nat.reduceAdd] at hf ⊢
      have s2 : a.tmps.getD 2 undef = .pointer (some ⟨C.bf, 0, none⟩) := h.bs (2, _) (by simp [base8])
      have hq := h.pure hL (i := 19) (d := 45) (v := .pointer (some ⟨C.bf, 0, none⟩)) (by omega) (by omega) (by simp [slots]) (by simp) (by simp)
      have HQ := Lib.hid hq
      clear hq h hpre
      go_simp
      exact HQ.out
    -- operation 20
    · simp only [List.getElem?_toArray, List.getElem?_cons_zero, List.getElem?_cons_succ, Option.some.injEq] at ho
      subst ho
      simp only [Region.wanted, if_true, Nat.zero_add, Nat.reduceAdd] at hf ⊢
      have q1 : L.getD 8 false = true := hpre ⟨8, .data⟩ (by simp) rfl
      have q2 : L.getD 1 false = true := hpre ⟨1, .phase⟩ (by simp) rfl
      have pp : a.tmps.getD 45 undef = .pointer (some ⟨C.bf, 0, none⟩) := h.sl (19, 45, _) (by simp [slots]) (hpre ⟨19, .data⟩ (by simp) rfl)
      have pv : a.tmps.getD 34 undef = cL := h.sl (8, 34, _) (by simp [slots]) q1
      have HQ := Lib.hid (Inv8.store20 h hL q2 q1)
      obtain ⟨AA, cc, ee, _⟩ := own_form h.oL
      have fz : W.frozen? ⟨C.bf, 0, none⟩ = false := by have := h.fbx; simp [World.frozen?, this]
      obtain ⟨vv, c1⟩ : ∃ vv, W.cell? ⟨C.bf, 0, none⟩ = some vv := ⟨_, by have := h.fbx; simp only [World.cell?, this]; rfl⟩
      rw [q1] at ee
      rw [ee] at pv HQ
      clear h hpre
      go_simp
      exact HQ.out
    -- operation 21
    · simp only [List.getElem?_toArray, List.getElem?_cons_zero, List.getElem?_cons_succ, Option.some.injEq] at ho
      subst ho
      simp only [Region.wanted, if_true, Nat.zero_add, Nat.reduceAdd] at hf ⊢
      have s2 : a.tmps.getD 2 undef = .pointer (some ⟨C.bf, 0, none⟩) := h.bs (2, _) (by simp [base8])
      have hq := h.pure hL (i := 21) (d := 46) (v := .pointer (some ⟨C.bf, 1, none⟩)) (by omega) (by omega) (by simp [slots]) (by simp) (by simp)
      have HQ := Lib.hid hq
      clear hq h hpre
      go_simp
      exact HQ.out
    -- operation 22
    · simp only [List.getElem?_toArray, List.getElem?_cons_zero, List.getElem?_cons_succ, Option.some.injEq] at ho
      subst ho
      simp only [Region.wanted, if_true, Nat.zero_add, Nat.reduceAdd] at hf ⊢
      have q1 : L.getD 13 false = true := hpre ⟨13, .data⟩ (by simp) rfl
      have q2 : L.getD 10 false = true := hpre ⟨10, .phase⟩ (by simp) rfl
      have pp : a.tmps.getD 46 undef = .pointer (some ⟨C.bf, 1, none⟩) := h.sl (21, 46, _) (by simp [slots]) (hpre ⟨21, .data⟩ (by simp) rfl)
      have pv : a.tmps.getD 39 undef = cF := h.sl (13, 39, _) (by simp [slots]) q1
      have HQ := Lib.hid (Inv8.store22 h hL q2 q1)
      obtain ⟨AA, cc, ee, _⟩ := own_form h.oF
      have fz : W.frozen? ⟨C.bf, 1, none⟩ = false := by have := h.fbx; simp [World.frozen?, this]
      obtain ⟨vv, c1⟩ : ∃ vv, W.cell? ⟨C.bf, 1, none⟩ = some vv := ⟨_, by have := h.fbx; simp only [World.cell?, this]; rfl⟩
      rw [q1] at ee
      rw [ee] at pv HQ
      clear h hpre
      go_simp
      exact HQ.out
    -- operation 23
    · simp only [List.getElem?_toArray, List.getElem?_cons_zero, List.getElem?_cons_succ, Option.some.injEq] at ho
      subst ho
      simp only [Region.wanted, if_true, Nat.zero_add, Nat.reduceAdd] at hf ⊢
      have s2 : a.tmps.getD 2 undef = .pointer (some ⟨C.bf, 0, none⟩) := h.bs (2, _) (by simp [base8])
      have hq := h.pure hL (i := 23) (d := 47) (v := .pointer (some ⟨C.bf, 2, none⟩)) (by omega) (by omega) (by simp [slots]) (by simp) (by simp)
      have HQ := Lib.hid hq
      clear hq h hpre
      go_simp
      exact HQ.out
    -- operation 24
    · simp only [List.getElem?_toArray, List.getElem?_cons_zero, List.getElem?_cons_succ, Option.some.injEq] at ho
      subst ho
      simp only [Region.wanted, if_true, Nat.zero_add, Nat.reduceAdd] at hf ⊢
      have q1 : L.getD 18 false = true := hpre ⟨18, .data⟩ (by simp) rfl
      have q2 : L.getD 15 false = true := hpre ⟨15, .phase⟩ (by simp) rfl
      have pp : a.tmps.getD 47 undef = .pointer (some ⟨C.bf, 2, none⟩) := h.sl (23, 47, _) (by simp [slots]) (hpre ⟨23, .data⟩ (by simp) rfl)
      have pv : a.tmps.getD 44 undef = cN := h.sl (18, 44, _) (by simp [slots]) q1
      have HQ := Lib.hid (Inv8.store24 h hL q2 q1)
      obtain ⟨AA, cc, ee, _⟩ := own_form h.oN
      have fz : W.frozen? ⟨C.bf, 2, none⟩ = false := by have := h.fbx; simp [World.frozen?, this]
      obtain ⟨vv, c1⟩ : ∃ vv, W.cell? ⟨C.bf, 2, none⟩ = some vv := ⟨_, by have := h.fbx; simp only [World.cell?, this]; rfl⟩
      rw [q1] at ee
      rw [ee] at pv HQ
      clear h hpre
      go_simp
      exact HQ.out
    · omega
  · intro L a' W hs hall hI
    obtain ⟨cL, cF, cN, h⟩ := hI
    exact hend L a' W cL cF cN h hall
end Go.Proofs.Ytjijfgkmjachnaa

namespace Go.Proofs.Ytjijfgkmjachnaa
set_option linter.unusedVariables false
set_option linter.unusedSimpArgs false
open Go.RowKit

theorem Keeps.trans' {S S' : Nat → Prop} {a b c : World} (h : Keeps S a b) (k : Keeps S' b c) (hs : ∀ i, i < a.heap.size → S' i → S i) : Keeps S a c :=
  ⟨k.os.trans h.os, k.tape.trans h.tape, k.output.trans h.output, Nat.le_trans h.size k.size, fun i hi hn => (k.block i (Nat.lt_of_lt_of_le hi h.size) (fun e => hn (hs i hi e))).trans (h.block i hi hn)⟩

/-- What the walk may write. -/
def wr8 (bn bf : Nat) (vL vF vN : Value) (b : Nat) : Prop := b = bn ∨ b = bf ∨ rb vL vF vN b

theorem St.lts {B : Nat} {W : World} {bn bf bw : Nat} {xs : List Ent} {m : Nat} {vL vF vN : Value} (h : St B W bn bf bw xs m vL vF vN) : ∀ b, wr8 bn bf vL vF vN b → B ≤ b ∧ b < W.heap.size := by
  intro b hb
  rcases hb with rfl | rfl | hb | hb | hb
  · exact ⟨h.Bn, hlt h.num⟩
  · exact ⟨h.Bf, hlt h.fbx⟩
  · obtain ⟨h1, cur, h2⟩ := own_block_at h.oL hb; exact ⟨h1, hlt h2⟩
  · obtain ⟨h1, cur, h2⟩ := own_block_at h.oF hb; exact ⟨h1, hlt h2⟩
  · obtain ⟨h1, cur, h2⟩ := own_block_at h.oN hb; exact ⟨h1, hlt h2⟩
theorem St.alloc {B : Nat} {W : World} {bn bf bw : Nat} {xs : List Ent} {m : Nat} {vL vF vN : Value} (h : St B W bn bf bw xs m vL vF vN) (o : Obj) : St B (W.alloc o) bn bf bw xs m vL vF vN :=
  ⟨(Below.heap_alloc _ _ _ (hlt h.num)).trans h.num, (Below.heap_alloc _ _ _ (hlt h.fbx)).trans h.fbx, (Below.heap_alloc _ _ _ (hlt h.wbx)).trans h.wbx, h.oL.alloc _, h.oF.alloc _, h.oN.alloc _, h.ne, h.nF, h.nN, h.Bn, h.Bf, h.Bw⟩
theorem St.drewN {B : Nat} {W : World} {bn bf bw : Nat} {xs : List Ent} {m : Nat} {vL vF vN : Value} (h : St B W bn bf bw xs m vL vF vN) (n : Nat) : St B (W.drewN n) bn bf bw xs m vL vF vN :=
  ⟨h.num, h.fbx, h.wbx, h.oL, h.oF, h.oN, h.ne, h.nF, h.nN, h.Bn, h.Bf, h.Bw⟩
theorem St.count {B : Nat} {W : World} {bn bf bw : Nat} {xs : List Ent} {m : Nat} {vL vF vN : Value} (h : St B W bn bf bw xs m vL vF vN) (m' : Nat) : St B (W.setCell ⟨bn, 0, none⟩ (.int .i64 (m' : Nat))) bn bf bw xs m' vL vF vN := by
  have hs : ∀ k, k ≠ bn → (W.setCell ⟨bn, 0, none⟩ (.int .i64 (m' : Nat))).heap[k]? = W.heap[k]? := fun k hk => Below.heap_setCell _ _ _ _ hk
  refine ⟨by simp [World.setCell, Array.getElem?_modify, h.num], (hs _ (heap_ne_type h.fbx h.num (by decide))).trans h.fbx, (hs _ (heap_ne_type h.wbx h.num (by decide))).trans h.wbx, own_move h.oL (fun k hk => ?_), own_move h.oF (fun k hk => ?_), own_move h.oN (fun k hk => ?_), h.ne, h.nF, h.nN, h.Bn, h.Bf, h.Bw⟩
  · obtain ⟨_, cur, hc⟩ := own_block_at h.oL hk; exact hs _ (heap_ne_type hc h.num (by decide))
  · exact hs _ (fun e => h.nF (by rw [hk, e]))
  · exact hs _ (fun e => h.nN (by rw [hk, e]))

/-- after j kids -/
structure L43 (B : Nat) (W wr : World) (bn bf bw : Nat) (t : Nd) (A : Option Addr) (c : Nat) (xs : List Ent) (m j : Nat) (vL vF vN : Value) : Prop where
  ex : ∃ vL1 vF1 vN1, St B wr bn bf bw (xs ++ postK (t.kids.take j) xs.length (m + 1)) (m + 1 + Nd.sizes (t.kids.take j)) vL1 vF1 vN1 ∧ ∀ b, rb vL1 vF1 vN1 b → rb vL vF vN b ∨ W.heap.size + 1 ≤ b
  kp : Keeps (wr8 bn bf vL vF vN) W wr
  sz : W.heap.size < wr.heap.size
  bx : wr.heap[W.heap.size]? = some (.cells #[.int .i64 t.kind, .string t.text, .int .i64 t.pos, .int .i64 t.fin, .slice A t.kids.length c] 24 (0, 0))

set_option maxRecDepth 100000 in
set_option maxHeartbeats 4000000 in
theorem walk (w0 : World) (bn bf bw : Nat) (n : Nat) : ∀ (t : Nd) (A : Option Addr) (c : Nat) (xs : List Ent) (m : Nat) (vL vF vN : Value) (W : World), t.size ≤ n → RN w0 t A c → Below w0.heap.size w0 W →
    St w0.heap.size W bn bf bw xs m vL vF vN → xs.length + t.size ≤ 1000000 → m + t.size ≤ 1000000 →
    Calls Try.prog 43 #[t.val A c, .pointer (some ⟨bn, 0, none⟩), .pointer (some ⟨bf, 0, none⟩), .pointer (some ⟨bw, 0, none⟩)] W fun e W' => e = .returned (.tuple #[]) ∧
      ∃ vL' vF' vN', St w0.heap.size W' bn bf bw (xs ++ post t xs.length m) (m + t.size) vL' vF' vN' ∧ Keeps (wr8 bn bf vL vF vN) W W' ∧ ∀ b, rb vL' vF' vN' b → rb vL vF vN b ∨ W.heap.size ≤ b := by
  induction n with
  | zero => intro t A c xs m vL vF vN W h; have := t.size_pos; omega
  | succ n ih =>
    intro t A c xs m vL vF vN W hn hR hbw hS hx hm
    have hlen := hR.len
    obtain ⟨AL, cL, hAL, hcl⟩ := own_form hS.oL
    have hfL : ∃ A c, vL = .slice A xs.length c := ⟨AL, cL, hAL⟩
    have hfF : ∃ A c, vF = .slice A xs.length c := by obtain ⟨A, c, h, _⟩ := own_form hS.oF; exact ⟨A, c, h⟩
    have hfN : ∃ A c, vN = .slice A xs.length c := by obtain ⟨A, c, h, _⟩ := own_form hS.oN; exact ⟨A, c, h⟩
    have HIH := Lib.hid ih
    have hlb := St.lts hS
    have HLB := Lib.hid hlb
    clear ih hlb
    have hse := Lib.hid t.size_eq
    unfold Nd.val
    go_enter Try.func43, Try.ntmps43
    go_wp2_with fail
    obtain ⟨W1, hW1⟩ : ∃ W1, W.alloc (.cells #[.int .i64 t.kind, .string t.text, .int .i64 t.pos, .int .i64 t.fin, .slice A t.kids.length c] 24) = W1 := ⟨_, rfl⟩
    rw [hW1]
    have hS1 : St w0.heap.size W1 bn bf bw xs m vL vF vN := by rw [← hW1]; exact hS.alloc _
    have hz1 : W1.heap.size = W.heap.size + 1 := by rw [← hW1]; simp
    have hb4 : W1.heap[W.heap.size]? = some (.cells #[.int .i64 t.kind, .string t.text, .int .i64 t.pos, .int .i64 t.fin, .slice A t.kids.length c] 24 (0, 0)) := by rw [← hW1]; exact heap_alloc_new W _
    have hk1 : Keeps (wr8 bn bf vL vF vN) W W1 := by rw [← hW1]; exact (Keeps.refl _ _).alloc _
    have c1 : W1.cell? ⟨bn, 0, none⟩ = some (.int .i64 (m : Nat)) := by simp [World.cell?, hS1.num]
    have c2 : W1.cell? ⟨bf, 0, none⟩ = some (.slice AL xs.length cL) := by simp [World.cell?, hS1.fbx, hAL]
    have f1 : W1.frozen? ⟨bn, 0, none⟩ = false := by simp [World.frozen?, hS1.num]
    have c4 : W1.cell? ⟨W.heap.size, 4, none⟩ = some (.slice A t.kids.length c) := by simp [World.cell?, hb4]
    have hbnne : bn ≠ W.heap.size := by have := HLB.out bn (.inl rfl); omega
    have HAL := Lib.hid hAL
    have HZ1 := Lib.hid hz1
    have HB4 := Lib.hid hb4
    clear hAL hW1 hz1 hb4
    go_quiet (fail)
    go_wp2_with fail
    have hL0 : L43 w0.heap.size W ((W1.drewN nq).setCell ⟨bn, 0, none⟩ (.int .i64 ((m : Int) + 1))) bn bf bw t A c xs m 0 vL vF vN := by
      refine ⟨⟨vL, vF, vN, ?_, fun b h => .inl h⟩, (hk1.drewN nq).setCell (p := ⟨bn, 0, none⟩) (.inl (.inl rfl)) _, ?_, ?_⟩
      · have := (hS1.drewN nq).count (m + 1)
        simpa [postK_nil, Nd.sizes_nil] using this
      · have := HZ1.out; simp [World.setCell]; omega
      · rw [Below.heap_setCell _ _ _ _ hbnne.symm]; exact HB4.out
    clear c1 c2 f1 c4 hk1 hS1 hbnne HZ1 HB4 HAL
    go_loopw [18] (fun i wr => ∃ j : Nat, j ≤ t.kids.length ∧ i = .int .i64 j ∧ L43 w0.heap.size W wr bn bf bw t A c xs m j vL vF vN) (fun i _ => t.kids.length - (intOf i).toNat)
    case atStart => exact ⟨0, Nat.zero_le _, rfl, hL0⟩
    case round =>
      clear hL0
      obtain ⟨j, hj, rfl, hL⟩ := hrel
      obtain ⟨⟨vL1, vF1, vN1, hS2, hfr⟩, hkp, hsz, hbx⟩ := hL
      have hFR := Lib.hid hfr
      have hBX := Lib.hid hbx
      have hcw : wr.cell? ⟨bw, 0, none⟩ = some (walkV bn bf bw) := by simp [World.cell?, hS2.wbx]
      have hbb : Below w0.heap.size w0 wr := hbw.trans (hkp.below hbw.size (fun k hk => (HLB.out k hk).1))
      have hle := sizes_take_le t.kids j
      have hpl := postK_len (t.kids.take j) xs.length (m + 1)
      clear hfr hbx
      by_cases hlj : j < t.kids.length
      · obtain ⟨b, o, A', c', rfl, h5, hRk⟩ := hR.get j hlj
        obtain ⟨p0, p1, p2, p3, p4⟩ := h5.keep hbb h5.lt
        have hsk := t.size_get j hlj
        have hts := sizes_take_succ t.kids j hlj
        have hle2 := sizes_take_le t.kids (j + 1)
        have hse2 := hse.out
        have hps := Lib.hid (postK_take_succ t.kids j hlj xs.length (m + 1))
        have hcall := HIH.out t.kids[j] A' c' (xs ++ postK (t.kids.take j) xs.length (m + 1)) (m + 1 + Nd.sizes (t.kids.take j)) vL1 vF1 vN1 (wr.alloc (.cells #[.int .i64 t.kids[j].kind, .string t.kids[j].text, .int .i64 t.kids[j].pos, .int .i64 t.kids[j].fin, .slice A' t.kids[j].kids.length c'] 24)) (by omega) hRk (hbb.alloc hbb.size _) (hS2.alloc _) (by rw [List.length_append, hpl]; omega) (by omega)
        have HC := Lib.hid hcall
        have hTS := Lib.hid hts
        have hPL := Lib.hid hpl
        clear hcall hts hle2 hse2 hle hpl
        have hcw2 : ∀ o : Obj, (wr.alloc o).cell? ⟨bw, 0, none⟩ = some (walkV bn bf bw) := fun o => (cell_alloc_old _ _ _ (hlt hS2.wbx)).trans hcw
        unfold walkV at hcw2
        clear hcw
        go_wp2_with fail
        refine HC.out.mono ?_
        clear HC
        rintro e W3 ⟨rfl, vL2, vF2, vN2, hS3, hk3, hf3⟩
        have hL3 : L43 w0.heap.size W W3 bn bf bw t (some ⟨b, o, none⟩) c xs m (j + 1) vL vF vN := by
          have hzs : W.heap.size < (wr.alloc (.cells #[.int .i64 t.kids[j].kind, .string t.kids[j].text, .int .i64 t.kids[j].pos, .int .i64 t.kids[j].fin, .slice A' t.kids[j].kids.length c'] 24)).heap.size := by simp; omega
          refine ⟨⟨vL2, vF2, vN2, ?_, fun b hb => ?_⟩, hkp.trans' ((Keeps.refl (wr8 bn bf vL1 vF1 vN1) wr).alloc _ |>.trans hk3) (fun i hi h => ?_), by have := hk3.size; omega, ?_⟩
          · rw [hps.out, ← List.append_assoc, hTS.out]
            rw [List.length_append, hPL.out] at hS3
            rw [show m + 1 + (Nd.sizes (t.kids.take j) + (t.kids[j]).size) = m + 1 + Nd.sizes (t.kids.take j) + (t.kids[j]).size by omega]
            exact hS3
          · rcases hf3 b hb with h | h
            · exact hFR.out b h
            · exact .inr (by simp at h; omega)
          · rcases h with rfl | rfl | h
            · exact .inl rfl
            · exact .inr (.inl rfl)
            · rcases hFR.out i h with h | h
              · exact .inr (.inr h)
              · omega
          · rw [hk3.block _ hzs ?_, Below.heap_alloc _ _ _ hsz]; exact hBX.out
            intro h
            rcases h with h | h | h
            · have := HLB.out bn (.inl rfl); omega
            · have := HLB.out bf (.inr (.inl rfl)); omega
            · rcases hFR.out _ h with h | h
              · have := HLB.out _ (.inr (.inr h)); omega
              · omega
        clear hS3 hk3 hf3
        go_wp2_with fail
        go_roundw
        case rel => exact ⟨j + 1, hlj, by go_num, hL3⟩
        case measure => simp [intOf]; omega
      · obtain rfl : j = t.kids.length := by omega
        rw [List.take_length] at hS2 hpl
        clear hcw
        go_wp2_with fail
        refine region8 ⟨w0.heap.size, bn, bf, bw, W.heap.size, xs ++ postK t.kids xs.length (m + 1), t, xs.length, m, m + 1 + Nd.sizes t.kids, vL1, vF1, vN1, A, c, wr⟩ _ _ _ ?h0 (Nat.le_trans hbb.size (Nat.le_refl _)) ?hlen ?fL ?fF ?fN ?hend
        case h0 =>
          refine ⟨vL1, vF1, vN1, ⟨rfl, rfl, fun x hx => ?_, fun x _ hl => absurd hl (by simp [Array.getD]), fun e => absurd e (by simp [Array.getD]), fun e => absurd e (by simp [Array.getD]), fun e => absurd e (by simp [Array.getD]), fun _ => rfl, fun _ => rfl, fun _ => rfl, hS2.num, ?_, hS2.wbx, hBX.out, ?_, ?_, ?_, hS2.ne, hS2.nF, hS2.nN, ?_, (Keeps.refl _ wr).drew, fun b h => .inl h⟩⟩
          · simp only [base8, List.mem_cons, List.not_mem_nil, or_false] at hx
            rcases hx with rfl | rfl | rfl | rfl <;> rfl
          · have : wr.drew.heap[bf]? = _ := hS2.fbx
            simpa [Array.getD] using this
          · have := hS2.oL.drew
            simpa [Array.getD, Ctx.xs] using this
          · have := hS2.oF.drew
            simpa [Array.getD, Ctx.xs] using this
          · have := hS2.oN.drew
            simpa [Array.getD, Ctx.xs] using this
          · exact ⟨fun e => absurd e (by simp [Array.getD]), fun e => absurd e (by simp [Array.getD]), fun e => absurd e (by simp [Array.getD])⟩
        case hlen => show (xs ++ postK t.kids xs.length (m + 1)).length < _; rw [List.length_append, hpl]; have := hse.out; omega
        case fL => obtain ⟨A, c, h, _⟩ := own_form hS2.oL; exact ⟨A, c, h⟩
        case fF => obtain ⟨A, c, h, _⟩ := own_form hS2.oF; exact ⟨A, c, h⟩
        case fN => obtain ⟨A, c, h, _⟩ := own_form hS2.oN; exact ⟨A, c, h⟩
        case hend =>
          intro L a' W3 cL3 cF3 cN3 h8 hall
          have hfin := h8.fin hall hS2.Bn hS2.Bf hS2.Bw
          refine bodyPost_end (results_none rfl _ _ _) h8.df ⟨rfl, cL3, cF3, cN3, ?_, hkp.trans' h8.kp (fun i hi h => ?_), fun b hb => ?_⟩
          · have e1 : xs ++ post t xs.length m = (xs ++ postK t.kids xs.length (m + 1)) ++ [(t, xs.length, m)] := by rw [post_eq, List.append_assoc]
            rw [e1, hse.out, ← Nat.add_assoc]
            exact hfin
          · rcases h with rfl | h
            · exact .inr (.inl rfl)
            · rcases hFR.out i h with h | h
              · exact .inr (.inr h)
              · omega
          · rcases h8.fr b hb with h | h
            · rcases hFR.out b h with h | h
              · exact .inl h
              · exact .inr (by omega)
            · exact .inr (by have := hkp.size; exact Nat.le_trans this h)
end Go.Proofs.Ytjijfgkmjachnaa

namespace Go.Proofs.Ytjijfgkmjachnaa
set_option linter.unusedVariables false
set_option linter.unusedSimpArgs false
open Go.RowKit

theorem labC_get (xs : List Ent) (i : Nat) (h : i < xs.length) : (labC xs)[i * 2]? = some (.int .i64 (nd xs i).kind) ∧ (labC xs)[i * 2 + 1]? = some (.string (nd xs i).text) := by
  induction xs generalizing i with
  | nil => simp at h
  | cons e es ih =>
    cases i with
    | zero => simp [labC, nd, ent]
    | succ i =>
      have := ih i (by simpa using h)
      have e1 : nd (e :: es) (i + 1) = nd es i := by simp [nd, ent]
      rw [e1]
      have e2 : labC (e :: es) = .int .i64 e.1.kind :: .string e.1.text :: labC es := rfl
      rw [e2, show (i + 1) * 2 = i * 2 + 1 + 1 by omega]
      simpa using this
theorem lefC_get (xs : List Ent) (i : Nat) (h : i < xs.length) : (lefC xs)[i]? = some (.int .i64 (lf xs i : Nat)) := by
  simp [lefC, lf, ent, h]
theorem numC_get (xs : List Ent) (i : Nat) (h : i < xs.length) : (numC xs)[i]? = some (.int .i64 (nm xs i : Nat)) := by
  simp [numC, nm, ent, h]

theorem own_some {w : World} {base : Nat} {e : TypeId} {size n : Nat} {v : Value} {xs : List Value} (h : w.ownsRow base e size v n xs) (hn : 0 < n) :
    ∃ g c, v = .slice (some ⟨g, 0, none⟩) n c ∧ base ≤ g ∧ g < w.heap.size ∧ n ≤ c ∧ ∀ j u, xs[j]? = some u → w.cell? ⟨g, j, none⟩ = some u := by
  rcases h.2 with ⟨_, rfl⟩ | ⟨g, cap, cur, hv, hg, hh, hc, hm, hs, ht⟩
  · omega
  · refine ⟨g, cap, hv, hg, hlt hh, hc, fun j u hj => ?_⟩
    have hjl : j < n * size := by rw [← h.1]; exact (List.getElem?_eq_some_iff.1 hj).1
    rw [← ht] at hj
    rw [List.getElem?_take] at hj
    rw [if_pos hjl] at hj
    simp only [World.cell?, hh]
    simpa using hj

theorem heap5 (w : World) (a b c d e : Obj) : (((((w.alloc a).alloc b).alloc c).alloc d).alloc e).heap[w.heap.size + 1]? = some b ∧ (((((w.alloc a).alloc b).alloc c).alloc d).alloc e).heap[w.heap.size + 1 + 1]? = some c ∧
    (((((w.alloc a).alloc b).alloc c).alloc d).alloc e).heap[w.heap.size + 1 + 1 + 1]? = some d ∧ (((((w.alloc a).alloc b).alloc c).alloc d).alloc e).heap[w.heap.size + 1 + 1 + 1 + 1]? = some e := by
  refine ⟨?_, ?_, ?_, ?_⟩
  all_goals
    show (((((w.heap.push a).push b).push c).push d).push e)[_]? = _
    simp only [Array.getElem?_push, Array.size_push]
    simp

set_option maxRecDepth 100000 in
set_option maxHeartbeats 1000000 in
theorem flatten (t : Nd) (A : Option Addr) (c : Nat) (w : World) (hR : RN w t A c) (hn : t.size ≤ 1000000) :
    Calls Try.prog 34 #[t.val A c] w fun e w' => (∃ gL gF gN cL cF cN, e = .returned (.agg #[.slice (some ⟨gL, 0, none⟩) t.size cL, .slice (some ⟨gF, 0, none⟩) t.size cF, .slice (some ⟨gN, 0, none⟩) t.size cN]) ∧
      Flat w' (post t 0 0) t.size gL gF gN ∧ (w.heap.size ≤ gL ∧ gL < w'.heap.size) ∧ (w.heap.size ≤ gF ∧ gF < w'.heap.size) ∧ (w.heap.size ≤ gN ∧ gN < w'.heap.size)) ∧ Below w.heap.size w w' := by
  have hpos := t.size_pos
  unfold Nd.val
  go_enter Try.func34, Try.ntmps34
  go_wp2_with fail
  refine (walk w (w.heap.size + 1 + 1 + 1) (w.heap.size + 1 + 1) (w.heap.size + 1 + 1 + 1 + 1) t.size t A c [] 0 (.slice none 0 0) (.slice none 0 0) (.slice none 0 0) _ (Nat.le_refl _) hR ?hb ?hst (by simp; omega) (by omega)).mono ?_
  case hb => exact (((((Below.refl _ _).alloc (Nat.le_refl _) _).alloc (by simp) _).alloc (by simp; omega) _).alloc (by simp; omega) _).alloc (by simp; omega) _
  case hst =>
    refine ⟨?_, ?_, ?_, ⟨by simp [labC], .inl ⟨rfl, rfl⟩⟩, ⟨by simp [lefC], .inl ⟨rfl, rfl⟩⟩, ⟨by simp [numC], .inl ⟨rfl, rfl⟩⟩, .inl rfl, by simp [Value.ownBlock], by simp [Value.ownBlock], by omega, by omega, by omega⟩
    · exact (heap5 w _ _ _ _ _).2.2.1
    · exact (heap5 w _ _ _ _ _).2.1
    · exact (heap5 w _ _ _ _ _).2.2.2
  rintro e w' ⟨rfl, vL, vF, vN, hS, hK, _⟩
  rw [List.nil_append] at hS
  have hpl := post_len t 0 0
  have h1 := hS.oL
  have h2 := hS.oF
  have h3 := hS.oN
  simp only [List.length_nil] at h1 h2 h3 hS
  rw [hpl] at h1 h2 h3
  obtain ⟨gL, cL, rfl, l1, l2, l3, l4⟩ := own_some h1 hpos
  obtain ⟨gF, cF, rfl, f1, f2, f3, f4⟩ := own_some h2 hpos
  obtain ⟨gN, cN, rfl, n1, n2, n3, n4⟩ := own_some h3 hpos
  have hF : Flat w' (post t 0 0) t.size gL gF gN := ⟨fun i hi => l4 _ _ (labC_get _ i (by omega)).1, fun i hi => l4 _ _ (labC_get _ i (by omega)).2, fun i hi => f4 _ _ (lefC_get _ i (by omega)), fun i hi => n4 _ _ (numC_get _ i (by omega))⟩
  have d0 : w'.cell? ⟨w.heap.size + 1 + 1, 0, none⟩ = some (.slice (some ⟨gL, 0, none⟩) t.size cL) := by simp [World.cell?, hS.fbx]
  have d1 : w'.cell? ⟨w.heap.size + 1 + 1, 1, none⟩ = some (.slice (some ⟨gF, 0, none⟩) t.size cF) := by simp [World.cell?, hS.fbx]
  have d2 : w'.cell? ⟨w.heap.size + 1 + 1, 2, none⟩ = some (.slice (some ⟨gN, 0, none⟩) t.size cN) := by simp [World.cell?, hS.fbx]
  have hbox : w'.heap[w.heap.size + 1]? = some (.cells #[.slice none 0 0, .slice none 0 0, .slice none 0 0] 66 (0, 0)) := by
    rw [hK.block _ (by simp) (by simp [wr8, rb, Value.ownBlock])]
    exact (heap5 w _ _ _ _ _).1
  have g0 : w'.cell? ⟨w.heap.size + 1, 0, none⟩ = some (.slice none 0 0) := by simp [World.cell?, hbox]
  have g1 : w'.cell? ⟨w.heap.size + 1, 1, none⟩ = some (.slice none 0 0) := by simp [World.cell?, hbox]
  have g2 : w'.cell? ⟨w.heap.size + 1, 2, none⟩ = some (.slice none 0 0) := by simp [World.cell?, hbox]
  have e0 : w'.frozen? ⟨w.heap.size + 1, 0, none⟩ = false := by simp [World.frozen?, hbox]
  have e1 : w'.frozen? ⟨w.heap.size + 1, 1, none⟩ = false := by simp [World.frozen?, hbox]
  have e2 : w'.frozen? ⟨w.heap.size + 1, 2, none⟩ = false := by simp [World.frozen?, hbox]
  have hbl : Below w.heap.size w w' := (((((Below.refl w.heap.size w).alloc (Nat.le_refl _) _).alloc (by simp) _).alloc (by simp; omega) _).alloc (by simp; omega) _).alloc (by simp; omega) _ |>.trans (hK.below (by simp; omega) (fun k hk => by rcases hk with rfl | rfl | h | h | h; omega; omega; simp [Value.ownBlock] at h; simp [Value.ownBlock] at h; simp [Value.ownBlock] at h))
  have nL : gL ≠ w.heap.size + 1 := by obtain ⟨_, cur, hc⟩ := own_block_at h1 (b := gL) rfl; exact heap_ne_type hc hbox (by decide)
  have nF : gF ≠ w.heap.size + 1 := by obtain ⟨_, cur, hc⟩ := own_block_at h2 (b := gF) rfl; exact heap_ne_type hc hbox (by decide)
  have nN : gN ≠ w.heap.size + 1 := by obtain ⟨_, cur, hc⟩ := own_block_at h3 (b := gN) rfl; exact heap_ne_type hc hbox (by decide)
  clear hK hS h1 h2 h3 hbox l4 f4 n4 hpl
  go_wp2_with fail
  refine bodyPost_ret (v := .agg #[.slice (some ⟨gL, 0, none⟩) t.size cL, .slice (some ⟨gF, 0, none⟩) t.size cF, .slice (some ⟨gN, 0, none⟩) t.size cN]) (by simp [results, Try.results34, go_sem, g0, g1, g2]) rfl ⟨⟨gL, gF, gN, cL, cF, cN, rfl, ?_, ?_, ?_, ?_⟩, ?_⟩
  · exact hF.keep (Keeps.setCell (S := fun b => b = w.heap.size + 1) (Keeps.setCell (S := fun b => b = w.heap.size + 1) (Keeps.setCell (S := fun b => b = w.heap.size + 1) (Keeps.refl _ w') (p := ⟨w.heap.size + 1, 0, none⟩) (.inl rfl) _) (p := ⟨w.heap.size + 1, 1, none⟩) (.inl rfl) _) (p := ⟨w.heap.size + 1, 2, none⟩) (.inl rfl) _) nL nF nN
  · simp [World.setCell]; omega
  · simp [World.setCell]; omega
  · simp [World.setCell]; omega
  · exact ((hbl.setCell (p := ⟨w.heap.size + 1, 0, none⟩) (by simp) _).setCell (p := ⟨w.heap.size + 1, 1, none⟩) (by simp) _).setCell (p := ⟨w.heap.size + 1, 2, none⟩) (by simp) _
end Go.Proofs.Ytjijfgkmjachnaa
