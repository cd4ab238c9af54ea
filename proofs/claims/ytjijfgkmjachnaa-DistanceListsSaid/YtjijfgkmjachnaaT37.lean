import Derived.Test.YtjijfgkmjachnaaT35
import Derived.Test.YtjijfgkmjachnaaT23
namespace Go.Proofs.Ytjijfgkmjachnaa
set_option linter.unusedVariables false
set_option linter.unusedSimpArgs false
open Go.RowKit

structure Par where
  (a b : Nd) (b5 b6 gL gF gN gL' gF' gN' cL cF cN cL' cF' cN' top : Nat)
def Par.q (P : Par) : Nat := P.top + 1 + P.a.size
abbrev Par.xs (P : Par) : List Ent := post P.a 0 0
abbrev Par.ys (P : Par) : List Ent := post P.b 0 0

structure SX (P : Par) (W : World) : Prop where
  c50 : W.cell? ⟨P.b5, 0, none⟩ = some (.slice (some ⟨P.gL, 0, none⟩) P.a.size P.cL)
  c51 : W.cell? ⟨P.b5, 1, none⟩ = some (.slice (some ⟨P.gF, 0, none⟩) P.a.size P.cF)
  c52 : W.cell? ⟨P.b5, 2, none⟩ = some (.slice (some ⟨P.gN, 0, none⟩) P.a.size P.cN)
  c60 : W.cell? ⟨P.b6, 0, none⟩ = some (.slice (some ⟨P.gL', 0, none⟩) P.b.size P.cL')
  c61 : W.cell? ⟨P.b6, 1, none⟩ = some (.slice (some ⟨P.gF', 0, none⟩) P.b.size P.cF')
  c62 : W.cell? ⟨P.b6, 2, none⟩ = some (.slice (some ⟨P.gN', 0, none⟩) P.b.size P.cN')
  fa : Flat W P.xs P.a.size P.gL P.gF P.gN
  fb : Flat W P.ys P.b.size P.gL' P.gF' P.gN'
  lt : P.b5 < P.top ∧ P.b6 < P.top ∧ P.gL < P.top ∧ P.gF < P.top ∧ P.gN < P.top ∧ P.gL' < P.top ∧ P.gF' < P.top ∧ P.gN' < P.top
  sz : P.top ≤ W.heap.size

theorem SX.keep {P : Par} {S : Nat → Prop} {W W' : World} (h : SX P W) (hk : Keeps S W W') (hS : ∀ k, S k → P.top ≤ k) : SX P W' := by
  have hl := h.lt
  have hs := h.sz
  have n : ∀ b, b < P.top → b < W.heap.size ∧ ¬ S b := fun b hb => ⟨by omega, fun h => by have := hS b h; omega⟩
  have mv : ∀ b o v, b < P.top → W.cell? ⟨b, o, none⟩ = some v → W'.cell? ⟨b, o, none⟩ = some v := fun b o v hb hc => (hk.cell (p := ⟨b, o, none⟩) (n b hb).1 (n b hb).2).trans hc
  exact ⟨mv _ _ _ hl.1 h.c50, mv _ _ _ hl.1 h.c51, mv _ _ _ hl.1 h.c52, mv _ _ _ hl.2.1 h.c60, mv _ _ _ hl.2.1 h.c61, mv _ _ _ hl.2.1 h.c62,
    h.fa.keep hk (n _ hl.2.2.1).2 (n _ hl.2.2.2.1).2 (n _ hl.2.2.2.2.1).2, h.fb.keep hk (n _ hl.2.2.2.2.2.1).2 (n _ hl.2.2.2.2.2.2.1).2 (n _ hl.2.2.2.2.2.2.2).2, hl, Nat.le_trans hs hk.size⟩

structure BX (P : Par) (W : World) (D : Nat → Nat → Int) : Prop where
  sx : SX P W
  k00 : W.cell? ⟨P.q, 0, none⟩ = some (.slice (some ⟨P.gL, 0, none⟩) P.a.size P.cL)
  k01 : W.cell? ⟨P.q, 1, none⟩ = some (.slice (some ⟨P.gF, 0, none⟩) P.a.size P.cF)
  k10 : W.cell? ⟨P.q + 1, 0, none⟩ = some (.slice (some ⟨P.gL', 0, none⟩) P.b.size P.cL')
  k11 : W.cell? ⟨P.q + 1, 1, none⟩ = some (.slice (some ⟨P.gF', 0, none⟩) P.b.size P.cF')
  k2 : W.cell? ⟨P.q + 2, 0, none⟩ = some (.slice (some ⟨P.top, 0, none⟩) P.a.size P.a.size)
  tab : Tab W P.top P.top (fun i => P.top + 1 + i) P.a.size P.b.size D
  bd : ∀ s t, s < P.a.size → t < P.b.size → 0 ≤ D s t ∧ D s t ≤ 10000000
  sz : P.q + 3 ≤ W.heap.size
/-- the rows of the table -/
def Par.row (P : Par) (k : Nat) : Prop := ∃ s, s < P.a.size ∧ k = P.top + 1 + s

theorem BX.below {P : Par} {W W' : World} {D : Nat → Nat → Int} (h : BX P W D) (hb : Below W.heap.size W W') : BX P W' D := by
  have hs := h.sz
  have mv : ∀ b o v, b < P.q + 3 → W.cell? ⟨b, o, none⟩ = some v → W'.cell? ⟨b, o, none⟩ = some v := fun b o v hl hc => (hb.cell (p := ⟨b, o, none⟩) (by show b < _; omega)).trans hc
  exact ⟨h.sx.keep (S := fun _ => False) (Keeps.of_below hb) (fun k h => h.elim), mv _ _ _ (by omega) h.k00, mv _ _ _ (by omega) h.k01, mv _ _ _ (by omega) h.k10, mv _ _ _ (by omega) h.k11, mv _ _ _ (by omega) h.k2,
    h.tab.keep (S := fun _ => False) (Keeps.of_below hb) id (fun _ _ => id), h.bd, Nat.le_trans hs hb.size⟩
theorem BX.keepHi {P : Par} {W W' : World} {D : Nat → Nat → Int} {S : Nat → Prop} (h : BX P W D) (hb : Keeps S W W') (hS : ∀ k, S k → P.q + 3 ≤ k) : BX P W' D := by
  have hs := h.sz
  have mv : ∀ b o v, b < P.q + 3 → W.cell? ⟨b, o, none⟩ = some v → W'.cell? ⟨b, o, none⟩ = some v := fun b o v hl hc => (hb.cell (p := ⟨b, o, none⟩) (by show b < _; omega) (fun h => by have := hS _ h; simp only at this; omega)).trans hc
  exact ⟨h.sx.keep hb (fun k h => by have := hS k h; simp only [Par.q] at this; omega), mv _ _ _ (by omega) h.k00, mv _ _ _ (by omega) h.k01, mv _ _ _ (by omega) h.k10, mv _ _ _ (by omega) h.k11, mv _ _ _ (by omega) h.k2,
    h.tab.keep hb (fun h => by have := hS _ h; simp only [Par.q] at this; omega) (fun i hi h => by have := hS _ h; simp only [Par.q] at this; omega), h.bd, Nat.le_trans hs hb.size⟩
theorem BX.rows {P : Par} {W W' : World} {D D' : Nat → Nat → Int} (h : BX P W D) (hk : Keeps P.row W W') (ht : Tab W' P.top P.top (fun i => P.top + 1 + i) P.a.size P.b.size D') (hb : ∀ s t, s < P.a.size → t < P.b.size → 0 ≤ D' s t ∧ D' s t ≤ 10000000) : BX P W' D' := by
  have hs := h.sz
  have mv : ∀ b o v, P.q ≤ b → b < P.q + 3 → W.cell? ⟨b, o, none⟩ = some v → W'.cell? ⟨b, o, none⟩ = some v := fun b o v h0 hl hc => (hk.cell (p := ⟨b, o, none⟩) (by show b < _; omega) (fun ⟨s, hs, e⟩ => by simp only [Par.q] at h0 e; omega)).trans hc
  exact ⟨h.sx.keep hk (fun k ⟨s, _, e⟩ => by omega), mv _ _ _ (by omega) (by omega) h.k00, mv _ _ _ (by omega) (by omega) h.k01, mv _ _ _ (by omega) (by omega) h.k10, mv _ _ _ (by omega) (by omega) h.k11, mv _ _ _ (by omega) (by omega) h.k2, ht, hb, Nat.le_trans hs hk.size⟩
theorem Ints.keep {W W' : World} {lo : Nat} {v : Value} {R : List Int} {S : Nat → Prop} (h : Ints W lo v R) (hk : Keeps S W W') (hS : ∀ k, S k → k < lo) : Ints W' lo v R := by
  obtain ⟨A, c, e, h⟩ := h.val
  refine ⟨A, c, e, h.imp id (fun ⟨g, a, b, d⟩ => ⟨g, a, b, fun i hi => ?_⟩)⟩
  exact (hk.cell (p := ⟨g, i, none⟩) (World.block_lt_of_cell? W _ (d i hi)) (fun hg => by have := hS g hg; omega)).trans (d i hi)
theorem Ints.below {W W' : World} {lo : Nat} {v : Value} {R : List Int} (h : Ints W lo v R) (hb : Below W.heap.size W W') : Ints W' lo v R := h.keep (S := fun _ => False) (Keeps.of_below hb) (fun _ h => h.elim)

/-- the fill of two roots, in the frame -/
theorem BX.fillAt {P : Par} {W : World} {D : Nat → Nat → Int} (h : BX P W D) (ha : P.a.size ≤ 1000000) (hb : P.b.size ≤ 1000000) {R S : List Int} (hR : IsRoots P.xs P.a.size R) (hS : IsRoots P.ys P.b.size S) {r q : Nat} (hr : r < R.length) (hq : q < S.length)
    (hO : DoneO P.xs P.ys R r D) (hI : DoneI P.xs P.ys S (rx R r) q D) :
    Calls Try.prog 46 #[.int .i64 (rx R r : Nat), .int .i64 (rx S q : Nat), .pointer (some ⟨P.q, 0, none⟩), .pointer (some ⟨P.q + 1, 0, none⟩), .pointer (some ⟨P.q + 2, 0, none⟩)] W fun e w' => e = .returned (.tuple #[]) ∧
      ∃ D', BX P w' D' ∧ DoneO P.xs P.ys R r D' ∧ DoneI P.xs P.ys S (rx R r) (q + 1) D' ∧ Keeps P.row W w' := by
  have lx : P.xs.length = P.a.size := post_len _ _ _
  have ly : P.ys.length = P.b.size := post_len _ _ _
  rw [← lx] at hR
  rw [← ly] at hS
  have gx : Good P.xs := post_good P.a
  have gy : Good P.ys := post_good P.b
  obtain ⟨_, hi, hli⟩ := rx_spec hR hr
  obtain ⟨_, hk, hlk⟩ := rx_spec hS hq
  have hl := h.sx.lt
  have li := gx.lf_le _ hi
  have lk := gy.lf_le _ hk
  refine (fill P.xs P.ys P.a.size P.b.size (rx R r) (rx S q) (by omega) (by omega) ha hb W P.q (P.q + 1) (P.q + 2) P.gL P.gF P.gN P.gL' P.gF' P.gN' P.top P.top P.cL P.cF P.cN P.cL' P.cF' P.cN' P.a.size (fun i => P.top + 1 + i) D h.k00 h.k01 h.k10 h.k11 h.k2 h.sx.fa h.sx.fb h.tab h.bd
    (fun s h1 h2 => ?_) (fun t h1 h2 => ?_) (by omega) (by omega) (fun s hs => ?_)).mono ?_
  · refine ⟨?_, by have := gx.lf_le s (by omega); omega⟩
    rcases Nat.lt_or_ge s (rx R r) with h | h
    · exact gx.lam h hi h1
    · rw [show s = rx R r by omega]; exact Nat.le_refl _
  · refine ⟨?_, by have := gy.lf_le t (by omega); omega⟩
    rcases Nat.lt_or_ge t (rx S q) with h | h
    · exact gy.lam h hk h1
    · rw [show t = rx S q by omega]; exact Nat.le_refl _
  · simp only [Par.q]
    refine ⟨?_, ?_, ?_, ?_, ?_, ?_, ?_, ?_, ?_⟩ <;> omega
  · rintro e w' ⟨rfl, hkp, F, hrec, hF, htab⟩
    obtain ⟨s1, s2⟩ := fill_step gx gy hR hS hr hq hrec hO hI
    refine ⟨rfl, _, h.rows hkp htab (fun s t hs ht => ?_), s1, s2, hkp⟩
    split
    · have := hF (s - lf P.xs (rx R r) + 1) (t - lf P.ys (rx S q) + 1)
      omega
    · exact h.bd s t hs ht


theorem SX.at {W : World} {P : Par} (h : SX P W) {a b : Nd} {b5 b6 gL gF gN gL' gF' gN' cL cF cN cL' cF' cN' top : Nat} (e : P = ⟨a, b, b5, b6, gL, gF, gN, gL', gF', gN', cL, cF, cN, cL', cF', cN', top⟩) :
    W.cell? ⟨b5, 0, none⟩ = some (.slice (some ⟨gL, 0, none⟩) a.size cL) ∧ W.cell? ⟨b5, 1, none⟩ = some (.slice (some ⟨gF, 0, none⟩) a.size cF) ∧ W.cell? ⟨b5, 2, none⟩ = some (.slice (some ⟨gN, 0, none⟩) a.size cN) ∧
    W.cell? ⟨b6, 0, none⟩ = some (.slice (some ⟨gL', 0, none⟩) b.size cL') ∧ W.cell? ⟨b6, 1, none⟩ = some (.slice (some ⟨gF', 0, none⟩) b.size cF') ∧ W.cell? ⟨b6, 2, none⟩ = some (.slice (some ⟨gN', 0, none⟩) b.size cN') ∧
    Flat W (post a 0 0) a.size gL gF gN ∧ Flat W (post b 0 0) b.size gL' gF' gN' := by
  subst e
  exact ⟨h.c50, h.c51, h.c52, h.c60, h.c61, h.c62, h.fa, h.fb⟩
theorem lf_small (t : Nd) (ht : t.size ≤ 1000000) : ∀ i, i < t.size → lf (post t 0 0) i ≤ 1000000 := fun i hi => by
  have := (post_good t).lf_le i (by rw [post_len]; exact hi)
  omega
/-- the three boxes of the filler -/
theorem BX.start {P : Par} {W1 : World} (hs : SX P W1) (ht : Tab W1 P.top P.top (fun i => P.top + 1 + i) P.a.size P.b.size (fun _ _ => 0)) (hq : W1.heap.size = P.q) :
    BX P (((W1.alloc (.cells #[.slice (some ⟨P.gL, 0, none⟩) P.a.size P.cL, .slice (some ⟨P.gF, 0, none⟩) P.a.size P.cF, .slice (some ⟨P.gN, 0, none⟩) P.a.size P.cN] 66)).alloc (.cells #[.slice (some ⟨P.gL', 0, none⟩) P.b.size P.cL', .slice (some ⟨P.gF', 0, none⟩) P.b.size P.cF', .slice (some ⟨P.gN', 0, none⟩) P.b.size P.cN'] 66)).alloc (.cells #[.slice (some ⟨P.top, 0, none⟩) P.a.size P.a.size] 30)) (fun _ _ => 0) := by
  generalize ho0 : (Obj.cells #[.slice (some ⟨P.gL, 0, none⟩) P.a.size P.cL, .slice (some ⟨P.gF, 0, none⟩) P.a.size P.cF, .slice (some ⟨P.gN, 0, none⟩) P.a.size P.cN] 66) = o0
  generalize ho1 : (Obj.cells #[.slice (some ⟨P.gL', 0, none⟩) P.b.size P.cL', .slice (some ⟨P.gF', 0, none⟩) P.b.size P.cF', .slice (some ⟨P.gN', 0, none⟩) P.b.size P.cN'] 66) = o1
  generalize ho2 : (Obj.cells #[.slice (some ⟨P.top, 0, none⟩) P.a.size P.a.size] 30) = o2
  have hb : Below W1.heap.size W1 (((W1.alloc o0).alloc o1).alloc o2) := (((Below.refl _ W1).alloc (Nat.le_refl _) _).alloc (by simp) _).alloc (by simp; omega) _
  have h0 : (((W1.alloc o0).alloc o1).alloc o2).heap[P.q]? = some o0 := by
    rw [Below.heap_alloc _ _ _ (by simp; omega), Below.heap_alloc _ _ _ (by simp; omega), ← hq]; exact heap_alloc_new _ _
  have h1 : (((W1.alloc o0).alloc o1).alloc o2).heap[P.q + 1]? = some o1 := by
    rw [Below.heap_alloc _ _ _ (by simp; omega), ← hq]
    have := heap_alloc_new (W1.alloc o0) o1
    simpa using this
  have h2 : (((W1.alloc o0).alloc o1).alloc o2).heap[P.q + 2]? = some o2 := by
    rw [← hq]
    have := heap_alloc_new ((W1.alloc o0).alloc o1) o2
    simpa using this
  refine ⟨hs.keep (S := fun _ => False) (Keeps.of_below hb) (fun _ h => h.elim), ?_, ?_, ?_, ?_, ?_, ht.keep (S := fun _ => False) (Keeps.of_below hb) id (fun _ _ => id), fun _ _ _ _ => ⟨by omega, by omega⟩, by simp; omega⟩
  · simp only [World.cell?, h0]; rw [← ho0]; rfl
  · simp only [World.cell?, h0]; rw [← ho0]; rfl
  · simp only [World.cell?, h1]; rw [← ho1]; rfl
  · simp only [World.cell?, h1]; rw [← ho1]; rfl
  · simp only [World.cell?, h2]; rw [← ho2]; rfl
end Go.Proofs.Ytjijfgkmjachnaa
