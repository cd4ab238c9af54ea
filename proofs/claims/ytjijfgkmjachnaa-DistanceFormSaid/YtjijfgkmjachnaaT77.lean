/- The regions of the reference's Subtrees and Bound that flatten both trees: two calls, two new variables, in any order. -/
import Derived.Test.YtjijfgkmjachnaaT75
import Derived.Test.YtjijfgkmjachnaaC12
namespace Go.Proofs.Ytjijfgkmjachnaa
set_option linter.unusedVariables false
set_option linter.unusedSimpArgs false
open Go.RowKit

def nil4 : Array Value := #[.slice none 0 0, .slice none 0 0, .slice none 0 0, .slice none 0 0]
def agg4 (As : Nat → Option Addr) (cs : Nat → Nat) (n : Nat) : Value := .agg #[.slice (As 0) n (cs 0), .slice (As 1) n (cs 1), .slice (As 2) n (cs 2), .slice (As 3) n (cs 3)]
theorem Q1.keepB {B : Nat} {W W1 : World} {As : Nat → Option Addr} {cs : Nat → Nat} {xs : List Ent} (h : Q1 B W As cs xs) (hb : Below W.heap.size W W1) : Q1 B W1 As cs xs := h.move fun q hq => hb.block _ (h.lt hq).2
theorem Q1.keep60 {B p : Nat} {W : World} {As : Nat → Option Addr} {cs : Nat → Nat} {xs : List Ent} {v0 v1 v2 v3 : Value} (h : Q1 B W As cs xs) (hp : W.heap[p]? = some (.cells #[v0, v1, v2, v3] 60 (0, 0))) (u0 u1 u2 u3 : Value) : Q1 B (set4 W p u0 u1 u2 u3) As cs xs :=
  h.move fun q hq => set4_other _ _ _ _ _ _ (by
    obtain ⟨j, hj, a, ha, rfl⟩ := hq
    obtain ⟨_, _, cur, h1⟩ := h.blk hj ha
    exact heap_ne_type h1 hp (ety_ne j).1.symm)
theorem refFlat0 (w0 : World) (t : Nd) (A : Option Addr) (c : Nat) (W : World) (hR : RN w0 t A c) (hb : Below w0.heap.size w0 W) (hs : t.size ≤ 900000) :
    Calls Try.prog 31 #[.agg #[.slice none 0 0, .slice none 0 0, .slice none 0 0, .slice none 0 0], t.val A c, .int .i64 0] W fun e W' => (∃ As cs, e = .returned (agg4 As cs t.size) ∧ Q1 w0.heap.size W' As cs (post t 0 0)) ∧ Below W.heap.size W W' := by
  have hq : Q1 w0.heap.size W (fun _ => none) (fun _ => 0) [] := ⟨fun j hj => World.ownsRow_nil W _ _ _, fun i j _ _ _ p q h => by cases h⟩
  refine (refFlat w0 w0.heap.size (Nat.le_refl _) t.size t A c [] 0 (fun _ => none) (fun _ => 0) W (Nat.le_refl _) hR hb hb.size hq (by simp; omega) (by omega)).mono ?_
  rintro e W' ⟨⟨As, cs, rfl, h1, _⟩, hk⟩
  refine ⟨⟨As, cs, ?_, h1⟩, hk.below (Nat.le_refl _) fun q hq => ?_⟩
  · unfold agg4; simp
  · obtain ⟨j, _, a, ha, _⟩ := hq
    cases ha

structure I77 (w0 : World) (xs ys : List Ent) (L : Array Bool) (f : Nat → Value) (W : World) : Prop where
  bel : Below w0.heap.size w0 W
  c2 : L.getD 2 false = true → ∃ As cs, f 2 = agg4 As cs xs.length ∧ Q1 w0.heap.size W As cs xs
  c5 : L.getD 5 false = true → ∃ As cs, f 5 = agg4 As cs ys.length ∧ Q1 w0.heap.size W As cs ys
  x6 : L.getD 6 false = true → ∃ p, f 6 = ptr p ∧ w0.heap.size ≤ p ∧ ∃ v0 v1 v2 v3, W.heap[p]? = some (.cells #[v0, v1, v2, v3] 60 (0, 0))
  x7 : L.getD 7 false = true → ∃ p, f 7 = ptr p ∧ w0.heap.size ≤ p ∧ ∃ v0 v1 v2 v3, W.heap[p]? = some (.cells #[v0, v1, v2, v3] 60 (0, 0))
  ne : L.getD 6 false = true → L.getD 7 false = true → f 6 ≠ f 7
  s8 : L.getD 8 false = true → L.getD 2 false = true ∧ L.getD 6 false = true ∧ ∀ p v0 v1 v2 v3, f 6 = ptr p → f 2 = .agg #[v0, v1, v2, v3] → W.heap[p]? = some (.cells #[v0, v1, v2, v3] 60 (0, 0))
  s9 : L.getD 9 false = true → L.getD 5 false = true ∧ L.getD 7 false = true ∧ ∀ p v0 v1 v2 v3, f 7 = ptr p → f 5 = .agg #[v0, v1, v2, v3] → W.heap[p]? = some (.cells #[v0, v1, v2, v3] 60 (0, 0))
theorem up_heap {W W' : World} (hb : Below W.heap.size W W') {p : Nat} {o : Obj} (h : W.heap[p]? = some o) : W'.heap[p]? = some o := (hb.block _ (hlt h)).trans h
theorem I77.grow {w0 : World} {xs ys : List Ent} {L : Array Bool} {f : Nat → Value} {W W' : World} (h : I77 w0 xs ys L f W) (hb : Below W.heap.size W W') : I77 w0 xs ys L f W' := by
  refine ⟨h.bel.trans (hb.mono h.bel.size), fun l => ?_, fun l => ?_, fun l => ?_, fun l => ?_, h.ne, fun l => ?_, fun l => ?_⟩
  · obtain ⟨As, cs, e, hq⟩ := h.c2 l
    exact ⟨As, cs, e, hq.keepB hb⟩
  · obtain ⟨As, cs, e, hq⟩ := h.c5 l
    exact ⟨As, cs, e, hq.keepB hb⟩
  · obtain ⟨p, e, h1, v0, v1, v2, v3, h2⟩ := h.x6 l
    exact ⟨p, e, h1, v0, v1, v2, v3, up_heap hb h2⟩
  · obtain ⟨p, e, h1, v0, v1, v2, v3, h2⟩ := h.x7 l
    exact ⟨p, e, h1, v0, v1, v2, v3, up_heap hb h2⟩
  · obtain ⟨l1, l2, h3⟩ := h.s8 l
    exact ⟨l1, l2, fun p v0 v1 v2 v3 e1 e2 => up_heap hb (h3 p v0 v1 v2 v3 e1 e2)⟩
  · obtain ⟨l1, l2, h3⟩ := h.s9 l
    exact ⟨l1, l2, fun p v0 v1 v2 v3 e1 e2 => up_heap hb (h3 p v0 v1 v2 v3 e1 e2)⟩
theorem I77.pure {w0 : World} {xs ys : List Ent} {L : Array Bool} {f : Nat → Value} {W : World} (h : I77 w0 xs ys L f W) (hL : L.size = 10) {i : Nat} (hi : i < 10) (h2 : i ≠ 2) (h5 : i ≠ 5) (h6 : i ≠ 6) (h7 : i ≠ 7) (h8 : i ≠ 8) (h9 : i ≠ 9) (v : Value) : I77 w0 xs ys (L.setIfInBounds i true) (updF f i v) W := by
  have k : ∀ j, j ≠ i → (L.setIfInBounds i true).getD j false = L.getD j false := fun j hj => by rw [getDs (by omega)]; simp [hj]
  have k2 := k 2 (Ne.symm h2)
  have k5 := k 5 (Ne.symm h5)
  have k6 := k 6 (Ne.symm h6)
  have k7 := k 7 (Ne.symm h7)
  have k8 := k 8 (Ne.symm h8)
  have k9 := k 9 (Ne.symm h9)
  have u2 := updF_other f v (Ne.symm h2)
  have u5 := updF_other f v (Ne.symm h5)
  have u6 := updF_other f v (Ne.symm h6)
  have u7 := updF_other f v (Ne.symm h7)
  obtain ⟨h1, h2, h3, h4, h5, h6, h7, h8⟩ := h
  refine ⟨h1, ?_, ?_, ?_, ?_, ?_, ?_, ?_⟩ <;> simp only [k2, k5, k6, k7, k8, k9, u2, u5, u6, u7] <;> assumption
theorem I77.u2 {w0 : World} {xs ys : List Ent} {L : Array Bool} {f : Nat → Value} {W W' : World} (h : I77 w0 xs ys L f W) (hL : L.size = 10) (hf : L.getD 2 false = false) (hb : Below W.heap.size W W') {As : Nat → Option Addr} {cs : Nat → Nat}
    (hq : Q1 w0.heap.size W' As cs xs) : I77 w0 xs ys (L.setIfInBounds 2 true) (updF f 2 (agg4 As cs xs.length)) W' := by
  have k : ∀ j, j ≠ 2 → (L.setIfInBounds 2 true).getD j false = L.getD j false := fun j hj => by rw [getDs (by omega)]; simp [hj]
  have kk : (L.setIfInBounds 2 true).getD 2 false = true := by rw [getDs (by omega)]; simp
  have hg := h.grow hb
  refine ⟨hg.bel, ?_, ?_, ?_, ?_, ?_, ?_, ?_⟩ <;> simp only [kk, k 5 (by omega), k 6 (by omega), k 7 (by omega), k 8 (by omega), k 9 (by omega), updF_other f _ (show 5 ≠ 2 by omega), updF_other f _ (show 6 ≠ 2 by omega), updF_other f _ (show 7 ≠ 2 by omega), updF_same]
  · intro _; exact ⟨As, cs, rfl, hq⟩
  · exact hg.c5
  · exact hg.x6
  · exact hg.x7
  · exact hg.ne
  · intro l; exact absurd (h.s8 l).1 (notT hf)
  · exact hg.s9
theorem I77.u5 {w0 : World} {xs ys : List Ent} {L : Array Bool} {f : Nat → Value} {W W' : World} (h : I77 w0 xs ys L f W) (hL : L.size = 10) (hf : L.getD 5 false = false) (hb : Below W.heap.size W W') {As : Nat → Option Addr} {cs : Nat → Nat}
    (hq : Q1 w0.heap.size W' As cs ys) : I77 w0 xs ys (L.setIfInBounds 5 true) (updF f 5 (agg4 As cs ys.length)) W' := by
  have k : ∀ j, j ≠ 5 → (L.setIfInBounds 5 true).getD j false = L.getD j false := fun j hj => by rw [getDs (by omega)]; simp [hj]
  have kk : (L.setIfInBounds 5 true).getD 5 false = true := by rw [getDs (by omega)]; simp
  have hg := h.grow hb
  refine ⟨hg.bel, ?_, ?_, ?_, ?_, ?_, ?_, ?_⟩ <;> simp only [kk, k 2 (by omega), k 6 (by omega), k 7 (by omega), k 8 (by omega), k 9 (by omega), updF_other f _ (show 2 ≠ 5 by omega), updF_other f _ (show 6 ≠ 5 by omega), updF_other f _ (show 7 ≠ 5 by omega), updF_same]
  · exact hg.c2
  · intro _; exact ⟨As, cs, rfl, hq⟩
  · exact hg.x6
  · exact hg.x7
  · exact hg.ne
  · exact hg.s8
  · intro l; exact absurd (h.s9 l).1 (notT hf)
theorem I77.u6 {w0 : World} {xs ys : List Ent} {L : Array Bool} {f : Nat → Value} {W : World} (h : I77 w0 xs ys L f W) (hL : L.size = 10) (hf : L.getD 6 false = false) :
    I77 w0 xs ys (L.setIfInBounds 6 true) (updF f 6 (ptr W.heap.size)) (W.alloc (.cells #[.slice none 0 0, .slice none 0 0, .slice none 0 0, .slice none 0 0] 60)) := by
  have k : ∀ j, j ≠ 6 → (L.setIfInBounds 6 true).getD j false = L.getD j false := fun j hj => by rw [getDs (by omega)]; simp [hj]
  have kk : (L.setIfInBounds 6 true).getD 6 false = true := by rw [getDs (by omega)]; simp
  have hb : Below W.heap.size W (W.alloc (.cells #[.slice none 0 0, .slice none 0 0, .slice none 0 0, .slice none 0 0] 60)) := (Below.refl _ _).alloc (Nat.le_refl _) _
  have hg := h.grow hb
  refine ⟨hg.bel, ?_, ?_, ?_, ?_, ?_, ?_, ?_⟩ <;> simp only [kk, k 2 (by omega), k 5 (by omega), k 7 (by omega), k 8 (by omega), k 9 (by omega), updF_other f _ (show 2 ≠ 6 by omega), updF_other f _ (show 5 ≠ 6 by omega), updF_other f _ (show 7 ≠ 6 by omega), updF_same]
  · exact hg.c2
  · exact hg.c5
  · intro _; exact ⟨_, rfl, h.bel.size, _, _, _, _, heap_alloc_new W _⟩
  · exact hg.x7
  · intro _ l e
    obtain ⟨p, e2, _, v0, v1, v2, v3, h2⟩ := h.x7 l
    have := ptr_inj (e.trans e2)
    have := hlt h2
    omega
  · intro l; exact absurd (h.s8 l).2.1 (notT hf)
  · exact hg.s9
theorem I77.u7 {w0 : World} {xs ys : List Ent} {L : Array Bool} {f : Nat → Value} {W : World} (h : I77 w0 xs ys L f W) (hL : L.size = 10) (hf : L.getD 7 false = false) :
    I77 w0 xs ys (L.setIfInBounds 7 true) (updF f 7 (ptr W.heap.size)) (W.alloc (.cells #[.slice none 0 0, .slice none 0 0, .slice none 0 0, .slice none 0 0] 60)) := by
  have k : ∀ j, j ≠ 7 → (L.setIfInBounds 7 true).getD j false = L.getD j false := fun j hj => by rw [getDs (by omega)]; simp [hj]
  have kk : (L.setIfInBounds 7 true).getD 7 false = true := by rw [getDs (by omega)]; simp
  have hb : Below W.heap.size W (W.alloc (.cells #[.slice none 0 0, .slice none 0 0, .slice none 0 0, .slice none 0 0] 60)) := (Below.refl _ _).alloc (Nat.le_refl _) _
  have hg := h.grow hb
  refine ⟨hg.bel, ?_, ?_, ?_, ?_, ?_, ?_, ?_⟩ <;> simp only [kk, k 2 (by omega), k 5 (by omega), k 6 (by omega), k 8 (by omega), k 9 (by omega), updF_other f _ (show 2 ≠ 7 by omega), updF_other f _ (show 5 ≠ 7 by omega), updF_other f _ (show 6 ≠ 7 by omega), updF_same]
  · exact hg.c2
  · exact hg.c5
  · exact hg.x6
  · intro _; exact ⟨_, rfl, h.bel.size, _, _, _, _, heap_alloc_new W _⟩
  · intro l _ e
    obtain ⟨p, e2, _, v0, v1, v2, v3, h2⟩ := h.x6 l
    have := ptr_inj (e2.symm.trans e)
    have := hlt h2
    omega
  · exact hg.s8
  · intro l; exact absurd (h.s9 l).2.1 (notT hf)
theorem I77.u8 {w0 : World} {xs ys : List Ent} {L : Array Bool} {f : Nat → Value} {W : World} (h : I77 w0 xs ys L f W) (hL : L.size = 10) (hf : L.getD 8 false = false) (lv : L.getD 2 false = true) (lp : L.getD 6 false = true) {p : Nat} (hp : f 6 = ptr p) {a0 a1 a2 a3 : Value} (he : f 2 = .agg #[a0, a1, a2, a3]) (u : Value) :
    I77 w0 xs ys (L.setIfInBounds 8 true) (updF f 8 u) (set4 W p a0 a1 a2 a3) := by
  have k : ∀ j, j ≠ 8 → (L.setIfInBounds 8 true).getD j false = L.getD j false := fun j hj => by rw [getDs (by omega)]; simp [hj]
  have kk : (L.setIfInBounds 8 true).getD 8 false = true := by rw [getDs (by omega)]; simp
  obtain ⟨p', e', hlo, v0, v1, v2, v3, hh⟩ := h.x6 lp
  obtain rfl := ptr_inj (hp.symm.trans e')
  have hbel : Below w0.heap.size w0 (set4 W p a0 a1 a2 a3) := (((h.bel.setCell (p := ⟨p, 0, none⟩) hlo _).setCell (p := ⟨p, 1, none⟩) hlo _).setCell (p := ⟨p, 2, none⟩) hlo _).setCell (p := ⟨p, 3, none⟩) hlo _
  have hnew : (set4 W p a0 a1 a2 a3).heap[p]? = some (.cells #[a0, a1, a2, a3] 60 (0, 0)) := set4_at _ _ _ _ _ _ _ _ _ _ _ hh
  refine ⟨hbel, ?_, ?_, ?_, ?_, ?_, ?_, ?_⟩ <;> simp only [kk, k 2 (by omega), k 5 (by omega), k 6 (by omega), k 7 (by omega), k 9 (by omega), updF_other f _ (show 2 ≠ 8 by omega), updF_other f _ (show 5 ≠ 8 by omega), updF_other f _ (show 6 ≠ 8 by omega), updF_other f _ (show 7 ≠ 8 by omega), updF_same]
  · intro l; obtain ⟨As, cs, e, hq⟩ := h.c2 l; exact ⟨As, cs, e, hq.keep60 hh _ _ _ _⟩
  · intro l; obtain ⟨As, cs, e, hq⟩ := h.c5 l; exact ⟨As, cs, e, hq.keep60 hh _ _ _ _⟩
  · intro l
    obtain ⟨q, e, h1, b0, b1, b2, b3, h2⟩ := h.x6 l
    by_cases hqp : q = p
    · subst hqp; exact ⟨q, e, h1, _, _, _, _, hnew⟩
    · exact ⟨q, e, h1, b0, b1, b2, b3, (set4_other _ _ _ _ _ _ hqp).trans h2⟩
  · intro l
    obtain ⟨q, e, h1, b0, b1, b2, b3, h2⟩ := h.x7 l
    by_cases hqp : q = p
    · subst hqp; exact ⟨q, e, h1, _, _, _, _, hnew⟩
    · exact ⟨q, e, h1, b0, b1, b2, b3, (set4_other _ _ _ _ _ _ hqp).trans h2⟩
  · exact h.ne
  · intro _
    refine ⟨lv, lp, fun q b0 b1 b2 b3 e1 e2 => ?_⟩
    obtain rfl := ptr_inj (hp.symm.trans e1)
    have e3 := he.symm.trans e2
    have e4 := Value.agg.inj e3
    rw [← e4]; exact hnew
  · intro l
    obtain ⟨l1, l2, h3⟩ := h.s9 l
    refine ⟨l1, l2, fun q b0 b1 b2 b3 e1 e2 => (set4_other _ _ _ _ _ _ ?_).trans (h3 q b0 b1 b2 b3 e1 e2)⟩
    rintro rfl
    exact h.ne lp l2 (hp.trans e1.symm)
theorem I77.u9 {w0 : World} {xs ys : List Ent} {L : Array Bool} {f : Nat → Value} {W : World} (h : I77 w0 xs ys L f W) (hL : L.size = 10) (hf : L.getD 9 false = false) (lv : L.getD 5 false = true) (lp : L.getD 7 false = true) {p : Nat} (hp : f 7 = ptr p) {a0 a1 a2 a3 : Value} (he : f 5 = .agg #[a0, a1, a2, a3]) (u : Value) :
    I77 w0 xs ys (L.setIfInBounds 9 true) (updF f 9 u) (set4 W p a0 a1 a2 a3) := by
  have k : ∀ j, j ≠ 9 → (L.setIfInBounds 9 true).getD j false = L.getD j false := fun j hj => by rw [getDs (by omega)]; simp [hj]
  have kk : (L.setIfInBounds 9 true).getD 9 false = true := by rw [getDs (by omega)]; simp
  obtain ⟨p', e', hlo, v0, v1, v2, v3, hh⟩ := h.x7 lp
  obtain rfl := ptr_inj (hp.symm.trans e')
  have hbel : Below w0.heap.size w0 (set4 W p a0 a1 a2 a3) := (((h.bel.setCell (p := ⟨p, 0, none⟩) hlo _).setCell (p := ⟨p, 1, none⟩) hlo _).setCell (p := ⟨p, 2, none⟩) hlo _).setCell (p := ⟨p, 3, none⟩) hlo _
  have hnew : (set4 W p a0 a1 a2 a3).heap[p]? = some (.cells #[a0, a1, a2, a3] 60 (0, 0)) := set4_at _ _ _ _ _ _ _ _ _ _ _ hh
  refine ⟨hbel, ?_, ?_, ?_, ?_, ?_, ?_, ?_⟩ <;> simp only [kk, k 2 (by omega), k 5 (by omega), k 6 (by omega), k 7 (by omega), k 8 (by omega), updF_other f _ (show 2 ≠ 9 by omega), updF_other f _ (show 5 ≠ 9 by omega), updF_other f _ (show 6 ≠ 9 by omega), updF_other f _ (show 7 ≠ 9 by omega), updF_same]
  · intro l; obtain ⟨As, cs, e, hq⟩ := h.c2 l; exact ⟨As, cs, e, hq.keep60 hh _ _ _ _⟩
  · intro l; obtain ⟨As, cs, e, hq⟩ := h.c5 l; exact ⟨As, cs, e, hq.keep60 hh _ _ _ _⟩
  · intro l
    obtain ⟨q, e, h1, b0, b1, b2, b3, h2⟩ := h.x6 l
    by_cases hqp : q = p
    · subst hqp; exact ⟨q, e, h1, _, _, _, _, hnew⟩
    · exact ⟨q, e, h1, b0, b1, b2, b3, (set4_other _ _ _ _ _ _ hqp).trans h2⟩
  · intro l
    obtain ⟨q, e, h1, b0, b1, b2, b3, h2⟩ := h.x7 l
    by_cases hqp : q = p
    · subst hqp; exact ⟨q, e, h1, _, _, _, _, hnew⟩
    · exact ⟨q, e, h1, b0, b1, b2, b3, (set4_other _ _ _ _ _ _ hqp).trans h2⟩
  · exact h.ne
  · intro l
    obtain ⟨l1, l2, h3⟩ := h.s8 l
    refine ⟨l1, l2, fun q b0 b1 b2 b3 e1 e2 => (set4_other _ _ _ _ _ _ ?_).trans (h3 q b0 b1 b2 b3 e1 e2)⟩
    rintro rfl
    exact h.ne l2 lp (e1.trans hp.symm)
  · intro _
    refine ⟨lv, lp, fun q b0 b1 b2 b3 e1 e2 => ?_⟩
    obtain rfl := ptr_inj (hp.symm.trans e1)
    have e3 := he.symm.trans e2
    have e4 := Value.agg.inj e3
    rw [← e4]; exact hnew
def M77 (a b : Nd) (A B : Option Addr) (cA cB : Nat) : Nat → (Nat → Value) → World → Prop
  | 0, f, _ => f 0 = .agg #[.slice none 0 0, .slice none 0 0, .slice none 0 0, .slice none 0 0]
  | 1, f, _ => f 1 = a.val A cA
  | 3, f, _ => f 3 = .agg #[.slice none 0 0, .slice none 0 0, .slice none 0 0, .slice none 0 0]
  | 4, f, _ => f 4 = b.val B cB
  | _, _, _ => True
theorem M77_w {a b : Nd} {A B : Option Addr} {cA cB : Nat} (j : Nat) {f : Nat → Value} {W : World} (W' : World) (h : M77 a b A B cA cB j f W) : M77 a b A B cA cB j f W' := by
  rcases j with _ | _ | _ | _ | _ | j <;> exact h
def deps77 : Nat → List Nat := fun j => [j]
noncomputable def ops77_14 : Array Oper := ((Try.f14.body.bind (firstReg 1)).getD #[])
def ds77_14 : List (Option Nat) := [some 13, some 14, some 15, some 16, some 17, some 18, some 5, some 6, none, none]

set_option maxRecDepth 100000 in
set_option maxHeartbeats 1000000 in
theorem region77_14 (a b : Nd) (A B : Option Addr) (cA cB : Nat) (sa : a.size ≤ 900000) (sb : b.size ≤ 900000) (w0 : World) (hA : RN w0 a A cA) (hB : RN w0 b B cB) (pa pb : Nat) (hpa : At5 w0 pa 0 a A cA) (hpb : At5 w0 pb 0 b B cB)
    (bb : Array Value) (hb : bb.size = 89) (b2 : bb.getD 2 undef = ptr pa) (b3 : bb.getD 3 undef = ptr pb) (Q : Exit → Act → World → Prop) (w : World) (hw : Below w0.heap.size w0 w)
    (hend : ∀ (L : Array Bool) (f : Nat → Value) (W : World), (∀ j, j < 10 → L.getD j false = true) → I77 w0 (post a 0 0) (post b 0 0) L f W → Q .normal ⟨setAll f 0 ds77_14 bb, []⟩ W) :
    (Code.region 1 ops77_14 true).wp Try.prog Q ⟨bb, []⟩ w := by
  have HFA := Lib.hid (fun (V : World) (h : Below w0.heap.size w0 V) => refFlat0 w0 a A cA V hA h sa)
  have HFB := Lib.hid (fun (V : World) (h : Below w0.heap.size w0 V) => refFlat0 w0 b B cB V hB h sb)
  have la := post_len a 0 0
  have lb := post_len b 0 0
  clear hA hB
  refine wp_region_M (by kernel_rfl) (by kernel_rfl) ds77_14 (by kernel_rfl) (by rw [hb]; decide) (by kernel_rfl) (M77 a b A B cA cB) (I77 w0 (post a 0 0) (post b 0 0)) deps77 (by kernel_rfl) ?_ ?_ ?_ (fun L f W hL hall hI hM => hend L f W hall hI)
  · intro j f f' W h hm
    rcases j with _ | _ | _ | _ | _ | _ | _ | j
    all_goals simp only [deps77, List.mem_cons, List.not_mem_nil, or_false, forall_eq, M77, Nat.zero_add, Nat.reduceAdd] at h hm ⊢
    all_goals first | trivial | (rw [← h]; exact hm)
  · refine ⟨hw.drew, ?_, ?_, ?_, ?_, ?_, ?_, ?_⟩ <;> intro e <;> exact absurd e (by simp [Array.getD])
  intro i o L f a' W ho hs hI hM hf hpre hbs hsl hdc K hK
  have hL : L.size = 10 := hs
  have hi : i < 10 := (Array.getElem?_eq_some_iff.1 ho).1
  conv at ho => lhs; arg 1; whnf
  have s2 := (hbs 2 (by decide)).trans b2
  have s3 := (hbs 3 (by decide)).trans b3
  have HK := Lib.hid hK
  clear hK hbs b2 b3
  obtain ⟨x0, x1, x2, x3, x4⟩ := hpa.below hI.bel
  obtain ⟨y0, y1, y2, y3, y4⟩ := hpb.below hI.bel
  rcases i with _ | _ | _ | _ | _ | _ | _ | _ | _ | _ | i
  -- operation 0
  · simp only [List.getElem?_toArray, List.getElem?_cons_zero, List.getElem?_cons_succ, Option.some.injEq] at ho
    subst ho
    simp only [Nat.zero_add, Nat.reduceAdd] at hf hpre ⊢
    have HQ := Lib.hid (HK.out (.agg #[.slice none 0 0, .slice none 0 0, .slice none 0 0, .slice none 0 0]) W (hI.pure hL (by omega) (by omega) (by omega) (by omega) (by omega) (by omega) (by omega) _) (fun _ _ _ h => h) (by simp [M77, updF_same]))
    clear hI hM hpre hsl HK
    go_simp
    exact HQ.out
  -- operation 1
  · simp only [List.getElem?_toArray, List.getElem?_cons_zero, List.getElem?_cons_succ, Option.some.injEq] at ho
    subst ho
    simp only [Nat.zero_add, Nat.reduceAdd] at hf hpre ⊢
    have s2' : a'.tmps[2]?.getD undef = ptr pa := by rw [← Array.getD_eq_getD_getElem?]; exact s2
    unfold ptr at s2 s2'
    have HQ := Lib.hid (HK.out (a.val A cA) W (hI.pure hL (by omega) (by omega) (by omega) (by omega) (by omega) (by omega) (by omega) _) (fun _ _ _ h => h) (by simp [M77, updF_same]))
    clear hI hM hpre hsl HK
    unfold Nd.val at HQ
    go_simp
    exact HQ.out
  -- operation 2
  · simp only [List.getElem?_toArray, List.getElem?_cons_zero, List.getElem?_cons_succ, Option.some.injEq] at ho
    subst ho
    simp only [Nat.zero_add, Nat.reduceAdd] at hf hpre ⊢
    have l0 := (hpre ⟨0, .data⟩ (by simp) rfl)
    have l1 := (hpre ⟨1, .data⟩ (by simp) rfl)
    have q0 := (hsl 0 13 l0 rfl).trans (hM 0 l0)
    have q1 := (hsl 1 14 l1 rfl).trans (hM 1 l1)
    have q0' : a'.tmps[13]?.getD undef = .agg #[.slice none 0 0, .slice none 0 0, .slice none 0 0, .slice none 0 0] := by rw [← Array.getD_eq_getD_getElem?]; exact q0
    have q1' : a'.tmps[14]?.getD undef = a.val A cA := by rw [← Array.getD_eq_getD_getElem?]; exact q1
    have HC := Lib.hid (HFA.out W hI.bel)
    unfold Nd.val at q1 q1' HC
    clear s2 s3
    go_simp
    refine HC.out.mono ?_
    rintro e w' ⟨⟨As, cs, rfl, hq⟩, hb'⟩
    have hu := hI.u2 hL hf hb' hq
    rw [la] at hu
    exact HK.out _ _ hu (fun j _ _ h => M77_w j _ h) trivial
  -- operation 3
  · simp only [List.getElem?_toArray, List.getElem?_cons_zero, List.getElem?_cons_succ, Option.some.injEq] at ho
    subst ho
    simp only [Nat.zero_add, Nat.reduceAdd] at hf hpre ⊢
    have HQ := Lib.hid (HK.out (.agg #[.slice none 0 0, .slice none 0 0, .slice none 0 0, .slice none 0 0]) W (hI.pure hL (by omega) (by omega) (by omega) (by omega) (by omega) (by omega) (by omega) _) (fun _ _ _ h => h) (by simp [M77, updF_same]))
    clear hI hM hpre hsl HK
    go_simp
    exact HQ.out
  -- operation 4
  · simp only [List.getElem?_toArray, List.getElem?_cons_zero, List.getElem?_cons_succ, Option.some.injEq] at ho
    subst ho
    simp only [Nat.zero_add, Nat.reduceAdd] at hf hpre ⊢
    have s3' : a'.tmps[3]?.getD undef = ptr pb := by rw [← Array.getD_eq_getD_getElem?]; exact s3
    unfold ptr at s3 s3'
    have HQ := Lib.hid (HK.out (b.val B cB) W (hI.pure hL (by omega) (by omega) (by omega) (by omega) (by omega) (by omega) (by omega) _) (fun _ _ _ h => h) (by simp [M77, updF_same]))
    clear hI hM hpre hsl HK
    unfold Nd.val at HQ
    go_simp
    exact HQ.out
  -- operation 5
  · simp only [List.getElem?_toArray, List.getElem?_cons_zero, List.getElem?_cons_succ, Option.some.injEq] at ho
    subst ho
    simp only [Nat.zero_add, Nat.reduceAdd] at hf hpre ⊢
    have l0 := (hpre ⟨3, .data⟩ (by simp) rfl)
    have l1 := (hpre ⟨4, .data⟩ (by simp) rfl)
    have q0 := (hsl 3 16 l0 rfl).trans (hM 3 l0)
    have q1 := (hsl 4 17 l1 rfl).trans (hM 4 l1)
    have q0' : a'.tmps[16]?.getD undef = .agg #[.slice none 0 0, .slice none 0 0, .slice none 0 0, .slice none 0 0] := by rw [← Array.getD_eq_getD_getElem?]; exact q0
    have q1' : a'.tmps[17]?.getD undef = b.val B cB := by rw [← Array.getD_eq_getD_getElem?]; exact q1
    have HC := Lib.hid (HFB.out W hI.bel)
    unfold Nd.val at q1 q1' HC
    clear s2 s3
    go_simp
    refine HC.out.mono ?_
    rintro e w' ⟨⟨As, cs, rfl, hq⟩, hb'⟩
    have hu := hI.u5 hL hf hb' hq
    rw [lb] at hu
    exact HK.out _ _ hu (fun j _ _ h => M77_w j _ h) trivial
  -- operation 6
  · simp only [List.getElem?_toArray, List.getElem?_cons_zero, List.getElem?_cons_succ, Option.some.injEq] at ho
    subst ho
    simp only [Nat.zero_add, Nat.reduceAdd] at hf hpre ⊢
    have HQ := Lib.hid (HK.out (ptr W.heap.size) _ (hI.u6 hL hf) (fun j _ _ h => M77_w j _ h) trivial)
    unfold ptr at HQ
    clear hI hM hpre hsl HK
    go_simp
    exact HQ.out
  -- operation 7
  · simp only [List.getElem?_toArray, List.getElem?_cons_zero, List.getElem?_cons_succ, Option.some.injEq] at ho
    subst ho
    simp only [Nat.zero_add, Nat.reduceAdd] at hf hpre ⊢
    have HQ := Lib.hid (HK.out (ptr W.heap.size) _ (hI.u7 hL hf) (fun j _ _ h => M77_w j _ h) trivial)
    unfold ptr at HQ
    clear hI hM hpre hsl HK
    go_simp
    exact HQ.out
  -- operation 8
  · simp only [List.getElem?_toArray, List.getElem?_cons_zero, List.getElem?_cons_succ, Option.some.injEq] at ho
    subst ho
    simp only [Nat.zero_add, Nat.reduceAdd] at hf hpre ⊢
    have lp := (hpre ⟨6, .data⟩ (by simp) rfl)
    have lv := (hpre ⟨2, .data⟩ (by simp) rfl)
    obtain ⟨As, cs, ev, _⟩ := hI.c2 lv
    obtain ⟨p, ep, hlo, v0, v1, v2, v3, hh⟩ := hI.x6 lp
    rw [la] at ev
    have qp := (hsl 6 5 lp rfl).trans ep
    have qv := (hsl 2 15 lv rfl).trans ev
    have qp' : a'.tmps[5]?.getD undef = ptr p := by rw [← Array.getD_eq_getD_getElem?]; exact qp
    have qv' : a'.tmps[15]?.getD undef = agg4 As cs a.size := by rw [← Array.getD_eq_getD_getElem?]; exact qv
    obtain ⟨⟨z0, z1, z2, z3⟩, hfz⟩ := box4_cells hh
    have HQ := Lib.hid (HK.out undef _ (hI.u8 hL hf lv lp ep ev undef) (fun j _ _ h => M77_w j _ h) trivial)
    clear hI hM hpre hsl HK hh ev ep s2 s3 x0 x1 x2 x3 x4 y0 y1 y2 y3 y4 hf lp lv la lb
    unfold ptr at qp qp'
    unfold agg4 at qv qv'
    unfold set4 at HQ
    go_simp
    exact HQ.out
  -- operation 9
  · simp only [List.getElem?_toArray, List.getElem?_cons_zero, List.getElem?_cons_succ, Option.some.injEq] at ho
    subst ho
    simp only [Nat.zero_add, Nat.reduceAdd] at hf hpre ⊢
    have lp := (hpre ⟨7, .data⟩ (by simp) rfl)
    have lv := (hpre ⟨5, .data⟩ (by simp) rfl)
    obtain ⟨As, cs, ev, _⟩ := hI.c5 lv
    obtain ⟨p, ep, hlo, v0, v1, v2, v3, hh⟩ := hI.x7 lp
    rw [lb] at ev
    have qp := (hsl 7 6 lp rfl).trans ep
    have qv := (hsl 5 18 lv rfl).trans ev
    have qp' : a'.tmps[6]?.getD undef = ptr p := by rw [← Array.getD_eq_getD_getElem?]; exact qp
    have qv' : a'.tmps[18]?.getD undef = agg4 As cs b.size := by rw [← Array.getD_eq_getD_getElem?]; exact qv
    obtain ⟨⟨z0, z1, z2, z3⟩, hfz⟩ := box4_cells hh
    have HQ := Lib.hid (HK.out undef _ (hI.u9 hL hf lv lp ep ev undef) (fun j _ _ h => M77_w j _ h) trivial)
    clear hI hM hpre hsl HK hh ev ep s2 s3 x0 x1 x2 x3 x4 y0 y1 y2 y3 y4 hf lp lv la lb
    unfold ptr at qp qp'
    unfold agg4 at qv qv'
    unfold set4 at HQ
    go_simp
    exact HQ.out
  · omega
noncomputable def ops77_16 : Array Oper := ((Try.f16.body.bind (firstReg 1)).getD #[])
def ds77_16 : List (Option Nat) := [some 12, some 13, some 14, some 15, some 16, some 17, some 5, some 6, none, none]

set_option maxRecDepth 100000 in
set_option maxHeartbeats 1000000 in
theorem region77_16 (a b : Nd) (A B : Option Addr) (cA cB : Nat) (sa : a.size ≤ 900000) (sb : b.size ≤ 900000) (w0 : World) (hA : RN w0 a A cA) (hB : RN w0 b B cB) (pa pb : Nat) (hpa : At5 w0 pa 0 a A cA) (hpb : At5 w0 pb 0 b B cB)
    (bb : Array Value) (hb : bb.size = 85) (b2 : bb.getD 2 undef = ptr pa) (b3 : bb.getD 3 undef = ptr pb) (Q : Exit → Act → World → Prop) (w : World) (hw : Below w0.heap.size w0 w)
    (hend : ∀ (L : Array Bool) (f : Nat → Value) (W : World), (∀ j, j < 10 → L.getD j false = true) → I77 w0 (post a 0 0) (post b 0 0) L f W → Q .normal ⟨setAll f 0 ds77_16 bb, []⟩ W) :
    (Code.region 1 ops77_16 true).wp Try.prog Q ⟨bb, []⟩ w := by
  have HFA := Lib.hid (fun (V : World) (h : Below w0.heap.size w0 V) => refFlat0 w0 a A cA V hA h sa)
  have HFB := Lib.hid (fun (V : World) (h : Below w0.heap.size w0 V) => refFlat0 w0 b B cB V hB h sb)
  have la := post_len a 0 0
  have lb := post_len b 0 0
  clear hA hB
  refine wp_region_M (by kernel_rfl) (by kernel_rfl) ds77_16 (by kernel_rfl) (by rw [hb]; decide) (by kernel_rfl) (M77 a b A B cA cB) (I77 w0 (post a 0 0) (post b 0 0)) deps77 (by kernel_rfl) ?_ ?_ ?_ (fun L f W hL hall hI hM => hend L f W hall hI)
  · intro j f f' W h hm
    rcases j with _ | _ | _ | _ | _ | _ | _ | j
    all_goals simp only [deps77, List.mem_cons, List.not_mem_nil, or_false, forall_eq, M77, Nat.zero_add, Nat.reduceAdd] at h hm ⊢
    all_goals first | trivial | (rw [← h]; exact hm)
  · refine ⟨hw.drew, ?_, ?_, ?_, ?_, ?_, ?_, ?_⟩ <;> intro e <;> exact absurd e (by simp [Array.getD])
  intro i o L f a' W ho hs hI hM hf hpre hbs hsl hdc K hK
  have hL : L.size = 10 := hs
  have hi : i < 10 := (Array.getElem?_eq_some_iff.1 ho).1
  conv at ho => lhs; arg 1; whnf
  have s2 := (hbs 2 (by decide)).trans b2
  have s3 := (hbs 3 (by decide)).trans b3
  have HK := Lib.hid hK
  clear hK hbs b2 b3
  obtain ⟨x0, x1, x2, x3, x4⟩ := hpa.below hI.bel
  obtain ⟨y0, y1, y2, y3, y4⟩ := hpb.below hI.bel
  rcases i with _ | _ | _ | _ | _ | _ | _ | _ | _ | _ | i
  -- operation 0
  · simp only [List.getElem?_toArray, List.getElem?_cons_zero, List.getElem?_cons_succ, Option.some.injEq] at ho
    subst ho
    simp only [Nat.zero_add, Nat.reduceAdd] at hf hpre ⊢
    have HQ := Lib.hid (HK.out (.agg #[.slice none 0 0, .slice none 0 0, .slice none 0 0, .slice none 0 0]) W (hI.pure hL (by omega) (by omega) (by omega) (by omega) (by omega) (by omega) (by omega) _) (fun _ _ _ h => h) (by simp [M77, updF_same]))
    clear hI hM hpre hsl HK
    go_simp
    exact HQ.out
  -- operation 1
  · simp only [List.getElem?_toArray, List.getElem?_cons_zero, List.getElem?_cons_succ, Option.some.injEq] at ho
    subst ho
    simp only [Nat.zero_add, Nat.reduceAdd] at hf hpre ⊢
    have s2' : a'.tmps[2]?.getD undef = ptr pa := by rw [← Array.getD_eq_getD_getElem?]; exact s2
    unfold ptr at s2 s2'
    have HQ := Lib.hid (HK.out (a.val A cA) W (hI.pure hL (by omega) (by omega) (by omega) (by omega) (by omega) (by omega) (by omega) _) (fun _ _ _ h => h) (by simp [M77, updF_same]))
    clear hI hM hpre hsl HK
    unfold Nd.val at HQ
    go_simp
    exact HQ.out
  -- operation 2
  · simp only [List.getElem?_toArray, List.getElem?_cons_zero, List.getElem?_cons_succ, Option.some.injEq] at ho
    subst ho
    simp only [Nat.zero_add, Nat.reduceAdd] at hf hpre ⊢
    have l0 := (hpre ⟨0, .data⟩ (by simp) rfl)
    have l1 := (hpre ⟨1, .data⟩ (by simp) rfl)
    have q0 := (hsl 0 12 l0 rfl).trans (hM 0 l0)
    have q1 := (hsl 1 13 l1 rfl).trans (hM 1 l1)
    have q0' : a'.tmps[12]?.getD undef = .agg #[.slice none 0 0, .slice none 0 0, .slice none 0 0, .slice none 0 0] := by rw [← Array.getD_eq_getD_getElem?]; exact q0
    have q1' : a'.tmps[13]?.getD undef = a.val A cA := by rw [← Array.getD_eq_getD_getElem?]; exact q1
    have HC := Lib.hid (HFA.out W hI.bel)
    unfold Nd.val at q1 q1' HC
    clear s2 s3
    go_simp
    refine HC.out.mono ?_
    rintro e w' ⟨⟨As, cs, rfl, hq⟩, hb'⟩
    have hu := hI.u2 hL hf hb' hq
    rw [la] at hu
    exact HK.out _ _ hu (fun j _ _ h => M77_w j _ h) trivial
  -- operation 3
  · simp only [List.getElem?_toArray, List.getElem?_cons_zero, List.getElem?_cons_succ, Option.some.injEq] at ho
    subst ho
    simp only [Nat.zero_add, Nat.reduceAdd] at hf hpre ⊢
    have HQ := Lib.hid (HK.out (.agg #[.slice none 0 0, .slice none 0 0, .slice none 0 0, .slice none 0 0]) W (hI.pure hL (by omega) (by omega) (by omega) (by omega) (by omega) (by omega) (by omega) _) (fun _ _ _ h => h) (by simp [M77, updF_same]))
    clear hI hM hpre hsl HK
    go_simp
    exact HQ.out
  -- operation 4
  · simp only [List.getElem?_toArray, List.getElem?_cons_zero, List.getElem?_cons_succ, Option.some.injEq] at ho
    subst ho
    simp only [Nat.zero_add, Nat.reduceAdd] at hf hpre ⊢
    have s3' : a'.tmps[3]?.getD undef = ptr pb := by rw [← Array.getD_eq_getD_getElem?]; exact s3
    unfold ptr at s3 s3'
    have HQ := Lib.hid (HK.out (b.val B cB) W (hI.pure hL (by omega) (by omega) (by omega) (by omega) (by omega) (by omega) (by omega) _) (fun _ _ _ h => h) (by simp [M77, updF_same]))
    clear hI hM hpre hsl HK
    unfold Nd.val at HQ
    go_simp
    exact HQ.out
  -- operation 5
  · simp only [List.getElem?_toArray, List.getElem?_cons_zero, List.getElem?_cons_succ, Option.some.injEq] at ho
    subst ho
    simp only [Nat.zero_add, Nat.reduceAdd] at hf hpre ⊢
    have l0 := (hpre ⟨3, .data⟩ (by simp) rfl)
    have l1 := (hpre ⟨4, .data⟩ (by simp) rfl)
    have q0 := (hsl 3 15 l0 rfl).trans (hM 3 l0)
    have q1 := (hsl 4 16 l1 rfl).trans (hM 4 l1)
    have q0' : a'.tmps[15]?.getD undef = .agg #[.slice none 0 0, .slice none 0 0, .slice none 0 0, .slice none 0 0] := by rw [← Array.getD_eq_getD_getElem?]; exact q0
    have q1' : a'.tmps[16]?.getD undef = b.val B cB := by rw [← Array.getD_eq_getD_getElem?]; exact q1
    have HC := Lib.hid (HFB.out W hI.bel)
    unfold Nd.val at q1 q1' HC
    clear s2 s3
    go_simp
    refine HC.out.mono ?_
    rintro e w' ⟨⟨As, cs, rfl, hq⟩, hb'⟩
    have hu := hI.u5 hL hf hb' hq
    rw [lb] at hu
    exact HK.out _ _ hu (fun j _ _ h => M77_w j _ h) trivial
  -- operation 6
  · simp only [List.getElem?_toArray, List.getElem?_cons_zero, List.getElem?_cons_succ, Option.some.injEq] at ho
    subst ho
    simp only [Nat.zero_add, Nat.reduceAdd] at hf hpre ⊢
    have HQ := Lib.hid (HK.out (ptr W.heap.size) _ (hI.u6 hL hf) (fun j _ _ h => M77_w j _ h) trivial)
    unfold ptr at HQ
    clear hI hM hpre hsl HK
    go_simp
    exact HQ.out
  -- operation 7
  · simp only [List.getElem?_toArray, List.getElem?_cons_zero, List.getElem?_cons_succ, Option.some.injEq] at ho
    subst ho
    simp only [Nat.zero_add, Nat.reduceAdd] at hf hpre ⊢
    have HQ := Lib.hid (HK.out (ptr W.heap.size) _ (hI.u7 hL hf) (fun j _ _ h => M77_w j _ h) trivial)
    unfold ptr at HQ
    clear hI hM hpre hsl HK
    go_simp
    exact HQ.out
  -- operation 8
  · simp only [List.getElem?_toArray, List.getElem?_cons_zero, List.getElem?_cons_succ, Option.some.injEq] at ho
    subst ho
    simp only [Nat.zero_add, Nat.reduceAdd] at hf hpre ⊢
    have lp := (hpre ⟨6, .data⟩ (by simp) rfl)
    have lv := (hpre ⟨2, .data⟩ (by simp) rfl)
    obtain ⟨As, cs, ev, _⟩ := hI.c2 lv
    obtain ⟨p, ep, hlo, v0, v1, v2, v3, hh⟩ := hI.x6 lp
    rw [la] at ev
    have qp := (hsl 6 5 lp rfl).trans ep
    have qv := (hsl 2 14 lv rfl).trans ev
    have qp' : a'.tmps[5]?.getD undef = ptr p := by rw [← Array.getD_eq_getD_getElem?]; exact qp
    have qv' : a'.tmps[14]?.getD undef = agg4 As cs a.size := by rw [← Array.getD_eq_getD_getElem?]; exact qv
    obtain ⟨⟨z0, z1, z2, z3⟩, hfz⟩ := box4_cells hh
    have HQ := Lib.hid (HK.out undef _ (hI.u8 hL hf lv lp ep ev undef) (fun j _ _ h => M77_w j _ h) trivial)
    clear hI hM hpre hsl HK hh ev ep s2 s3 x0 x1 x2 x3 x4 y0 y1 y2 y3 y4 hf lp lv la lb
    unfold ptr at qp qp'
    unfold agg4 at qv qv'
    unfold set4 at HQ
    go_simp
    exact HQ.out
  -- operation 9
  · simp only [List.getElem?_toArray, List.getElem?_cons_zero, List.getElem?_cons_succ, Option.some.injEq] at ho
    subst ho
    simp only [Nat.zero_add, Nat.reduceAdd] at hf hpre ⊢
    have lp := (hpre ⟨7, .data⟩ (by simp) rfl)
    have lv := (hpre ⟨5, .data⟩ (by simp) rfl)
    obtain ⟨As, cs, ev, _⟩ := hI.c5 lv
    obtain ⟨p, ep, hlo, v0, v1, v2, v3, hh⟩ := hI.x7 lp
    rw [lb] at ev
    have qp := (hsl 7 6 lp rfl).trans ep
    have qv := (hsl 5 17 lv rfl).trans ev
    have qp' : a'.tmps[6]?.getD undef = ptr p := by rw [← Array.getD_eq_getD_getElem?]; exact qp
    have qv' : a'.tmps[17]?.getD undef = agg4 As cs b.size := by rw [← Array.getD_eq_getD_getElem?]; exact qv
    obtain ⟨⟨z0, z1, z2, z3⟩, hfz⟩ := box4_cells hh
    have HQ := Lib.hid (HK.out undef _ (hI.u9 hL hf lv lp ep ev undef) (fun j _ _ h => M77_w j _ h) trivial)
    clear hI hM hpre hsl HK hh ev ep s2 s3 x0 x1 x2 x3 x4 y0 y1 y2 y3 y4 hf lp lv la lb
    unfold ptr at qp qp'
    unfold agg4 at qv qv'
    unfold set4 at HQ
    go_simp
    exact HQ.out
  · omega
end Go.Proofs.Ytjijfgkmjachnaa
