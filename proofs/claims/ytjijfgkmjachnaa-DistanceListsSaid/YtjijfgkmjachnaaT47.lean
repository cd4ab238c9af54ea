import Derived.Test.YtjijfgkmjachnaaT45
import Derived.Test.YtjijfgkmjachnaaT35
namespace Go.Proofs.Ytjijfgkmjachnaa
set_option linter.unusedVariables false
set_option linter.unusedSimpArgs false
open Go.RowKit

noncomputable def ops15 : Array Oper := ((Try.f15.body.bind (firstReg 1)).getD #[])
def frm15 (x y : Value) (p q : Nat) (v5 v6 v13 v14 v15 v16 v17 v18 : Value) : Array Value := #[x, y, .pointer (some ⟨p, 0, none⟩), .pointer (some ⟨q, 0, none⟩), .int .i64 0, v5, v6, undef, undef, undef, undef, undef, undef, v13, v14, v15, v16, v17, v18, undef, undef, undef, undef, undef, undef, undef, undef, undef, undef, undef, undef, undef, undef, undef, undef, undef, undef, undef, undef, undef, undef, undef, undef, undef, undef, undef, undef, undef, undef, undef, undef, undef, undef, undef, undef, undef, undef, undef, undef]
def fst66 : Value → Value
  | .agg cs => cs.getD 0 undef
  | _ => undef
theorem fld66 (x1 x2 : Value) (A : Option Addr) (n c : Nat) (W : World) : (Instr.field 66 (.agg #[.slice A n c, x1, x2]) 0).run Try.prog W = .ok (.slice A n c) W := by kernel_rfl
theorem Fl.fld {W : World} {t : Nd} {v : Value} (h : Fl W t v) (W' : World) : (Instr.field 66 v 0).run Try.prog W' = .ok (fst66 v) W' := by
  obtain ⟨gL, gF, gN, cL, cF, cN, rfl, _⟩ := h
  exact fld66 _ _ _ _ _ _

structure R15 (C : X30) (L : Array Bool) (W : World) (v5 v6 v13 v14 v15 v16 v17 v18 : Value) : Prop where
  bel : Below C.w0.heap.size C.w0 W
  f0 : L.getD 0 false = true → v13 = C.a.val C.A C.cA
  f1 : L.getD 1 false = true → Fl W C.a v14
  f2 : L.getD 2 false = true → v15 = fst66 v14
  f3 : L.getD 3 false = true → v16 = C.b.val C.B C.cB
  f4 : L.getD 4 false = true → Fl W C.b v17
  f5 : L.getD 5 false = true → v18 = fst66 v17
  f6 : L.getD 6 false = true → v5 = v15
  f7 : L.getD 7 false = true → v6 = v18
  g2 : L.getD 2 false = true → L.getD 1 false = true
  g5 : L.getD 5 false = true → L.getD 4 false = true
  g6 : L.getD 6 false = true → L.getD 2 false = true
  g7 : L.getD 7 false = true → L.getD 5 false = true
def I15 (C : X30) (x y : Value) (L : Array Bool) (act : Act) (W : World) : Prop :=
  ∃ v5 v6 v13 v14 v15 v16 v17 v18, act = ⟨frm15 x y C.p C.q v5 v6 v13 v14 v15 v16 v17 v18, []⟩ ∧ R15 C L W v5 v6 v13 v14 v15 v16 v17 v18

theorem R15.grow {C : X30} {L : Array Bool} {W W' : World} {v5 v6 v13 v14 v15 v16 v17 v18 : Value} (h : R15 C L W v5 v6 v13 v14 v15 v16 v17 v18) (hb : Below W.heap.size W W') : R15 C L W' v5 v6 v13 v14 v15 v16 v17 v18 :=
  ⟨h.bel.trans (hb.mono h.bel.size), h.f0, fun l => (h.f1 l).below hb, h.f2, h.f3, fun l => (h.f4 l).below hb, h.f5, h.f6, h.f7, h.g2, h.g5, h.g6, h.g7⟩
theorem no_of {x y : Bool} (h : x = true → y = true) (hy : y = false) : x = false := by cases x with | false => rfl | true => (have := h rfl; rw [hy] at this; cases this)
theorem R15.s0 {C : X30} {L : Array Bool} {W : World} {v5 v6 v13 v14 v15 v16 v17 v18 : Value} (h : R15 C L W v5 v6 v13 v14 v15 v16 v17 v18) (hL : L.size = 8) (hi : L.getD 0 false = false) : R15 C (L.setIfInBounds 0 true) W v5 v6 (C.a.val C.A C.cA) v14 v15 v16 v17 v18 := by
  have hk : ∀ j, j ≠ 0 → (L.setIfInBounds 0 true).getD j false = L.getD j false := fun j hj => by rw [getD_set (by omega)]; simp [hj]
  have k1 := hk 1 (by omega)
  have k2 := hk 2 (by omega)
  have k3 := hk 3 (by omega)
  have k4 := hk 4 (by omega)
  have k5 := hk 5 (by omega)
  have k6 := hk 6 (by omega)
  have k7 := hk 7 (by omega)
  have k0 : (L.setIfInBounds 0 true).getD 0 false = true := by rw [getD_set (by omega)]; simp
  refine ⟨?_, ?_, ?_, ?_, ?_, ?_, ?_, ?_, ?_, ?_, ?_, ?_, ?_⟩ <;> try simp only [k0, k1, k2, k3, k4, k5, k6, k7]
  · first | exact h.bel | (intros; trivial)
  · first | exact fun _ => rfl | (intros; trivial)
  · first | exact h.f1 | (intros; trivial)
  · first | exact h.f2 | (intros; trivial)
  · first | exact h.f3 | (intros; trivial)
  · first | exact h.f4 | (intros; trivial)
  · first | exact h.f5 | (intros; trivial)
  · first | exact h.f6 | (intros; trivial)
  · first | exact h.f7 | (intros; trivial)
  · first | exact h.g2 | (intros; trivial)
  · first | exact h.g5 | (intros; trivial)
  · first | exact h.g6 | (intros; trivial)
  · first | exact h.g7 | (intros; trivial)

theorem R15.s3 {C : X30} {L : Array Bool} {W : World} {v5 v6 v13 v14 v15 v16 v17 v18 : Value} (h : R15 C L W v5 v6 v13 v14 v15 v16 v17 v18) (hL : L.size = 8) (hi : L.getD 3 false = false) : R15 C (L.setIfInBounds 3 true) W v5 v6 v13 v14 v15 (C.b.val C.B C.cB) v17 v18 := by
  have hk : ∀ j, j ≠ 3 → (L.setIfInBounds 3 true).getD j false = L.getD j false := fun j hj => by rw [getD_set (by omega)]; simp [hj]
  have k0 := hk 0 (by omega)
  have k1 := hk 1 (by omega)
  have k2 := hk 2 (by omega)
  have k4 := hk 4 (by omega)
  have k5 := hk 5 (by omega)
  have k6 := hk 6 (by omega)
  have k7 := hk 7 (by omega)
  have k3 : (L.setIfInBounds 3 true).getD 3 false = true := by rw [getD_set (by omega)]; simp
  refine ⟨?_, ?_, ?_, ?_, ?_, ?_, ?_, ?_, ?_, ?_, ?_, ?_, ?_⟩ <;> try simp only [k0, k1, k2, k3, k4, k5, k6, k7]
  · first | exact h.bel | (intros; trivial)
  · first | exact h.f0 | (intros; trivial)
  · first | exact h.f1 | (intros; trivial)
  · first | exact h.f2 | (intros; trivial)
  · first | exact fun _ => rfl | (intros; trivial)
  · first | exact h.f4 | (intros; trivial)
  · first | exact h.f5 | (intros; trivial)
  · first | exact h.f6 | (intros; trivial)
  · first | exact h.f7 | (intros; trivial)
  · first | exact h.g2 | (intros; trivial)
  · first | exact h.g5 | (intros; trivial)
  · first | exact h.g6 | (intros; trivial)
  · first | exact h.g7 | (intros; trivial)

theorem R15.s1 {C : X30} {L : Array Bool} {W : World} {v5 v6 v13 v14 v15 v16 v17 v18 : Value} (h : R15 C L W v5 v6 v13 v14 v15 v16 v17 v18) (hL : L.size = 8) {v : Value} (hv : Fl W C.a v) (hi : L.getD 1 false = false) : R15 C (L.setIfInBounds 1 true) W v5 v6 v13 v v15 v16 v17 v18 := by
  have hk : ∀ j, j ≠ 1 → (L.setIfInBounds 1 true).getD j false = L.getD j false := fun j hj => by rw [getD_set (by omega)]; simp [hj]
  have k0 := hk 0 (by omega)
  have k2 := hk 2 (by omega)
  have k3 := hk 3 (by omega)
  have k4 := hk 4 (by omega)
  have k5 := hk 5 (by omega)
  have k6 := hk 6 (by omega)
  have k7 := hk 7 (by omega)
  have k1 : (L.setIfInBounds 1 true).getD 1 false = true := by rw [getD_set (by omega)]; simp
  refine ⟨?_, ?_, ?_, ?_, ?_, ?_, ?_, ?_, ?_, ?_, ?_, ?_, ?_⟩ <;> try simp only [k0, k1, k2, k3, k4, k5, k6, k7]
  · first | exact h.bel | (intros; trivial)
  · first | exact h.f0 | (intros; trivial)
  · first | exact fun _ => hv | (intros; trivial)
  · first | (intro l; rw [no_of h.g2 hi] at l; cases l) | (intros; trivial)
  · first | exact h.f3 | (intros; trivial)
  · first | exact h.f4 | (intros; trivial)
  · first | exact h.f5 | (intros; trivial)
  · first | exact h.f6 | (intros; trivial)
  · first | exact h.f7 | (intros; trivial)
  · first | exact h.g2 | (intros; trivial)
  · first | exact h.g5 | (intros; trivial)
  · first | exact h.g6 | (intros; trivial)
  · first | exact h.g7 | (intros; trivial)

theorem R15.s4 {C : X30} {L : Array Bool} {W : World} {v5 v6 v13 v14 v15 v16 v17 v18 : Value} (h : R15 C L W v5 v6 v13 v14 v15 v16 v17 v18) (hL : L.size = 8) {v : Value} (hv : Fl W C.b v) (hi : L.getD 4 false = false) : R15 C (L.setIfInBounds 4 true) W v5 v6 v13 v14 v15 v16 v v18 := by
  have hk : ∀ j, j ≠ 4 → (L.setIfInBounds 4 true).getD j false = L.getD j false := fun j hj => by rw [getD_set (by omega)]; simp [hj]
  have k0 := hk 0 (by omega)
  have k1 := hk 1 (by omega)
  have k2 := hk 2 (by omega)
  have k3 := hk 3 (by omega)
  have k5 := hk 5 (by omega)
  have k6 := hk 6 (by omega)
  have k7 := hk 7 (by omega)
  have k4 : (L.setIfInBounds 4 true).getD 4 false = true := by rw [getD_set (by omega)]; simp
  refine ⟨?_, ?_, ?_, ?_, ?_, ?_, ?_, ?_, ?_, ?_, ?_, ?_, ?_⟩ <;> try simp only [k0, k1, k2, k3, k4, k5, k6, k7]
  · first | exact h.bel | (intros; trivial)
  · first | exact h.f0 | (intros; trivial)
  · first | exact h.f1 | (intros; trivial)
  · first | exact h.f2 | (intros; trivial)
  · first | exact h.f3 | (intros; trivial)
  · first | exact fun _ => hv | (intros; trivial)
  · first | (intro l; rw [no_of h.g5 hi] at l; cases l) | (intros; trivial)
  · first | exact h.f6 | (intros; trivial)
  · first | exact h.f7 | (intros; trivial)
  · first | exact h.g2 | (intros; trivial)
  · first | exact h.g5 | (intros; trivial)
  · first | exact h.g6 | (intros; trivial)
  · first | exact h.g7 | (intros; trivial)

theorem R15.s2 {C : X30} {L : Array Bool} {W : World} {v5 v6 v13 v14 v15 v16 v17 v18 : Value} (h : R15 C L W v5 v6 v13 v14 v15 v16 v17 v18) (hL : L.size = 8) (l1 : L.getD 1 false = true) (hi : L.getD 2 false = false) : R15 C (L.setIfInBounds 2 true) W v5 v6 v13 v14 (fst66 v14) v16 v17 v18 := by
  have hk : ∀ j, j ≠ 2 → (L.setIfInBounds 2 true).getD j false = L.getD j false := fun j hj => by rw [getD_set (by omega)]; simp [hj]
  have k0 := hk 0 (by omega)
  have k1 := hk 1 (by omega)
  have k3 := hk 3 (by omega)
  have k4 := hk 4 (by omega)
  have k5 := hk 5 (by omega)
  have k6 := hk 6 (by omega)
  have k7 := hk 7 (by omega)
  have k2 : (L.setIfInBounds 2 true).getD 2 false = true := by rw [getD_set (by omega)]; simp
  refine ⟨?_, ?_, ?_, ?_, ?_, ?_, ?_, ?_, ?_, ?_, ?_, ?_, ?_⟩ <;> try simp only [k0, k1, k2, k3, k4, k5, k6, k7]
  · first | exact h.bel | (intros; trivial)
  · first | exact h.f0 | (intros; trivial)
  · first | exact h.f1 | (intros; trivial)
  · first | exact fun _ => rfl | (intros; trivial)
  · first | exact h.f3 | (intros; trivial)
  · first | exact h.f4 | (intros; trivial)
  · first | exact h.f5 | (intros; trivial)
  · first | (intro l; rw [no_of h.g6 hi] at l; cases l) | (intros; trivial)
  · first | exact h.f7 | (intros; trivial)
  · first | exact fun _ => l1 | (intros; trivial)
  · first | exact h.g5 | (intros; trivial)
  · first | exact h.g6 | (intros; trivial)
  · first | exact h.g7 | (intros; trivial)

theorem R15.s5 {C : X30} {L : Array Bool} {W : World} {v5 v6 v13 v14 v15 v16 v17 v18 : Value} (h : R15 C L W v5 v6 v13 v14 v15 v16 v17 v18) (hL : L.size = 8) (l1 : L.getD 4 false = true) (hi : L.getD 5 false = false) : R15 C (L.setIfInBounds 5 true) W v5 v6 v13 v14 v15 v16 v17 (fst66 v17) := by
  have hk : ∀ j, j ≠ 5 → (L.setIfInBounds 5 true).getD j false = L.getD j false := fun j hj => by rw [getD_set (by omega)]; simp [hj]
  have k0 := hk 0 (by omega)
  have k1 := hk 1 (by omega)
  have k2 := hk 2 (by omega)
  have k3 := hk 3 (by omega)
  have k4 := hk 4 (by omega)
  have k6 := hk 6 (by omega)
  have k7 := hk 7 (by omega)
  have k5 : (L.setIfInBounds 5 true).getD 5 false = true := by rw [getD_set (by omega)]; simp
  refine ⟨?_, ?_, ?_, ?_, ?_, ?_, ?_, ?_, ?_, ?_, ?_, ?_, ?_⟩ <;> try simp only [k0, k1, k2, k3, k4, k5, k6, k7]
  · first | exact h.bel | (intros; trivial)
  · first | exact h.f0 | (intros; trivial)
  · first | exact h.f1 | (intros; trivial)
  · first | exact h.f2 | (intros; trivial)
  · first | exact h.f3 | (intros; trivial)
  · first | exact h.f4 | (intros; trivial)
  · first | exact fun _ => rfl | (intros; trivial)
  · first | exact h.f6 | (intros; trivial)
  · first | (intro l; rw [no_of h.g7 hi] at l; cases l) | (intros; trivial)
  · first | exact h.g2 | (intros; trivial)
  · first | exact fun _ => l1 | (intros; trivial)
  · first | exact h.g6 | (intros; trivial)
  · first | exact h.g7 | (intros; trivial)

theorem R15.s6 {C : X30} {L : Array Bool} {W : World} {v5 v6 v13 v14 v15 v16 v17 v18 : Value} (h : R15 C L W v5 v6 v13 v14 v15 v16 v17 v18) (hL : L.size = 8) (l1 : L.getD 2 false = true) (hi : L.getD 6 false = false) : R15 C (L.setIfInBounds 6 true) W v15 v6 v13 v14 v15 v16 v17 v18 := by
  have hk : ∀ j, j ≠ 6 → (L.setIfInBounds 6 true).getD j false = L.getD j false := fun j hj => by rw [getD_set (by omega)]; simp [hj]
  have k0 := hk 0 (by omega)
  have k1 := hk 1 (by omega)
  have k2 := hk 2 (by omega)
  have k3 := hk 3 (by omega)
  have k4 := hk 4 (by omega)
  have k5 := hk 5 (by omega)
  have k7 := hk 7 (by omega)
  have k6 : (L.setIfInBounds 6 true).getD 6 false = true := by rw [getD_set (by omega)]; simp
  refine ⟨?_, ?_, ?_, ?_, ?_, ?_, ?_, ?_, ?_, ?_, ?_, ?_, ?_⟩ <;> try simp only [k0, k1, k2, k3, k4, k5, k6, k7]
  · first | exact h.bel | (intros; trivial)
  · first | exact h.f0 | (intros; trivial)
  · first | exact h.f1 | (intros; trivial)
  · first | exact h.f2 | (intros; trivial)
  · first | exact h.f3 | (intros; trivial)
  · first | exact h.f4 | (intros; trivial)
  · first | exact h.f5 | (intros; trivial)
  · first | exact fun _ => rfl | (intros; trivial)
  · first | exact h.f7 | (intros; trivial)
  · first | exact h.g2 | (intros; trivial)
  · first | exact h.g5 | (intros; trivial)
  · first | exact fun _ => l1 | (intros; trivial)
  · first | exact h.g7 | (intros; trivial)

theorem R15.s7 {C : X30} {L : Array Bool} {W : World} {v5 v6 v13 v14 v15 v16 v17 v18 : Value} (h : R15 C L W v5 v6 v13 v14 v15 v16 v17 v18) (hL : L.size = 8) (l1 : L.getD 5 false = true) (hi : L.getD 7 false = false) : R15 C (L.setIfInBounds 7 true) W v5 v18 v13 v14 v15 v16 v17 v18 := by
  have hk : ∀ j, j ≠ 7 → (L.setIfInBounds 7 true).getD j false = L.getD j false := fun j hj => by rw [getD_set (by omega)]; simp [hj]
  have k0 := hk 0 (by omega)
  have k1 := hk 1 (by omega)
  have k2 := hk 2 (by omega)
  have k3 := hk 3 (by omega)
  have k4 := hk 4 (by omega)
  have k5 := hk 5 (by omega)
  have k6 := hk 6 (by omega)
  have k7 : (L.setIfInBounds 7 true).getD 7 false = true := by rw [getD_set (by omega)]; simp
  refine ⟨?_, ?_, ?_, ?_, ?_, ?_, ?_, ?_, ?_, ?_, ?_, ?_, ?_⟩ <;> try simp only [k0, k1, k2, k3, k4, k5, k6, k7]
  · first | exact h.bel | (intros; trivial)
  · first | exact h.f0 | (intros; trivial)
  · first | exact h.f1 | (intros; trivial)
  · first | exact h.f2 | (intros; trivial)
  · first | exact h.f3 | (intros; trivial)
  · first | exact h.f4 | (intros; trivial)
  · first | exact h.f5 | (intros; trivial)
  · first | exact h.f6 | (intros; trivial)
  · first | exact fun _ => rfl | (intros; trivial)
  · first | exact h.g2 | (intros; trivial)
  · first | exact h.g5 | (intros; trivial)
  · first | exact h.g6 | (intros; trivial)
  · first | exact fun _ => l1 | (intros; trivial)


set_option maxRecDepth 100000 in
set_option maxHeartbeats 4000000 in
theorem region15 (C : X30) (ok : C.Ok) (x y : Value) (Q : Exit → Act → World → Prop) (act : Act) (w : World) (h0 : I15 C x y (Array.replicate 8 false) act w.drew)
    (hend : ∀ L a' W, I15 C x y L a' W → (∀ i, i < 8 → L.getD i false = true) → Q .normal a' W) :
    (Code.region 1 ops15 true).wp Try.prog Q act w := by
  refine wp_region_inv (by kernel_rfl) (by kernel_rfl) (I15 C x y) h0 ?_ (fun L a' W hs hall hI => hend L a' W hI hall)
  intro i o L a W ho hs hI hf hpre
  obtain ⟨v5, v6, v13, v14, v15, v16, v17, v18, rfl, h⟩ := hI
  have hL : L.size = 8 := hs
  have hi : i < 8 := (Array.getElem?_eq_some_iff.1 ho).1
  conv at ho => lhs; arg 1; whnf
  have hp := h.bel
  have pa := At5.below ok.p5 hp
  have qa := At5.below ok.q5 hp
  obtain ⟨a0, a1, a2, a3, a4⟩ := pa
  obtain ⟨b0, b1, b2, b3, b4⟩ := qa
  rcases i with _ | _ | _ | _ | _ | _ | _ | _ | i
  · simp only [List.getElem?_toArray, List.getElem?_cons_zero, List.getElem?_cons_succ, Option.some.injEq] at ho
    subst ho
    simp only [Region.wanted, if_true, Nat.zero_add, Nat.reduceAdd] at hf hpre ⊢
    have HQ := Lib.hid (h.s0 hL hf)
    clear h hpre hp ok
    unfold frm15
    go_simp
    exact ⟨_, _, _, _, _, _, _, _, rfl, HQ.out⟩
  · simp only [List.getElem?_toArray, List.getElem?_cons_zero, List.getElem?_cons_succ, Option.some.injEq] at ho
    subst ho
    simp only [Region.wanted, if_true, Nat.zero_add, Nat.reduceAdd] at hf hpre ⊢
    have e := h.f0 (hpre ⟨0, .data⟩ (by simp) rfl)
    subst e
    unfold frm15
    go_simp
    refine (flattenF C.a C.A C.cA W (RN.keep hp ok.ra) ok.sa).mono ?_
    rintro e w' ⟨⟨v, rfl, hv⟩, hb⟩
    exact ⟨_, _, _, _, _, _, _, _, rfl, (h.grow hb).s1 hL hv hf⟩
  · simp only [List.getElem?_toArray, List.getElem?_cons_zero, List.getElem?_cons_succ, Option.some.injEq] at ho
    subst ho
    simp only [Region.wanted, if_true, Nat.zero_add, Nat.reduceAdd] at hf hpre ⊢
    have l1 : L.getD 1 false = true := hpre ⟨1, .data⟩ (by simp) rfl
    have hfl := (h.f1 l1).fld
    have HQ := Lib.hid (h.s2 hL l1 hf)
    clear h hpre hp ok
    unfold frm15
    go_simp
    exact ⟨_, _, _, _, _, _, _, _, rfl, HQ.out⟩
  · simp only [List.getElem?_toArray, List.getElem?_cons_zero, List.getElem?_cons_succ, Option.some.injEq] at ho
    subst ho
    simp only [Region.wanted, if_true, Nat.zero_add, Nat.reduceAdd] at hf hpre ⊢
    have HQ := Lib.hid (h.s3 hL hf)
    clear h hpre hp ok
    unfold frm15
    go_simp
    exact ⟨_, _, _, _, _, _, _, _, rfl, HQ.out⟩
  · simp only [List.getElem?_toArray, List.getElem?_cons_zero, List.getElem?_cons_succ, Option.some.injEq] at ho
    subst ho
    simp only [Region.wanted, if_true, Nat.zero_add, Nat.reduceAdd] at hf hpre ⊢
    have e := h.f3 (hpre ⟨3, .data⟩ (by simp) rfl)
    subst e
    unfold frm15
    go_simp
    refine (flattenF C.b C.B C.cB W (RN.keep hp ok.rb) ok.sb).mono ?_
    rintro e w' ⟨⟨v, rfl, hv⟩, hb⟩
    exact ⟨_, _, _, _, _, _, _, _, rfl, (h.grow hb).s4 hL hv hf⟩
  · simp only [List.getElem?_toArray, List.getElem?_cons_zero, List.getElem?_cons_succ, Option.some.injEq] at ho
    subst ho
    simp only [Region.wanted, if_true, Nat.zero_add, Nat.reduceAdd] at hf hpre ⊢
    have l1 : L.getD 4 false = true := hpre ⟨4, .data⟩ (by simp) rfl
    have hfl := (h.f4 l1).fld
    have HQ := Lib.hid (h.s5 hL l1 hf)
    clear h hpre hp ok
    unfold frm15
    go_simp
    exact ⟨_, _, _, _, _, _, _, _, rfl, HQ.out⟩
  · simp only [List.getElem?_toArray, List.getElem?_cons_zero, List.getElem?_cons_succ, Option.some.injEq] at ho
    subst ho
    simp only [Region.wanted, if_true, Nat.zero_add, Nat.reduceAdd] at hf hpre ⊢
    have l1 : L.getD 2 false = true := hpre ⟨2, .data⟩ (by simp) rfl
    have HQ := Lib.hid (h.s6 hL l1 hf)
    clear h hpre hp ok
    unfold frm15
    go_simp
    exact ⟨_, _, _, _, _, _, _, _, rfl, HQ.out⟩
  · simp only [List.getElem?_toArray, List.getElem?_cons_zero, List.getElem?_cons_succ, Option.some.injEq] at ho
    subst ho
    simp only [Region.wanted, if_true, Nat.zero_add, Nat.reduceAdd] at hf hpre ⊢
    have l1 : L.getD 5 false = true := hpre ⟨5, .data⟩ (by simp) rfl
    have HQ := Lib.hid (h.s7 hL l1 hf)
    clear h hpre hp ok
    unfold frm15
    go_simp
    exact ⟨_, _, _, _, _, _, _, _, rfl, HQ.out⟩
  · omega
end Go.Proofs.Ytjijfgkmjachnaa
