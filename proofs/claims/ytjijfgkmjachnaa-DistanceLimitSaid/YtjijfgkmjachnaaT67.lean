/- The region of DistanceLimit that makes its two trees: a call, two new variables, in any order. -/
import Derived.Test.YtjijfgkmjachnaaT66
import Derived.Test.YtjijfgkmjachnaaC12
namespace Go.Proofs.Ytjijfgkmjachnaa
set_option linter.unusedVariables false
set_option linter.unusedSimpArgs false
open Go.RowKit

noncomputable def ops9 : Array Oper := ((Try.f9.body.bind (firstReg 6)).getD #[])
def ds9 : List (Option Nat) := [some 35, some 36, some 37, some 8, some 9, none, none]
def deps9 : Nat → List Nat := fun j => [j]
def M9 (n : Nat) (a : Nd) (A : Option Addr) (cA : Nat) : Nat → (Nat → Value) → World → Prop
  | 0, f, _ => f 0 = .int .i64 (n : Nat)
  | 2, f, _ => f 2 = a.val A cA
  | _, _, _ => True
theorem M9_w {n : Nat} {a : Nd} {A : Option Addr} {cA : Nat} (j : Nat) {f : Nat → Value} {W : World} (W' : World) (h : M9 n a A cA j f W) : M9 n a A cA j f W' := by
  rcases j with _ | _ | _ | _ | _ | _ | _ | j <;> exact h
structure I9 (w0 : World) (t a : Nd) (A : Option Addr) (cA : Nat) (L : Array Bool) (f : Nat → Value) (W : World) : Prop where
  bel : Below w0.heap.size w0 W
  x3 : L.getD 3 false = true → ∃ p, f 3 = ptr p ∧ w0.heap.size ≤ p ∧ p < W.heap.size ∧ VarN W p
  x4 : L.getD 4 false = true → ∃ p, f 4 = ptr p ∧ w0.heap.size ≤ p ∧ p < W.heap.size ∧ VarN W p
  ne : L.getD 3 false = true → L.getD 4 false = true → f 3 ≠ f 4
  r1 : L.getD 1 false = true → ∃ (X : Option Addr) (cX : Nat), f 1 = t.val X cX ∧
    ∀ V : World, (∀ b, b < W.heap.size → (L.getD 3 false = true → f 3 ≠ ptr b) → (L.getD 4 false = true → f 4 ≠ ptr b) → V.heap[b]? = W.heap[b]?) → RN V t X cX
  s5 : L.getD 5 false = true → L.getD 1 false = true ∧ L.getD 3 false = true ∧ ∀ p X cX, f 3 = ptr p → f 1 = t.val X cX → At5 W p 0 t X cX
  s6 : L.getD 6 false = true → L.getD 4 false = true ∧ ∀ p, f 4 = ptr p → At5 W p 0 a A cA

theorem I9.grow {w0 : World} {t a : Nd} {A : Option Addr} {cA : Nat} {L : Array Bool} {f : Nat → Value} {W W' : World} (h : I9 w0 t a A cA L f W) (hb : Below W.heap.size W W') : I9 w0 t a A cA L f W' := by
  refine ⟨h.bel.trans (hb.mono h.bel.size), fun l => ?_, fun l => ?_, h.ne, fun l => ?_, fun l => ?_, fun l => ?_⟩
  · obtain ⟨p, e, h1, h2, h3⟩ := h.x3 l
    exact ⟨p, e, h1, Nat.lt_of_lt_of_le h2 hb.size, h3.below hb⟩
  · obtain ⟨p, e, h1, h2, h3⟩ := h.x4 l
    exact ⟨p, e, h1, Nat.lt_of_lt_of_le h2 hb.size, h3.below hb⟩
  · obtain ⟨X, cX, e, hV⟩ := h.r1 l
    refine ⟨X, cX, e, fun V hv => hV V fun b hlt h1 h2 => ?_⟩
    rw [hv b (Nat.lt_of_lt_of_le hlt hb.size) h1 h2, hb.block b hlt]
  · obtain ⟨l1, l2, h3⟩ := h.s5 l
    exact ⟨l1, l2, fun p X cX e1 e2 => (h3 p X cX e1 e2).below hb⟩
  · obtain ⟨l1, h3⟩ := h.s6 l
    exact ⟨l1, fun p e1 => (h3 p e1).below hb⟩
theorem I9.pure {w0 : World} {t a : Nd} {A : Option Addr} {cA : Nat} {L : Array Bool} {f : Nat → Value} {W : World} (h : I9 w0 t a A cA L f W) (hL : L.size = 7) {i : Nat} (hi : i < 7) (h1 : i ≠ 1) (h3 : i ≠ 3) (h4 : i ≠ 4) (h5 : i ≠ 5) (h6 : i ≠ 6) (v : Value) : I9 w0 t a A cA (L.setIfInBounds i true) (updF f i v) W := by
  have k : ∀ j, j ≠ i → (L.setIfInBounds i true).getD j false = L.getD j false := fun j hj => by rw [getDs (by omega)]; simp [hj]
  have k1 := k 1 (Ne.symm h1)
  have k3 := k 3 (Ne.symm h3)
  have k4 := k 4 (Ne.symm h4)
  have k5 := k 5 (Ne.symm h5)
  have k6 := k 6 (Ne.symm h6)
  have u1 := updF_other f v (Ne.symm h1)
  have u3 := updF_other f v (Ne.symm h3)
  have u4 := updF_other f v (Ne.symm h4)
  obtain ⟨h1, h2, h3, h4, h5, h6, h7⟩ := h
  refine ⟨h1, ?_, ?_, ?_, ?_, ?_, ?_⟩ <;> simp only [k1, k3, k4, k5, k6, u1, u3, u4] <;> assumption
theorem I9.u1 {w0 : World} {t a : Nd} {A : Option Addr} {cA : Nat} {L : Array Bool} {f : Nat → Value} {W W' : World} (h : I9 w0 t a A cA L f W) (hL : L.size = 7) (hf : L.getD 1 false = false) (hb : Below W.heap.size W W') {X : Option Addr} {cX : Nat}
    (hx : RNS W' (fun b => W.heap.size ≤ b) t X cX) : I9 w0 t a A cA (L.setIfInBounds 1 true) (updF f 1 (t.val X cX)) W' := by
  have k : ∀ j, j ≠ 1 → (L.setIfInBounds 1 true).getD j false = L.getD j false := fun j hj => by rw [getDs (by omega)]; simp [hj]
  have kk : (L.setIfInBounds 1 true).getD 1 false = true := by rw [getDs (by omega)]; simp
  have hg := h.grow hb
  refine ⟨hg.bel, ?_, ?_, ?_, ?_, ?_, ?_⟩ <;> simp only [k 3 (by omega), k 4 (by omega), k 5 (by omega), k 6 (by omega), updF_other f _ (show 3 ≠ 1 by omega), updF_other f _ (show 4 ≠ 1 by omega), updF_same]
  · exact hg.x3
  · exact hg.x4
  · exact hg.ne
  · intro _
    refine ⟨X, cX, rfl, fun V hv => (hx.keep fun b hs hlt => hv b hlt (fun l e => ?_) (fun l e => ?_)).rn⟩
    · obtain ⟨p, e2, h1, h2, _⟩ := h.x3 l
      have := ptr_inj (e2.symm.trans e)
      omega
    · obtain ⟨p, e2, h1, h2, _⟩ := h.x4 l
      have := ptr_inj (e2.symm.trans e)
      omega
  · intro l; exact absurd (h.s5 l).1 (notT hf)
  · exact hg.s6
theorem I9.u3 {w0 : World} {t a : Nd} {A : Option Addr} {cA : Nat} {L : Array Bool} {f : Nat → Value} {W : World} (h : I9 w0 t a A cA L f W) (hL : L.size = 7) (hf : L.getD 3 false = false) :
    I9 w0 t a A cA (L.setIfInBounds 3 true) (updF f 3 (ptr W.heap.size)) (W.alloc (.cells #[.int .i64 0, .string ⟨#[]⟩, .int .i64 0, .int .i64 0, .slice none 0 0] 24)) := by
  have k : ∀ j, j ≠ 3 → (L.setIfInBounds 3 true).getD j false = L.getD j false := fun j hj => by rw [getDs (by omega)]; simp [hj]
  have kk : (L.setIfInBounds 3 true).getD 3 false = true := by rw [getDs (by omega)]; simp
  have hb : Below W.heap.size W (W.alloc (.cells #[.int .i64 0, .string ⟨#[]⟩, .int .i64 0, .int .i64 0, .slice none 0 0] 24)) := (Below.refl _ _).alloc (Nat.le_refl _) _
  have hg := h.grow hb
  have hz : (W.alloc (.cells #[.int .i64 0, .string ⟨#[]⟩, .int .i64 0, .int .i64 0, .slice none 0 0] 24)).heap.size = W.heap.size + 1 := by simp
  refine ⟨hg.bel, ?_, ?_, ?_, ?_, ?_, ?_⟩ <;> simp only [kk, k 1 (by omega), k 4 (by omega), k 5 (by omega), k 6 (by omega), updF_other f _ (show 1 ≠ 3 by omega), updF_other f _ (show 4 ≠ 3 by omega), updF_same]
  · intro _; exact ⟨_, rfl, h.bel.size, by omega, VarN.new W⟩
  · exact hg.x4
  · intro _ l e
    obtain ⟨p, e2, h1, h2, _⟩ := h.x4 l
    have := ptr_inj (e.trans e2)
    omega
  · intro l
    obtain ⟨X, cX, e, hV⟩ := h.r1 l
    refine ⟨X, cX, e, fun V hv => hV V fun b hlt h1 h2 => ?_⟩
    rw [hv b (by omega) (fun _ e => by have := ptr_inj e; omega) h2, hb.block b hlt]
  · intro l; exact absurd (h.s5 l).2.1 (notT hf)
  · exact hg.s6
theorem I9.u4 {w0 : World} {t a : Nd} {A : Option Addr} {cA : Nat} {L : Array Bool} {f : Nat → Value} {W : World} (h : I9 w0 t a A cA L f W) (hL : L.size = 7) (hf : L.getD 4 false = false) :
    I9 w0 t a A cA (L.setIfInBounds 4 true) (updF f 4 (ptr W.heap.size)) (W.alloc (.cells #[.int .i64 0, .string ⟨#[]⟩, .int .i64 0, .int .i64 0, .slice none 0 0] 24)) := by
  have k : ∀ j, j ≠ 4 → (L.setIfInBounds 4 true).getD j false = L.getD j false := fun j hj => by rw [getDs (by omega)]; simp [hj]
  have kk : (L.setIfInBounds 4 true).getD 4 false = true := by rw [getDs (by omega)]; simp
  have hb : Below W.heap.size W (W.alloc (.cells #[.int .i64 0, .string ⟨#[]⟩, .int .i64 0, .int .i64 0, .slice none 0 0] 24)) := (Below.refl _ _).alloc (Nat.le_refl _) _
  have hg := h.grow hb
  have hz : (W.alloc (.cells #[.int .i64 0, .string ⟨#[]⟩, .int .i64 0, .int .i64 0, .slice none 0 0] 24)).heap.size = W.heap.size + 1 := by simp
  refine ⟨hg.bel, ?_, ?_, ?_, ?_, ?_, ?_⟩ <;> simp only [kk, k 1 (by omega), k 3 (by omega), k 5 (by omega), k 6 (by omega), updF_other f _ (show 1 ≠ 4 by omega), updF_other f _ (show 3 ≠ 4 by omega), updF_same]
  · exact hg.x3
  · intro _; exact ⟨_, rfl, h.bel.size, by omega, VarN.new W⟩
  · intro l _ e
    obtain ⟨p, e2, h1, h2, _⟩ := h.x3 l
    have := ptr_inj (e2.symm.trans e)
    omega
  · intro l
    obtain ⟨X, cX, e, hV⟩ := h.r1 l
    refine ⟨X, cX, e, fun V hv => hV V fun b hlt h1 h2 => ?_⟩
    rw [hv b (by omega) h1 (fun _ e => by have := ptr_inj e; omega), hb.block b hlt]
  · exact hg.s5
  · intro l; exact absurd (h.s6 l).1 (notT hf)
theorem I9.u5 {w0 : World} {t a : Nd} {A : Option Addr} {cA : Nat} {L : Array Bool} {f : Nat → Value} {W : World} (h : I9 w0 t a A cA L f W) (hL : L.size = 7) (hf : L.getD 5 false = false) (l1 : L.getD 1 false = true) (lp : L.getD 3 false = true) {p : Nat} (hp : f 3 = ptr p) {X : Option Addr} {cX : Nat} (he : f 1 = t.val X cX) (u : Value) :
    I9 w0 t a A cA (L.setIfInBounds 5 true) (updF f 5 u) (set5 W p 0 t X cX) := by
  have k : ∀ j, j ≠ 5 → (L.setIfInBounds 5 true).getD j false = L.getD j false := fun j hj => by rw [getDs (by omega)]; simp [hj]
  have kk : (L.setIfInBounds 5 true).getD 5 false = true := by rw [getDs (by omega)]; simp
  obtain ⟨p', e', hlo, hlt, hvar⟩ := h.x3 lp
  obtain rfl := ptr_inj (hp.symm.trans e')
  have hsz : (set5 W p 0 t X cX).heap.size = W.heap.size := set5_size _ _ _ _ _ _
  refine ⟨set5_below h.bel _ _ _ _ _ hlo, ?_, ?_, ?_, ?_, ?_, ?_⟩ <;> simp only [kk, k 1 (by omega), k 3 (by omega), k 4 (by omega), k 6 (by omega), updF_other f _ (show 1 ≠ 5 by omega), updF_other f _ (show 3 ≠ 5 by omega), updF_other f _ (show 4 ≠ 5 by omega), hsz]
  · intro l
    obtain ⟨q, e, h1, h2, h3⟩ := h.x3 l
    exact ⟨q, e, h1, h2, h3.set⟩
  · intro l
    obtain ⟨q, e, h1, h2, h3⟩ := h.x4 l
    exact ⟨q, e, h1, h2, h3.set⟩
  · exact h.ne
  · intro l
    obtain ⟨X', cX', e, hV⟩ := h.r1 l
    refine ⟨X', cX', e, fun V hv => hV V fun b hlt h1 h2 => ?_⟩
    rw [hv b hlt h1 h2, set5_block]
    rintro rfl
    exact h1 lp hp
  · intro _
    refine ⟨l1, lp, fun q Y cY e1 e2 => ?_⟩
    obtain rfl := ptr_inj (hp.symm.trans e1)
    have e3 := he.symm.trans e2
    unfold Nd.val at e3
    simp only [Value.agg.injEq, Array.mk.injEq, List.cons.injEq, Value.slice.injEq, and_true, true_and] at e3
    obtain ⟨rfl, rfl⟩ := e3
    exact set5_at (fun j hj => by have := hvar.1 j hj; simpa using this)
  · intro l
    obtain ⟨l2, h3⟩ := h.s6 l
    refine ⟨l2, fun q e1 => (h3 q e1).of_block (set5_block _ _ _ _ _ _ _ ?_)⟩
    rintro rfl
    exact h.ne lp l2 (hp.trans e1.symm)
theorem I9.u6 {w0 : World} {t a : Nd} {A : Option Addr} {cA : Nat} {L : Array Bool} {f : Nat → Value} {W : World} (h : I9 w0 t a A cA L f W) (hL : L.size = 7) (hf : L.getD 6 false = false) (lp : L.getD 4 false = true) {p : Nat} (hp : f 4 = ptr p) (u : Value) :
    I9 w0 t a A cA (L.setIfInBounds 6 true) (updF f 6 u) (set5 W p 0 a A cA) := by
  have k : ∀ j, j ≠ 6 → (L.setIfInBounds 6 true).getD j false = L.getD j false := fun j hj => by rw [getDs (by omega)]; simp [hj]
  have kk : (L.setIfInBounds 6 true).getD 6 false = true := by rw [getDs (by omega)]; simp
  obtain ⟨p', e', hlo, hlt, hvar⟩ := h.x4 lp
  obtain rfl := ptr_inj (hp.symm.trans e')
  have hsz : (set5 W p 0 a A cA).heap.size = W.heap.size := set5_size _ _ _ _ _ _
  refine ⟨set5_below h.bel _ _ _ _ _ hlo, ?_, ?_, ?_, ?_, ?_, ?_⟩ <;> simp only [kk, k 1 (by omega), k 3 (by omega), k 4 (by omega), k 5 (by omega), updF_other f _ (show 1 ≠ 6 by omega), updF_other f _ (show 3 ≠ 6 by omega), updF_other f _ (show 4 ≠ 6 by omega), hsz]
  · intro l
    obtain ⟨q, e, h1, h2, h3⟩ := h.x3 l
    exact ⟨q, e, h1, h2, h3.set⟩
  · intro l
    obtain ⟨q, e, h1, h2, h3⟩ := h.x4 l
    exact ⟨q, e, h1, h2, h3.set⟩
  · exact h.ne
  · intro l
    obtain ⟨X', cX', e, hV⟩ := h.r1 l
    refine ⟨X', cX', e, fun V hv => hV V fun b hlt h1 h2 => ?_⟩
    rw [hv b hlt h1 h2, set5_block]
    rintro rfl
    exact h2 lp hp
  · intro l
    obtain ⟨l1, l2, h3⟩ := h.s5 l
    refine ⟨l1, l2, fun q Y cY e1 e2 => (h3 q Y cY e1 e2).of_block (set5_block _ _ _ _ _ _ _ ?_)⟩
    rintro rfl
    exact h.ne l2 lp (e1.trans hp.symm)
  · intro _
    refine ⟨lp, fun q e1 => ?_⟩
    obtain rfl := ptr_inj (hp.symm.trans e1)
    exact set5_at (fun j hj => by have := hvar.1 j hj; simpa using this)

set_option maxRecDepth 100000 in
set_option maxHeartbeats 1000000 in
theorem region9 (n : Nat) (h1 : 1 ≤ n) (hn : n ≤ 1000) (a : Nd) (A : Option Addr) (cA : Nat) (w0 : World) (pa : Nat) (hpa : At5 w0 pa 0 a A cA)
    (b : Array Value) (hb : b.size = 132) (b3 : b.getD 3 undef = ptr pa) (b7 : b.getD 7 undef = .int .i64 (n : Nat)) (Q : Exit → Act → World → Prop) (w : World) (hw : Below w0.heap.size w0 w)
    (hend : ∀ (L : Array Bool) (f : Nat → Value) (W : World), (∀ j, j < 7 → L.getD j false = true) → I9 w0 (wideN n) a A cA L f W → Q .normal ⟨setAll f 0 ds9 b, []⟩ W) :
    (Code.region 6 ops9 true).wp Try.prog Q ⟨b, []⟩ w := by
  refine wp_region_M (by kernel_rfl) (by kernel_rfl) ds9 (by kernel_rfl) (by rw [hb]; decide) (by kernel_rfl) (M9 n a A cA) (I9 w0 (wideN n) a A cA) deps9 (by kernel_rfl) ?_ ?_ ?_ (fun L f W hL hall hI hM => hend L f W hall hI)
  · intro j f f' W h hm
    rcases j with _ | _ | _ | _ | _ | _ | _ | j
    all_goals simp only [deps9, List.mem_cons, List.not_mem_nil, or_false, forall_eq, M9, Nat.zero_add, Nat.reduceAdd] at h hm ⊢
    all_goals first | trivial | (rw [← h]; exact hm)
  · refine ⟨hw.drew, ?_, ?_, ?_, ?_, ?_, ?_⟩ <;> intro e <;> exact absurd e (by simp [Array.getD])
  intro i o L f a' W ho hs hI hM hf hpre hbs hsl hdc K hK
  have hL : L.size = 7 := hs
  have hi : i < 7 := (Array.getElem?_eq_some_iff.1 ho).1
  conv at ho => lhs; arg 1; whnf
  have s3 := (hbs 3 (by decide)).trans b3
  have s7 := (hbs 7 (by decide)).trans b7
  have HK := Lib.hid hK
  clear hK hbs b3 b7
  obtain ⟨x0, x1, x2, x3, x4⟩ := hpa.below hI.bel
  rcases i with _ | _ | _ | _ | _ | _ | _ | i
  -- operation 0
  · simp only [List.getElem?_toArray, List.getElem?_cons_zero, List.getElem?_cons_succ, Option.some.injEq] at ho
    subst ho
    simp only [Nat.zero_add, Nat.reduceAdd] at hf hpre ⊢
    have s7' : a'.tmps[7]?.getD undef = .int .i64 (n : Nat) := by rw [← Array.getD_eq_getD_getElem?]; exact s7
    have HQ := Lib.hid (HK.out (.int .i64 (n : Nat)) W (hI.pure hL (by omega) (by omega) (by omega) (by omega) (by omega) (by omega) _) (fun _ _ _ h => h) (by simp [M9, updF_same]))
    clear hI hM hpre hsl HK
    go_simp
    exact HQ.out
  -- operation 1
  · simp only [List.getElem?_toArray, List.getElem?_cons_zero, List.getElem?_cons_succ, Option.some.injEq] at ho
    subst ho
    simp only [Nat.zero_add, Nat.reduceAdd] at hf hpre ⊢
    have l0 := (hpre ⟨0, .data⟩ (by simp) rfl)
    have q0 := (hsl 0 35 l0 rfl).trans (hM 0 l0)
    have q0' : a'.tmps[35]?.getD undef = .int .i64 (n : Nat) := by rw [← Array.getD_eq_getD_getElem?]; exact q0
    have HC := Lib.hid (wide n h1 hn W)
    go_simp
    refine HC.out.mono ?_
    rintro e w' ⟨⟨X, cX, rfl, hx⟩, hb⟩
    exact HK.out _ _ (hI.u1 hL hf hb hx) (fun j _ _ h => M9_w j _ h) trivial
  -- operation 2
  · simp only [List.getElem?_toArray, List.getElem?_cons_zero, List.getElem?_cons_succ, Option.some.injEq] at ho
    subst ho
    simp only [Nat.zero_add, Nat.reduceAdd] at hf hpre ⊢
    have s3' : a'.tmps[3]?.getD undef = ptr pa := by rw [← Array.getD_eq_getD_getElem?]; exact s3
    unfold ptr at s3 s3'
    have HQ := Lib.hid (HK.out (a.val A cA) W (hI.pure hL (by omega) (by omega) (by omega) (by omega) (by omega) (by omega) _) (fun _ _ _ h => h) (by simp [M9, updF_same]))
    clear hI hM hpre hsl HK
    unfold Nd.val at HQ
    go_simp
    exact HQ.out
  -- operation 3
  · simp only [List.getElem?_toArray, List.getElem?_cons_zero, List.getElem?_cons_succ, Option.some.injEq] at ho
    subst ho
    simp only [Nat.zero_add, Nat.reduceAdd] at hf hpre ⊢
    have HQ := Lib.hid (HK.out (ptr W.heap.size) _ (hI.u3 hL hf) (fun j _ _ h => M9_w j _ h) trivial)
    unfold ptr at HQ
    clear hI hM hpre hsl HK
    go_simp
    exact HQ.out
  -- operation 4
  · simp only [List.getElem?_toArray, List.getElem?_cons_zero, List.getElem?_cons_succ, Option.some.injEq] at ho
    subst ho
    simp only [Nat.zero_add, Nat.reduceAdd] at hf hpre ⊢
    have HQ := Lib.hid (HK.out (ptr W.heap.size) _ (hI.u4 hL hf) (fun j _ _ h => M9_w j _ h) trivial)
    unfold ptr at HQ
    clear hI hM hpre hsl HK
    go_simp
    exact HQ.out
  -- operation 5
  · simp only [List.getElem?_toArray, List.getElem?_cons_zero, List.getElem?_cons_succ, Option.some.injEq] at ho
    subst ho
    simp only [Nat.zero_add, Nat.reduceAdd] at hf hpre ⊢
    have lp := (hpre ⟨3, .data⟩ (by simp) rfl)
    have lv := (hpre ⟨1, .data⟩ (by simp) rfl)
    obtain ⟨X, cX, ev, _⟩ := hI.r1 lv
    obtain ⟨p, ep, hlo, hlt, hvar⟩ := hI.x3 lp
    have qp := (hsl 3 8 lp rfl).trans ep
    have qv := (hsl 1 36 lv rfl).trans ev
    have qp' : a'.tmps[8]?.getD undef = ptr p := by rw [← Array.getD_eq_getD_getElem?]; exact qp
    have qv' : a'.tmps[36]?.getD undef = (wideN n).val X cX := by rw [← Array.getD_eq_getD_getElem?]; exact qv
    obtain ⟨⟨u0, z0⟩, ⟨u1, z1⟩, ⟨u2, z2⟩, ⟨u3, z3⟩, ⟨u4, z4⟩⟩ := And.intro (hvar.1 0 (by omega)) (And.intro (hvar.1 1 (by omega)) (And.intro (hvar.1 2 (by omega)) (And.intro (hvar.1 3 (by omega)) (hvar.1 4 (by omega)))))
    have hfz := hvar.2
    have HQ := Lib.hid (HK.out undef _ (hI.u5 hL hf lv lp ep ev undef) (fun j _ _ h => M9_w j _ h) trivial)
    obtain ⟨T, hT⟩ : ∃ T, wideN n = T := ⟨_, rfl⟩
    rw [hT] at qv qv' HQ
    clear hT
    clear hI hM hpre hsl HK hvar
    unfold ptr at qp qp'
    unfold set5 at HQ
    simp only [Nat.zero_add] at HQ
    unfold Nd.val at qv qv'
    go_simp
    exact HQ.out
  -- operation 6
  · simp only [List.getElem?_toArray, List.getElem?_cons_zero, List.getElem?_cons_succ, Option.some.injEq] at ho
    subst ho
    simp only [Nat.zero_add, Nat.reduceAdd] at hf hpre ⊢
    have lp := (hpre ⟨4, .data⟩ (by simp) rfl)
    have lv := (hpre ⟨2, .data⟩ (by simp) rfl)
    have ev := hM 2 lv
    obtain ⟨p, ep, hlo, hlt, hvar⟩ := hI.x4 lp
    have qp := (hsl 4 9 lp rfl).trans ep
    have qv := (hsl 2 37 lv rfl).trans ev
    have qp' : a'.tmps[9]?.getD undef = ptr p := by rw [← Array.getD_eq_getD_getElem?]; exact qp
    have qv' : a'.tmps[37]?.getD undef = a.val A cA := by rw [← Array.getD_eq_getD_getElem?]; exact qv
    obtain ⟨⟨u0, z0⟩, ⟨u1, z1⟩, ⟨u2, z2⟩, ⟨u3, z3⟩, ⟨u4, z4⟩⟩ := And.intro (hvar.1 0 (by omega)) (And.intro (hvar.1 1 (by omega)) (And.intro (hvar.1 2 (by omega)) (And.intro (hvar.1 3 (by omega)) (hvar.1 4 (by omega)))))
    have hfz := hvar.2
    have HQ := Lib.hid (HK.out undef _ (hI.u6 hL hf lp ep undef) (fun j _ _ h => M9_w j _ h) trivial)
    clear hI hM hpre hsl HK hvar
    unfold ptr at qp qp'
    unfold set5 at HQ
    simp only [Nat.zero_add] at HQ
    unfold Nd.val at qv qv'
    go_simp
    exact HQ.out
  · omega
end Go.Proofs.Ytjijfgkmjachnaa
