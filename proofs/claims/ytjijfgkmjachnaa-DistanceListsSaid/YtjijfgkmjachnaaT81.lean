/- A region that draws its order, by one invariant over what has been done. -/
import Derived.Orders
import Derived.WalkKit
namespace Go.Proofs.Ytjijfgkmjachnaa
set_option linter.unusedVariables false
set_option linter.unusedSimpArgs false

/-- Every edge that binds points back. -/
def backB (ops : Array Oper) : Bool := (List.range ops.size).all fun i => ((ops[i]?).map fun o => o.after.all fun e => !Region.binds .any e || decide (e.on < i)).getD true

theorem ready_of {ops : Array Oper} {L : Array Bool} {i : Nat} (h : i ∈ Region.ready .any ops L) : i < ops.size ∧ L.getD i true = false ∧ ∃ o, ops[i]? = some o ∧ ∀ e ∈ o.after, Region.binds .any e = true → L.getD e.on false = true := by
  unfold Region.ready at h
  rw [List.mem_filter, List.mem_range] at h
  obtain ⟨h1, h2⟩ := h
  obtain ⟨h2, h3⟩ := Bool.and_eq_true_iff.1 h2
  refine ⟨h1, by simpa using h2, ?_⟩
  cases ho : ops[i]? with
  | none => rw [ho] at h3; simp at h3
  | some o =>
    rw [ho] at h3
    refine ⟨o, rfl, fun e he hb => ?_⟩
    simp only [Option.map_some, Option.getD_some] at h3
    have := Array.all_eq_true_iff_forall_mem.1 h3 e he
    rw [hb] at this
    simpa using this
theorem all_done {ops : Array Oper} (hback : backB ops = true) {L : Array Bool} (hs : L.size = ops.size) (h : Region.ready .any ops L = []) : ∀ i, i < ops.size → L.getD i false = true := by
  intro i
  induction i using Nat.strongRecOn with
  | _ i ih =>
    intro hi
    have hb := List.all_eq_true.1 hback i (List.mem_range.2 hi)
    have hge : L.getD i false = L[i]'(by omega) := by simp [Array.getD, show i < L.size by omega]
    have hgt : L.getD i true = L[i]'(by omega) := by simp [Array.getD, show i < L.size by omega]
    rw [hge]
    cases hl : L[i]'(by omega) with
    | true => rfl
    | false =>
      exfalso
      have hmem : i ∈ Region.ready .any ops L := by
        unfold Region.ready
        rw [List.mem_filter, List.mem_range]
        refine ⟨hi, ?_⟩
        rw [hgt, hl]
        simp only [Bool.not_false, Bool.true_and]
        rw [Array.getElem?_eq_getElem hi] at hb ⊢
        simp only [Option.map_some, Option.getD_some] at hb ⊢
        rw [Array.all_eq_true_iff_forall_mem] at hb ⊢
        intro e he
        have h2 := hb e he
        cases hbe : Region.binds .any e with
        | false => simp
        | true =>
          rw [hbe] at h2
          have hlt : e.on < i := by simpa using h2
          simp [ih e.on hlt (by omega)]
      rw [h] at hmem
      cases hmem

def falses (L : Array Bool) : Nat := (L.toList.filter (! ·)).length
theorem falses_set {L : Array Bool} {i : Nat} (hi : i < L.size) (h : L[i] = false) : falses (L.setIfInBounds i true) + 1 = falses L := by
  have key : ∀ (l : List Bool) (i : Nat) (hi : i < l.length), l[i] = false → ((l.set i true).filter (! ·)).length + 1 = (l.filter (! ·)).length := by
    intro l
    induction l with
    | nil => intro i hi; simp at hi
    | cons b l ih =>
      intro i hi h
      cases i with
      | zero =>
        simp only [List.getElem_cons_zero] at h
        subst h
        simp
      | succ i =>
        simp only [List.getElem_cons_succ] at h
        have := ih i (by simpa using hi) h
        simp only [List.set_cons_succ, List.filter_cons]
        split <;> simp_all
  unfold falses
  rw [Array.toList_setIfInBounds]
  exact key L.toList i (by simpa using hi) (by simpa using h)

theorem wpAny_inv {P : Program} {ops : Array Oper} {Q : Exit → Act → World → Prop} (hback : backB ops = true) (Inv : Array Bool → Act → World → Prop)
    (hstep : ∀ (i : Nat) (o : Oper) (L : Array Bool) (a : Act) (w : World), ops[i]? = some o → L.size = ops.size → Inv L a w → L.getD i false = false → (∀ e ∈ o.after, Region.binds .any e = true → L.getD e.on false = true) →
      if Region.wanted o (yielded ops a.tmps) then o.wp P a w (Inv (L.setIfInBounds i true)) Q else Inv (L.setIfInBounds i true) (a.put o.dst undef) w)
    (hend : ∀ (L : Array Bool) (a : Act) (w : World), L.size = ops.size → (∀ i, i < ops.size → L.getD i false = true) → Inv L a w → Q .normal a w) :
    ∀ (fuel : Nat) (L : Array Bool) (a : Act) (w : World), L.size = ops.size → falses L ≤ fuel → Inv L a w → wpAny P .any ops Q fuel L a w := by
  intro fuel
  induction fuel with
  | zero =>
    intro L a w hs hf hi
    have hr : Region.ready .any ops L = [] := by
      apply List.eq_nil_iff_forall_not_mem.2
      intro i hm
      obtain ⟨h1, h2, _⟩ := ready_of hm
      have : L[i]'(by omega) = false := by simpa [Array.getD, show i < L.size by omega] using h2
      have := falses_set (L := L) (i := i) (by omega) this
      omega
    exact ⟨hr, hend L a w hs (all_done hback hs hr) hi⟩
  | succ n ih =>
    intro L a w hs hf hi
    refine ⟨fun hr => hend L a w hs (all_done hback hs hr) hi, fun i hm => ?_⟩
    obtain ⟨h1, h2, o, ho, h3⟩ := ready_of hm
    have hl : L[i]'(by omega) = false := by simpa [Array.getD, show i < L.size by omega] using h2
    have hst := hstep i o L a w ho hs hi (by simp [Array.getD, show i < L.size by omega, hl]) h3
    have hf2 := falses_set (L := L) (i := i) (by omega) hl
    unfold wpOp
    simp only [ho]
    by_cases hw : Region.wanted o (yielded ops a.tmps) = true
    · rw [if_pos hw] at hst ⊢
      exact .inl (Oper.wp_mono (fun a' w' h => ih _ a' w' (by simpa using hs) (by omega) h) hst)
    · rw [if_neg hw] at hst ⊢
      exact ih _ _ _ (by simpa using hs) (by omega) hst

theorem wp_region_inv {P : Program} {id : Nat} {ops : Array Oper} {Q : Exit → Act → World → Prop} {a : Act} {w : World} (hm : P.follows .mixedOrders = true) (hback : backB ops = true) (Inv : Array Bool → Act → World → Prop)
    (h0 : Inv (Array.replicate ops.size false) a w.drew)
    (hstep : ∀ (i : Nat) (o : Oper) (L : Array Bool) (a : Act) (w : World), ops[i]? = some o → L.size = ops.size → Inv L a w → L.getD i false = false → (∀ e ∈ o.after, Region.binds .any e = true → L.getD e.on false = true) →
      if Region.wanted o (yielded ops a.tmps) then o.wp P a w (Inv (L.setIfInBounds i true)) Q else Inv (L.setIfInBounds i true) (a.put o.dst undef) w)
    (hend : ∀ (L : Array Bool) (a : Act) (w : World), L.size = ops.size → (∀ i, i < ops.size → L.getD i false = true) → Inv L a w → Q .normal a w) : (Code.region id ops true).wp P Q a w := by
  refine wp_region_any hm (wpAny_inv hback Inv hstep hend ops.size _ a _ (by simp) ?_ h0)
  unfold falses
  exact Nat.le_trans (List.length_filter_le _ _) (by simp)
end Go.Proofs.Ytjijfgkmjachnaa
