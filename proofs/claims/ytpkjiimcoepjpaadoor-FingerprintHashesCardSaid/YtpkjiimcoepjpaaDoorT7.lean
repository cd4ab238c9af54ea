/- A rule for regions whose operations may come in many orders. -/
import Derived.Orders
import Derived.WalkKit
import Derived.Laws.EntriesVeiled
import Derived.Deep.AppendLies
import Derived.RegionTactic
import Derived.ChangeAlike
import Derived.BigRegion
import Derived.Deep.RegionHeld3
import Derived.Deep.DrawnRows
namespace Go.Proofs.YtpkjiimcoepjpaaDoor
set_option linter.unusedVariables false
set_option linter.unusedSimpArgs false
open Go.RowKit

/-- Every edge that binds points back. -/
def backB (ops : Array Oper) : Bool := (List.range ops.size).all fun i => ((ops[i]?).map fun o => o.after.all fun e => !Region.binds .any e || decide (e.on < i)).getD true

theorem ready_of {ops : Array Oper} {L : Array Bool} {i : Nat} (h : i ∈ Region.ready .any ops L) : i < ops.size ∧ L.getD i true = false ∧ ∃ o, ops[i]? = some o ∧ ∀ e ∈ o.after, Region.binds .any e = true → L.getD e.on false = true := by
  unfold Region.ready at h
  rw [List.mem_filter, List.mem_range] at h
  obtain ⟨h1, h2⟩ := h
  obtain ⟨h2, h3⟩ := Bool.and_eq_true_iff.1 h2
  refine ⟨h1, by simpa using h2, ?_⟩
  cases ho : ops[i]? with
  | none => rw [ho] at h3; simp at h3
  | some o =>
    rw [ho] at h3
    refine ⟨o, rfl, fun e he hb => ?_⟩
    simp only [Option.map_some, Option.getD_some] at h3
    have := Array.all_eq_true_iff_forall_mem.1 h3 e he
    rw [hb] at this
    simpa using this
theorem all_done {ops : Array Oper} (hback : backB ops = true) {L : Array Bool} (hs : L.size = ops.size) (h : Region.ready .any ops L = []) : ∀ i, i < ops.size → L.getD i false = true := by
  intro i
  induction i using Nat.strongRecOn with
  | _ i ih =>
    intro hi
    have hb := List.all_eq_true.1 hback i (List.mem_range.2 hi)
    have hge : L.getD i false = L[i]'(by omega) := by simp [Array.getD, show i < L.size by omega]
    have hgt : L.getD i true = L[i]'(by omega) := by simp [Array.getD, show i < L.size by omega]
    rw [hge]
    cases hl : L[i]'(by omega) with
    | true => rfl
    | false =>
      exfalso
      have hmem : i ∈ Region.ready .any ops L := by
        unfold Region.ready
        rw [List.mem_filter, List.mem_range]
        refine ⟨hi, ?_⟩
        rw [hgt, hl]
        simp only [Bool.not_false, Bool.true_and]
        rw [Array.getElem?_eq_getElem hi] at hb ⊢
        simp only [Option.map_some, Option.getD_some] at hb ⊢
        rw [Array.all_eq_true_iff_forall_mem] at hb ⊢
        intro e he
        have h2 := hb e he
        cases hbe : Region.binds .any e with
        | false => simp
        | true =>
          rw [hbe] at h2
          have hlt : e.on < i := by simpa using h2
          simp [ih e.on hlt (by omega)]
      rw [h] at hmem
      cases hmem

def falses (L : Array Bool) : Nat := (L.toList.filter (! ·)).length
theorem falses_set {L : Array Bool} {i : Nat} (hi : i < L.size) (h : L[i] = false) : falses (L.setIfInBounds i true) + 1 = falses L := by
  have key : ∀ (l : List Bool) (i : Nat) (hi : i < l.length), l[i] = false → ((l.set i true).filter (! ·)).length + 1 = (l.filter (! ·)).length := by
    intro l
    induction l with
    | nil => intro i hi; simp at hi
    | cons b l ih =>
      intro i hi h
      cases i with
      | zero =>
        simp only [List.getElem_cons_zero] at h
        subst h
        simp
      | succ i =>
        simp only [List.getElem_cons_succ] at h
        have := ih i (by simpa using hi) h
        simp only [List.set_cons_succ, List.filter_cons]
        split <;> simp_all
  unfold falses
  rw [Array.toList_setIfInBounds]
  exact key L.toList i (by simpa using hi) (by simpa using h)

theorem wpAny_inv {P : Program} {ops : Array Oper} {Q : Exit → Act → World → Prop} (hback : backB ops = true) (Inv : Array Bool → Act → World → Prop)
    (hstep : ∀ (i : Nat) (o : Oper) (L : Array Bool) (a : Act) (w : World), ops[i]? = some o → L.size = ops.size → Inv L a w → L.getD i false = false → (∀ e ∈ o.after, Region.binds .any e = true → L.getD e.on false = true) →
      if Region.wanted o (yielded ops a.tmps) then o.wp P a w (Inv (L.setIfInBounds i true)) Q else Inv (L.setIfInBounds i true) (a.put o.dst undef) w)
    (hend : ∀ (L : Array Bool) (a : Act) (w : World), L.size = ops.size → (∀ i, i < ops.size → L.getD i false = true) → Inv L a w → Q .normal a w) :
    ∀ (fuel : Nat) (L : Array Bool) (a : Act) (w : World), L.size = ops.size → falses L ≤ fuel → Inv L a w → wpAny P .any ops Q fuel L a w := by
  intro fuel
  induction fuel with
  | zero =>
    intro L a w hs hf hi
    have hr : Region.ready .any ops L = [] := by
      apply List.eq_nil_iff_forall_not_mem.2
      intro i hm
      obtain ⟨h1, h2, _⟩ := ready_of hm
      have : L[i]'(by omega) = false := by simpa [Array.getD, show i < L.size by omega] using h2
      have := falses_set (L := L) (i := i) (by omega) this
      omega
    exact ⟨hr, hend L a w hs (all_done hback hs hr) hi⟩
  | succ n ih =>
    intro L a w hs hf hi
    refine ⟨fun hr => hend L a w hs (all_done hback hs hr) hi, fun i hm => ?_⟩
    obtain ⟨h1, h2, o, ho, h3⟩ := ready_of hm
    have hl : L[i]'(by omega) = false := by simpa [Array.getD, show i < L.size by omega] using h2
    have hst := hstep i o L a w ho hs hi (by simp [Array.getD, show i < L.size by omega, hl]) h3
    have hf2 := falses_set (L := L) (i := i) (by omega) hl
    unfold wpOp
    simp only [ho]
    by_cases hw : Region.wanted o (yielded ops a.tmps) = true
    · rw [if_pos hw] at hst ⊢
      exact .inl (Oper.wp_mono (fun a' w' h => ih _ a' w' (by simpa using hs) (by omega) h) hst)
    · rw [if_neg hw] at hst ⊢
      exact ih _ _ _ (by simpa using hs) (by omega) hst

theorem wp_region_inv {P : Program} {id : Nat} {ops : Array Oper} {Q : Exit → Act → World → Prop} {a : Act} {w : World} (hm : P.follows .mixedOrders = true) (hback : backB ops = true) (Inv : Array Bool → Act → World → Prop)
    (h0 : Inv (Array.replicate ops.size false) a w.drew)
    (hstep : ∀ (i : Nat) (o : Oper) (L : Array Bool) (a : Act) (w : World), ops[i]? = some o → L.size = ops.size → Inv L a w → L.getD i false = false → (∀ e ∈ o.after, Region.binds .any e = true → L.getD e.on false = true) →
      if Region.wanted o (yielded ops a.tmps) then o.wp P a w (Inv (L.setIfInBounds i true)) Q else Inv (L.setIfInBounds i true) (a.put o.dst undef) w)
    (hend : ∀ (L : Array Bool) (a : Act) (w : World), L.size = ops.size → (∀ i, i < ops.size → L.getD i false = true) → Inv L a w → Q .normal a w) : (Code.region id ops true).wp P Q a w := by
  refine wp_region_any hm (wpAny_inv hback Inv hstep hend ops.size _ a _ (by simp) ?_ h0)
  unfold falses
  exact Nat.le_trans (List.length_filter_le _ _) (by simp)
def dstOf (ops : Array Oper) (i : Nat) : Option Nat := (ops[i]?).bind (·.dst)
def updF (f : Nat → Value) (i : Nat) (v : Value) : Nat → Value := fun j => if j = i then v else f j
theorem updF_same (f : Nat → Value) (i : Nat) (v : Value) : updF f i v i = v := by simp [updF]
theorem updF_other (f : Nat → Value) {i j : Nat} (v : Value) (h : j ≠ i) : updF f i v j = f j := by simp [updF, h]
/-- The slots behind the region, all done. -/
def setAll (f : Nat → Value) : Nat → List (Option Nat) → Array Value → Array Value
  | _, [], b => b
  | i, none :: r, b => setAll f (i + 1) r b
  | i, some d :: r, b => setAll f (i + 1) r (b.setIfInBounds d (f i))

theorem getD_setv (b : Array Value) (d s : Nat) (v : Value) : (b.setIfInBounds d v).getD s undef = if d = s ∧ d < b.size then v else b.getD s undef := by
  simp only [Array.getD_eq_getD_getElem?, Array.getElem?_setIfInBounds]
  by_cases h : d = s
  · subst h
    by_cases h2 : d < b.size
    · simp [h2]
    · simp [h2]
  · simp [h]
theorem arr_ext {a b : Array Value} (hs : a.size = b.size) (h : ∀ s, a.getD s undef = b.getD s undef) : a = b := by
  apply Array.ext hs
  intro i h1 h2
  have := h i
  simpa [Array.getD, h1, h2] using this
theorem setAll_size (f : Nat → Value) : ∀ (r : List (Option Nat)) (i : Nat) (b : Array Value), (setAll f i r b).size = b.size
  | [], _, _ => rfl
  | none :: r, i, b => setAll_size f r (i + 1) b
  | some d :: r, i, b => by unfold setAll; rw [setAll_size f r (i + 1)]; simp
theorem setAll_base (f : Nat → Value) (s : Nat) : ∀ (r : List (Option Nat)) (i : Nat) (b : Array Value), (∀ j : Nat, r[j]? ≠ some (some s)) → (setAll f i r b).getD s undef = b.getD s undef
  | [], _, _, _ => rfl
  | none :: r, i, b, h => setAll_base f s r (i + 1) b (fun j => by have := h (j + 1); simpa using this)
  | some d :: r, i, b, h => by
    unfold setAll
    rw [setAll_base f s r (i + 1) _ (fun j => by have := h (j + 1); simpa using this), getD_setv, if_neg]
    rintro ⟨rfl, _⟩
    exact h 0 (by simp)
theorem setAll_get (f : Nat → Value) (s : Nat) : ∀ (r : List (Option Nat)) (i : Nat) (b : Array Value) (j : Nat), r[j]? = some (some s) → (∀ k : Nat, r[k]? = some (some s) → k = j) → s < b.size → (setAll f i r b).getD s undef = f (i + j)
  | [], _, _, _, h, _, _ => by simp at h
  | none :: r, i, b, j, h, hu, hs => by
    cases j with
    | zero => simp at h
    | succ j =>
      have := setAll_get f s r (i + 1) b j (by simpa using h) (fun k hk => by have := hu (k + 1) (by simpa using hk); omega) hs
      unfold setAll
      rw [this]
      congr 1
      omega
  | some d :: r, i, b, j, h, hu, hs => by
    cases j with
    | zero =>
      simp only [List.getElem?_cons_zero, Option.some.injEq] at h
      subst h
      unfold setAll
      rw [setAll_base f d r (i + 1) _ (fun j hj => by have := hu (j + 1) (by simpa using hj); omega), getD_setv, if_pos ⟨rfl, hs⟩]
      rfl
    | succ j =>
      have := setAll_get f s r (i + 1) (b.setIfInBounds d (f i)) j (by simpa using h) (fun k hk => by have := hu (k + 1) (by simpa using hk); omega) (by simpa using hs)
      unfold setAll
      rw [this]
      congr 1
      omega

/-- Distinct slots, all inside. -/
def slotsOk (ds : List (Option Nat)) (n : Nat) : Bool := (List.range ds.length).all fun i => (List.range ds.length).all fun j => match ds[i]?, ds[j]? with
  | some (some a), some (some b) => (a != b || i == j) && decide (a < n)
  | _, _ => true
theorem slotsOk_get {ds : List (Option Nat)} {n : Nat} (h : slotsOk ds n = true) {i j a : Nat} (hi : ds[i]? = some (some a)) (hj : ds[j]? = some (some a)) : i = j ∧ a < n := by
  have h1 := List.all_eq_true.1 h i (List.mem_range.2 (List.getElem?_eq_some_iff.1 hi).1)
  have h2 := List.all_eq_true.1 h1 j (List.mem_range.2 (List.getElem?_eq_some_iff.1 hj).1)
  rw [hi, hj] at h2
  simpa using h2
/-- What an operation's meaning leans on lies behind its edges. -/
def depsOk (ops : Array Oper) (deps : Nat → List Nat) : Bool := (List.range ops.size).all fun j => (deps j).all fun k => k == j || ((ops[j]?).map fun o => o.after.any fun e => Region.binds .any e && (k == e.on || (deps e.on).contains k)).getD false

structure MInv (ops : Array Oper) (b : Array Value) (ds : List Deferred) (M : Nat → (Nat → Value) → World → Prop) (I : Array Bool → (Nat → Value) → World → Prop) (L : Array Bool) (f : Nat → Value) (a : Act) (W : World) : Prop where
  sz : a.tmps.size = b.size
  df : a.defers = ds
  bs : ∀ s, (∀ j, L.getD j false = true → dstOf ops j ≠ some s) → a.tmps.getD s undef = b.getD s undef
  sl : ∀ j d, L.getD j false = true → dstOf ops j = some d → a.tmps.getD d undef = f j
  cl : ∀ j o, ops[j]? = some o → L.getD j false = true → ∀ e ∈ o.after, Region.binds .any e = true → L.getD e.on false = true
  me : ∀ j, L.getD j false = true → M j f W
  iv : I L f W

theorem getDs {L : Array Bool} {i : Nat} (hi : i < L.size) (j : Nat) : (L.setIfInBounds i true).getD j false = (decide (j = i) || L.getD j false) := by
  simp only [Array.getD_eq_getD_getElem?, Array.getElem?_setIfInBounds]
  by_cases h : i = j
  · subst h; simp [hi]
  · rw [if_neg h]; simp [show ¬ j = i from fun e => h e.symm]

theorem MInv.deps {ops : Array Oper} {b : Array Value} {ds : List Deferred} {M : Nat → (Nat → Value) → World → Prop} {I : Array Bool → (Nat → Value) → World → Prop} {L : Array Bool} {f : Nat → Value} {a : Act} {W : World}
    (h : MInv ops b ds M I L f a W) (hL : L.size = ops.size) (hback : backB ops = true) {deps : Nat → List Nat} (hd : depsOk ops deps = true) : ∀ j, L.getD j false = true → ∀ k ∈ deps j, L.getD k false = true := by
  intro j
  induction j using Nat.strongRecOn with
  | _ j ih =>
    intro hj k hk
    have hlt : j < ops.size := by
      rw [← hL]
      by_cases hlt : j < L.size
      · exact hlt
      · simp [Array.getD, hlt] at hj
    have h1 := List.all_eq_true.1 hd j (List.mem_range.2 hlt)
    have h2 := List.all_eq_true.1 h1 k hk
    rcases Bool.or_eq_true_iff.1 h2 with h2 | h2
    · have : k = j := by simpa using h2
      rw [this]; exact hj
    · have hb := List.all_eq_true.1 hback j (List.mem_range.2 hlt)
      rw [Array.getElem?_eq_getElem hlt] at h2 hb
      simp only [Option.map_some, Option.getD_some] at h2 hb
      obtain ⟨e, he, h3⟩ := Array.any_eq_true'.1 h2
      obtain ⟨h3, h4⟩ := Bool.and_eq_true_iff.1 h3
      have hon := h.cl j _ (Array.getElem?_eq_getElem hlt) hj e he h3
      rw [Array.all_eq_true_iff_forall_mem] at hb
      have hbe := hb e he
      rw [h3] at hbe
      have hlt2 : e.on < j := by simpa using hbe
      rcases Bool.or_eq_true_iff.1 h4 with h4 | h4
      · have : k = e.on := by simpa using h4
        rw [this]; exact hon
      · exact ih e.on hlt2 hon k (by simpa using h4)

/-- The rule. 'M j f W': what operation j's result f j means, once it is done; 'I': what is true besides. -/
theorem wp_region_M {P : Program} {id : Nat} {ops : Array Oper} {Q : Exit → Act → World → Prop} {b : Array Value} {df : List Deferred} {w : World} (hm : P.follows .mixedOrders = true) (hback : backB ops = true)
    (ds : List (Option Nat)) (hds : ops.toList.map (·.dst) = ds) (hok : slotsOk ds b.size = true) (hng : (ops.all fun o => o.guard.isNone) = true)
    (M : Nat → (Nat → Value) → World → Prop) (I : Array Bool → (Nat → Value) → World → Prop) (deps : Nat → List Nat) (hdeps : depsOk ops deps = true)
    (hdep : ∀ j f f' W, (∀ k ∈ deps j, f k = f' k) → M j f W → M j f' W)
    (h0 : I (Array.replicate ops.size false) (fun _ => undef) w.drew)
    (hstep : ∀ (i : Nat) (o : Oper) (L : Array Bool) (f : Nat → Value) (a : Act) (W : World), ops[i]? = some o → L.size = ops.size → I L f W → (∀ j, L.getD j false = true → M j f W) → L.getD i false = false →
      (∀ e ∈ o.after, Region.binds .any e = true → L.getD e.on false = true) → (∀ s, (∀ j, L.getD j false = true → ds[j]? ≠ some (some s)) → a.tmps.getD s undef = b.getD s undef) → (∀ j d, L.getD j false = true → ds[j]? = some (some d) → a.tmps.getD d undef = f j) →
      (∀ j, L.getD j false = true → ∀ k ∈ deps j, L.getD k false = true) → ∀ K : Act → World → Prop, (∀ v W', I (L.setIfInBounds i true) (updF f i v) W' → (∀ j, j ≠ i → L.getD j false = true → M j f W → M j f W') → M i (updF f i v) W' → K (a.put o.dst v) W') → o.wp P a W K Q)
    (hend : ∀ (L : Array Bool) (f : Nat → Value) (W : World), L.size = ops.size → (∀ j, j < ops.size → L.getD j false = true) → I L f W → (∀ j, j < ops.size → M j f W) → Q .normal ⟨setAll f 0 ds b, df⟩ W) : (Code.region id ops true).wp P Q ⟨b, df⟩ w := by
  have hdst : ∀ j, dstOf ops j = (ds[j]?).join := fun j => by
    unfold dstOf
    rw [← hds, List.getElem?_map, Array.getElem?_toList]
    cases ops[j]? <;> rfl
  have hdlen : ds.length = ops.size := by rw [← hds]; simp
  have hdsome : ∀ j d, dstOf ops j = some d ↔ ds[j]? = some (some d) := fun j d => by
    rw [hdst]
    cases ds[j]? with
    | none => simp
    | some x => simp
  have hLlt : ∀ (L : Array Bool) j, L.size = ops.size → L.getD j false = true → j < ops.size := fun L j hL hj => by
    rw [← hL]
    by_cases hlt : j < L.size
    · exact hlt
    · simp [Array.getD, hlt] at hj
  refine wp_region_inv hm hback (fun L a W => ∃ f, MInv ops b df M I L f a W) ⟨fun _ => undef, rfl, rfl, fun s _ => rfl, fun j d h => ?_, fun j o _ h => ?_, fun j h => ?_, h0⟩ ?_ ?_
  · simp [Array.getD] at h
  · simp [Array.getD] at h
  · simp [Array.getD] at h
  · rintro i o L a W ho hL ⟨f, h⟩ hf hpre
    have hg : o.guard = none := by
      have := Array.all_eq_true'.1 hng o (Array.mem_of_getElem? ho)
      simpa using this
    have hw : Region.wanted o (yielded ops a.tmps) = true := by simp [Region.wanted, hg]
    rw [if_pos hw]
    have hi : i < ops.size := (Array.getElem?_eq_some_iff.1 ho).1
    have hiL : i < L.size := by omega
    refine hstep i o L f a W ho hL h.iv h.me hf hpre (fun s hs => h.bs s fun j hj hd => hs j hj ((hdsome j s).1 hd)) (fun j d hj hd => h.sl j d hj ((hdsome j d).2 hd)) (h.deps hL hback hdeps) _ ?_
    intro v W' hI hmono hM
    have hdi : dstOf ops i = o.dst := by unfold dstOf; rw [ho]; rfl
    refine ⟨updF f i v, ?_, ?_, fun s hs => ?_, fun j d hj hd => ?_, fun j o' ho' hj e he hb => ?_, fun j hj => ?_, hI⟩
    · have := h.sz
      unfold Act.put
      split <;> simp [this]
    · have := h.df
      unfold Act.put
      split <;> simp [this]
    · have h1 := h.bs s (fun j hj => hs j (by rw [getDs hiL, hj]; simp))
      have h2 := hs i (by rw [getDs hiL]; simp)
      rw [hdi] at h2
      unfold Act.put
      split
      · rename_i d hd
        simp only
        rw [getD_setv, if_neg, h1]
        rintro ⟨rfl, _⟩
        exact h2 hd
      · exact h1
    · rw [getDs hiL] at hj
      by_cases hij : j = i
      · subst hij
        rw [updF_same]
        rw [hdi] at hd
        rw [hd]
        unfold Act.put
        simp only
        have hlt := (slotsOk_get hok ((hdsome j d).1 (by rw [hdi, hd])) ((hdsome j d).1 (by rw [hdi, hd]))).2
        rw [getD_setv, if_pos ⟨rfl, by rw [h.sz]; exact hlt⟩]
      · have hj' : L.getD j false = true := by simpa [hij] using hj
        rw [updF_other _ _ hij, ← h.sl j d hj' hd]
        unfold Act.put
        split
        · rename_i d' hd'
          simp only
          rw [getD_setv, if_neg]
          rintro ⟨rfl, _⟩
          exact hij (slotsOk_get hok ((hdsome j d').1 hd) ((hdsome i d').1 (by rw [hdi, hd']))).1
        · rfl
    · rw [getDs hiL] at hj ⊢
      by_cases hij : j = i
      · subst hij
        obtain rfl : o' = o := Option.some.inj (ho'.symm.trans ho)
        rw [hpre e he hb]; simp
      · rw [h.cl j o' ho' (by simpa [hij] using hj) e he hb]; simp
    · rw [getDs hiL] at hj
      by_cases hij : j = i
      · rw [hij]; exact hM
      · have hj' : L.getD j false = true := by simpa [hij] using hj
        refine hdep j f _ W' (fun k hk => ?_) (hmono j hij hj' (h.me j hj'))
        have := h.deps hL hback hdeps j hj' k hk
        rw [updF_other]
        rintro rfl
        rw [hf] at this
        cases this
  · rintro L a W hL hall ⟨f, h⟩
    have ha : a = ⟨setAll f 0 ds b, df⟩ := by
      obtain ⟨t, d⟩ := a
      have h1 : d = df := h.df
      have h2 : t = setAll f 0 ds b := by
        refine arr_ext ((h.sz).trans (setAll_size f ds 0 b).symm) fun s => ?_
        by_cases hs : ∃ j : Nat, ds[j]? = some (some s)
        · obtain ⟨j, hj⟩ := hs
          have hjl : j < ops.size := by rw [← hdlen]; exact (List.getElem?_eq_some_iff.1 hj).1
          rw [setAll_get f s ds 0 b j hj (fun k hk => (slotsOk_get hok hk hj).1) (slotsOk_get hok hj hj).2, Nat.zero_add]
          exact h.sl j s (hall j hjl) ((hdsome j s).2 hj)
        · rw [setAll_base f s ds 0 b (fun j hj => hs ⟨j, hj⟩)]
          exact h.bs s (fun j hj hd => hs ⟨j, (hdsome j s).1 hd⟩)
      rw [h1, h2]
    rw [ha]
    exact hend L f W hL hall h.iv (fun j hj => h.me j (hall j hj))
end Go.Proofs.YtpkjiimcoepjpaaDoor
