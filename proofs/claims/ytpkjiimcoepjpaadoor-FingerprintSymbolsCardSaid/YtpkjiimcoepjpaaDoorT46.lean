/- The region rule, with guards. -/
import Derived.Test.YtpkjiimcoepjpaaDoorT45
namespace Go.Proofs.YtpkjiimcoepjpaaDoor
set_option linter.unusedVariables false
set_option linter.unusedSimpArgs false
open Go.RowKit

theorem wanted_none {o : Oper} {y : Nat → Option Bool} (h : o.guard = none) : Region.wanted o y = true := by unfold Region.wanted; rw [h]
theorem wanted_of {o : Oper} {ops : Array Oper} {ts : Array Value} {g d : Nat} {b : Bool} (h : o.guard = some (g, b)) (hd : dstOf ops g = some d) (hv : ts.getD d undef = .bool b) : Region.wanted o (yielded ops ts) = true := by
  unfold Region.wanted
  rw [h]
  have e : ts[d]? = some (.bool b) := by
    rw [Array.getD_eq_getD_getElem?] at hv
    cases hq : ts[d]? with
    | none => rw [hq] at hv; cases hv
    | some v => rw [hq] at hv; exact congrArg some hv
  have hy : yielded ops ts g = some b := by
    unfold yielded
    unfold dstOf at hd
    rw [hd]
    simp only [Option.bind_some, e]
  simp [hy]
/-- The rule. 'M j f W': what operation j's result f j means, once it is done; 'I': what is true besides. -/
theorem wp_region_G {P : Program} {id : Nat} {ops : Array Oper} {Q : Exit → Act → World → Prop} {b : Array Value} {df : List Deferred} {w : World} (hm : P.follows .mixedOrders = true) (hback : backB ops = true)
    (ds : List (Option Nat)) (hds : ops.toList.map (·.dst) = ds) (hok : slotsOk ds b.size = true)
    (M : Nat → (Nat → Value) → World → Prop) (I : Array Bool → (Nat → Value) → World → Prop) (deps : Nat → List Nat) (hdeps : depsOk ops deps = true)
    (hdep : ∀ j f f' W, (∀ k ∈ deps j, f k = f' k) → M j f W → M j f' W)
    (h0 : I (Array.replicate ops.size false) (fun _ => undef) w.drew)
    (hstep : ∀ (i : Nat) (o : Oper) (L : Array Bool) (f : Nat → Value) (a : Act) (W : World), ops[i]? = some o → L.size = ops.size → I L f W → (∀ j, L.getD j false = true → M j f W) → L.getD i false = false →
      (∀ e ∈ o.after, Region.binds .any e = true → L.getD e.on false = true) → (∀ s, (∀ j, L.getD j false = true → ds[j]? ≠ some (some s)) → a.tmps.getD s undef = b.getD s undef) → (∀ j d, L.getD j false = true → ds[j]? = some (some d) → a.tmps.getD d undef = f j) →
      (∀ j, L.getD j false = true → ∀ k ∈ deps j, L.getD k false = true) → Region.wanted o (yielded ops a.tmps) = true ∧ ∀ K : Act → World → Prop, (∀ v W', I (L.setIfInBounds i true) (updF f i v) W' → (∀ j, j ≠ i → L.getD j false = true → M j f W → M j f W') → M i (updF f i v) W' → K (a.put o.dst v) W') → o.wp P a W K Q)
    (hend : ∀ (L : Array Bool) (f : Nat → Value) (W : World), L.size = ops.size → (∀ j, j < ops.size → L.getD j false = true) → I L f W → (∀ j, j < ops.size → M j f W) → Q .normal ⟨setAll f 0 ds b, df⟩ W) : (Code.region id ops true).wp P Q ⟨b, df⟩ w := by
  have hdst : ∀ j, dstOf ops j = (ds[j]?).join := fun j => by
    unfold dstOf
    rw [← hds, List.getElem?_map, Array.getElem?_toList]
    cases ops[j]? <;> rfl
  have hdlen : ds.length = ops.size := by rw [← hds]; simp
  have hdsome : ∀ j d, dstOf ops j = some d ↔ ds[j]? = some (some d) := fun j d => by
    rw [hdst]
    cases ds[j]? with
    | none => simp
    | some x => simp
  have hLlt : ∀ (L : Array Bool) j, L.size = ops.size → L.getD j false = true → j < ops.size := fun L j hL hj => by
    rw [← hL]
    by_cases hlt : j < L.size
    · exact hlt
    · simp [Array.getD, hlt] at hj
  refine wp_region_inv hm hback (fun L a W => ∃ f, MInv ops b df M I L f a W) ⟨fun _ => undef, rfl, rfl, fun s _ => rfl, fun j d h => ?_, fun j o _ h => ?_, fun j h => ?_, h0⟩ ?_ ?_
  · simp [Array.getD] at h
  · simp [Array.getD] at h
  · simp [Array.getD] at h
  · rintro i o L a W ho hL ⟨f, h⟩ hf hpre
    have hi : i < ops.size := (Array.getElem?_eq_some_iff.1 ho).1
    have hiL : i < L.size := by omega
    obtain ⟨hw, hall⟩ := hstep i o L f a W ho hL h.iv h.me hf hpre (fun s hs => h.bs s fun j hj hd => hs j hj ((hdsome j s).1 hd)) (fun j d hj hd => h.sl j d hj ((hdsome j d).2 hd)) (h.deps hL hback hdeps)
    rw [if_pos hw]
    refine hall _ ?_
    intro v W' hI hmono hM
    have hdi : dstOf ops i = o.dst := by unfold dstOf; rw [ho]; rfl
    refine ⟨updF f i v, ?_, ?_, fun s hs => ?_, fun j d hj hd => ?_, fun j o' ho' hj e he hb => ?_, fun j hj => ?_, hI⟩
    · have := h.sz
      unfold Act.put
      split <;> simp [this]
    · have := h.df
      unfold Act.put
      split <;> simp [this]
    · have h1 := h.bs s (fun j hj => hs j (by rw [getDs hiL, hj]; simp))
      have h2 := hs i (by rw [getDs hiL]; simp)
      rw [hdi] at h2
      unfold Act.put
      split
      · rename_i d hd
        simp only
        rw [getD_setv, if_neg, h1]
        rintro ⟨rfl, _⟩
        exact h2 hd
      · exact h1
    · rw [getDs hiL] at hj
      by_cases hij : j = i
      · subst hij
        rw [updF_same]
        rw [hdi] at hd
        rw [hd]
        unfold Act.put
        simp only
        have hlt := (slotsOk_get hok ((hdsome j d).1 (by rw [hdi, hd])) ((hdsome j d).1 (by rw [hdi, hd]))).2
        rw [getD_setv, if_pos ⟨rfl, by rw [h.sz]; exact hlt⟩]
      · have hj' : L.getD j false = true := by simpa [hij] using hj
        rw [updF_other _ _ hij, ← h.sl j d hj' hd]
        unfold Act.put
        split
        · rename_i d' hd'
          simp only
          rw [getD_setv, if_neg]
          rintro ⟨rfl, _⟩
          exact hij (slotsOk_get hok ((hdsome j d').1 hd) ((hdsome i d').1 (by rw [hdi, hd']))).1
        · rfl
    · rw [getDs hiL] at hj ⊢
      by_cases hij : j = i
      · subst hij
        obtain rfl : o' = o := Option.some.inj (ho'.symm.trans ho)
        rw [hpre e he hb]; simp
      · rw [h.cl j o' ho' (by simpa [hij] using hj) e he hb]; simp
    · rw [getDs hiL] at hj
      by_cases hij : j = i
      · rw [hij]; exact hM
      · have hj' : L.getD j false = true := by simpa [hij] using hj
        refine hdep j f _ W' (fun k hk => ?_) (hmono j hij hj' (h.me j hj'))
        have := h.deps hL hback hdeps j hj' k hk
        rw [updF_other]
        rintro rfl
        rw [hf] at this
        cases this
  · rintro L a W hL hall ⟨f, h⟩
    have ha : a = ⟨setAll f 0 ds b, df⟩ := by
      obtain ⟨t, d⟩ := a
      have h1 : d = df := h.df
      have h2 : t = setAll f 0 ds b := by
        refine arr_ext ((h.sz).trans (setAll_size f ds 0 b).symm) fun s => ?_
        by_cases hs : ∃ j : Nat, ds[j]? = some (some s)
        · obtain ⟨j, hj⟩ := hs
          have hjl : j < ops.size := by rw [← hdlen]; exact (List.getElem?_eq_some_iff.1 hj).1
          rw [setAll_get f s ds 0 b j hj (fun k hk => (slotsOk_get hok hk hj).1) (slotsOk_get hok hj hj).2, Nat.zero_add]
          exact h.sl j s (hall j hjl) ((hdsome j s).2 hj)
        · rw [setAll_base f s ds 0 b (fun j hj => hs ⟨j, hj⟩)]
          exact h.bs s (fun j hj hd => hs ⟨j, (hdsome j s).1 hd⟩)
      rw [h1, h2]
    rw [ha]
    exact hend L f W hL hall h.iv (fun j hj => h.me j (hall j hj))
end Go.Proofs.YtpkjiimcoepjpaaDoor
