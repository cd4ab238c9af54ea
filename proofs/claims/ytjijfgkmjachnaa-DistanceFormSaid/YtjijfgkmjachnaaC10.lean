/- Seat 37, texts merged: a rule for regions; the walk of replace. Lemmas for the laws of chapter 37; no conditions of their own beyond what each states. -/
import Derived.Test.YtjijfgkmjachnaaC3
import Derived.Test.YtjijfgkmjachnaaC6
import Derived.Test.YtjijfgkmjachnaaC4
import Derived.Deep.AppendLies
import Derived.RegionTactic
import Derived.ChangeAlike
import Derived.BigRegion
import Derived.Deep.RegionHeld3
import Derived.Deep.DrawnRows
namespace Go.Proofs.Ytjijfgkmjachnaa
set_option linter.unusedVariables false
set_option linter.unusedSimpArgs false
open Go.RowKit

def dstOf (ops : Array Oper) (i : Nat) : Option Nat := (ops[i]?).bind (·.dst)
def updF (f : Nat → Value) (i : Nat) (v : Value) : Nat → Value := fun j => if j = i then v else f j
theorem updF_same (f : Nat → Value) (i : Nat) (v : Value) : updF f i v i = v := by simp [updF]
theorem updF_other (f : Nat → Value) {i j : Nat} (v : Value) (h : j ≠ i) : updF f i v j = f j := by simp [updF, h]
/-- The slots behind the region, all done. -/
def setAll (f : Nat → Value) : Nat → List (Option Nat) → Array Value → Array Value
  | _, [], b => b
  | i, none :: r, b => setAll f (i + 1) r b
  | i, some d :: r, b => setAll f (i + 1) r (b.setIfInBounds d (f i))

theorem getD_setv (b : Array Value) (d s : Nat) (v : Value) : (b.setIfInBounds d v).getD s undef = if d = s ∧ d < b.size then v else b.getD s undef := by
  simp only [Array.getD_eq_getD_getElem?, Array.getElem?_setIfInBounds]
  by_cases h : d = s
  · subst h
    by_cases h2 : d < b.size
    · simp [h2]
    · simp [h2]
  · simp [h]
theorem arr_ext {a b : Array Value} (hs : a.size = b.size) (h : ∀ s, a.getD s undef = b.getD s undef) : a = b := by
  apply Array.ext hs
  intro i h1 h2
  have := h i
  simpa [Array.getD, h1, h2] using this
theorem setAll_size (f : Nat → Value) : ∀ (r : List (Option Nat)) (i : Nat) (b : Array Value), (setAll f i r b).size = b.size
  | [], _, _ => rfl
  | none :: r, i, b => setAll_size f r (i + 1) b
  | some d :: r, i, b => by unfold setAll; rw [setAll_size f r (i + 1)]; simp
theorem setAll_base (f : Nat → Value) (s : Nat) : ∀ (r : List (Option Nat)) (i : Nat) (b : Array Value), (∀ j : Nat, r[j]? ≠ some (some s)) → (setAll f i r b).getD s undef = b.getD s undef
  | [], _, _, _ => rfl
  | none :: r, i, b, h => setAll_base f s r (i + 1) b (fun j => by have := h (j + 1); simpa using this)
  | some d :: r, i, b, h => by
    unfold setAll
    rw [setAll_base f s r (i + 1) _ (fun j => by have := h (j + 1); simpa using this), getD_setv, if_neg]
    rintro ⟨rfl, _⟩
    exact h 0 (by simp)
theorem setAll_get (f : Nat → Value) (s : Nat) : ∀ (r : List (Option Nat)) (i : Nat) (b : Array Value) (j : Nat), r[j]? = some (some s) → (∀ k : Nat, r[k]? = some (some s) → k = j) → s < b.size → (setAll f i r b).getD s undef = f (i + j)
  | [], _, _, _, h, _, _ => by simp at h
  | none :: r, i, b, j, h, hu, hs => by
    cases j with
    | zero => simp at h
    | succ j =>
      have := setAll_get f s r (i + 1) b j (by simpa using h) (fun k hk => by have := hu (k + 1) (by simpa using hk); omega) hs
      unfold setAll
      rw [this]
      congr 1
      omega
  | some d :: r, i, b, j, h, hu, hs => by
    cases j with
    | zero =>
      simp only [List.getElem?_cons_zero, Option.some.injEq] at h
      subst h
      unfold setAll
      rw [setAll_base f d r (i + 1) _ (fun j hj => by have := hu (j + 1) (by simpa using hj); omega), getD_setv, if_pos ⟨rfl, hs⟩]
      rfl
    | succ j =>
      have := setAll_get f s r (i + 1) (b.setIfInBounds d (f i)) j (by simpa using h) (fun k hk => by have := hu (k + 1) (by simpa using hk); omega) (by simpa using hs)
      unfold setAll
      rw [this]
      congr 1
      omega

/-- Distinct slots, all inside. -/
def slotsOk (ds : List (Option Nat)) (n : Nat) : Bool := (List.range ds.length).all fun i => (List.range ds.length).all fun j => match ds[i]?, ds[j]? with
  | some (some a), some (some b) => (a != b || i == j) && decide (a < n)
  | _, _ => true
theorem slotsOk_get {ds : List (Option Nat)} {n : Nat} (h : slotsOk ds n = true) {i j a : Nat} (hi : ds[i]? = some (some a)) (hj : ds[j]? = some (some a)) : i = j ∧ a < n := by
  have h1 := List.all_eq_true.1 h i (List.mem_range.2 (List.getElem?_eq_some_iff.1 hi).1)
  have h2 := List.all_eq_true.1 h1 j (List.mem_range.2 (List.getElem?_eq_some_iff.1 hj).1)
  rw [hi, hj] at h2
  simpa using h2
/-- What an operation's meaning leans on lies behind its edges. -/
def depsOk (ops : Array Oper) (deps : Nat → List Nat) : Bool := (List.range ops.size).all fun j => (deps j).all fun k => k == j || ((ops[j]?).map fun o => o.after.any fun e => Region.binds .any e && (k == e.on || (deps e.on).contains k)).getD false

structure MInv (ops : Array Oper) (b : Array Value) (ds : List Deferred) (M : Nat → (Nat → Value) → World → Prop) (I : Array Bool → (Nat → Value) → World → Prop) (L : Array Bool) (f : Nat → Value) (a : Act) (W : World) : Prop where
  sz : a.tmps.size = b.size
  df : a.defers = ds
  bs : ∀ s, (∀ j, L.getD j false = true → dstOf ops j ≠ some s) → a.tmps.getD s undef = b.getD s undef
  sl : ∀ j d, L.getD j false = true → dstOf ops j = some d → a.tmps.getD d undef = f j
  cl : ∀ j o, ops[j]? = some o → L.getD j false = true → ∀ e ∈ o.after, Region.binds .any e = true → L.getD e.on false = true
  me : ∀ j, L.getD j false = true → M j f W
  iv : I L f W

theorem getDs {L : Array Bool} {i : Nat} (hi : i < L.size) (j : Nat) : (L.setIfInBounds i true).getD j false = (decide (j = i) || L.getD j false) := by
  simp only [Array.getD_eq_getD_getElem?, Array.getElem?_setIfInBounds]
  by_cases h : i = j
  · subst h; simp [hi]
  · rw [if_neg h]; simp [show ¬ j = i from fun e => h e.symm]

theorem MInv.deps {ops : Array Oper} {b : Array Value} {ds : List Deferred} {M : Nat → (Nat → Value) → World → Prop} {I : Array Bool → (Nat → Value) → World → Prop} {L : Array Bool} {f : Nat → Value} {a : Act} {W : World}
    (h : MInv ops b ds M I L f a W) (hL : L.size = ops.size) (hback : backB ops = true) {deps : Nat → List Nat} (hd : depsOk ops deps = true) : ∀ j, L.getD j false = true → ∀ k ∈ deps j, L.getD k false = true := by
  intro j
  induction j using Nat.strongRecOn with
  | _ j ih =>
    intro hj k hk
    have hlt : j < ops.size := by
      rw [← hL]
      by_cases hlt : j < L.size
      · exact hlt
      · simp [Array.getD, hlt] at hj
    have h1 := List.all_eq_true.1 hd j (List.mem_range.2 hlt)
    have h2 := List.all_eq_true.1 h1 k hk
    rcases Bool.or_eq_true_iff.1 h2 with h2 | h2
    · have : k = j := by simpa using h2
      rw [this]; exact hj
    · have hb := List.all_eq_true.1 hback j (List.mem_range.2 hlt)
      rw [Array.getElem?_eq_getElem hlt] at h2 hb
      simp only [Option.map_some, Option.getD_some] at h2 hb
      obtain ⟨e, he, h3⟩ := Array.any_eq_true'.1 h2
      obtain ⟨h3, h4⟩ := Bool.and_eq_true_iff.1 h3
      have hon := h.cl j _ (Array.getElem?_eq_getElem hlt) hj e he h3
      rw [Array.all_eq_true_iff_forall_mem] at hb
      have hbe := hb e he
      rw [h3] at hbe
      have hlt2 : e.on < j := by simpa using hbe
      rcases Bool.or_eq_true_iff.1 h4 with h4 | h4
      · have : k = e.on := by simpa using h4
        rw [this]; exact hon
      · exact ih e.on hlt2 hon k (by simpa using h4)

/-- The rule. 'M j f W': what operation j's result f j means, once it is done; 'I': what is true besides. -/
theorem wp_region_M {P : Program} {id : Nat} {ops : Array Oper} {Q : Exit → Act → World → Prop} {b : Array Value} {df : List Deferred} {w : World} (hm : P.follows .mixedOrders = true) (hback : backB ops = true)
    (ds : List (Option Nat)) (hds : ops.toList.map (·.dst) = ds) (hok : slotsOk ds b.size = true) (hng : (ops.all fun o => o.guard.isNone) = true)
    (M : Nat → (Nat → Value) → World → Prop) (I : Array Bool → (Nat → Value) → World → Prop) (deps : Nat → List Nat) (hdeps : depsOk ops deps = true)
    (hdep : ∀ j f f' W, (∀ k ∈ deps j, f k = f' k) → M j f W → M j f' W)
    (h0 : I (Array.replicate ops.size false) (fun _ => undef) w.drew)
    (hstep : ∀ (i : Nat) (o : Oper) (L : Array Bool) (f : Nat → Value) (a : Act) (W : World), ops[i]? = some o → L.size = ops.size → I L f W → (∀ j, L.getD j false = true → M j f W) → L.getD i false = false →
      (∀ e ∈ o.after, Region.binds .any e = true → L.getD e.on false = true) → (∀ s, (∀ j, j < ops.size → ds[j]? ≠ some (some s)) → a.tmps.getD s undef = b.getD s undef) → (∀ j d, L.getD j false = true → ds[j]? = some (some d) → a.tmps.getD d undef = f j) →
      (∀ j, L.getD j false = true → ∀ k ∈ deps j, L.getD k false = true) → ∀ K : Act → World → Prop, (∀ v W', I (L.setIfInBounds i true) (updF f i v) W' → (∀ j, j ≠ i → L.getD j false = true → M j f W → M j f W') → M i (updF f i v) W' → K (a.put o.dst v) W') → o.wp P a W K Q)
    (hend : ∀ (L : Array Bool) (f : Nat → Value) (W : World), L.size = ops.size → (∀ j, j < ops.size → L.getD j false = true) → I L f W → (∀ j, j < ops.size → M j f W) → Q .normal ⟨setAll f 0 ds b, df⟩ W) : (Code.region id ops true).wp P Q ⟨b, df⟩ w := by
  have hdst : ∀ j, dstOf ops j = (ds[j]?).join := fun j => by
    unfold dstOf
    rw [← hds, List.getElem?_map, Array.getElem?_toList]
    cases ops[j]? <;> rfl
  have hdlen : ds.length = ops.size := by rw [← hds]; simp
  have hdsome : ∀ j d, dstOf ops j = some d ↔ ds[j]? = some (some d) := fun j d => by
    rw [hdst]
    cases ds[j]? with
    | none => simp
    | some x => simp
  have hLlt : ∀ (L : Array Bool) j, L.size = ops.size → L.getD j false = true → j < ops.size := fun L j hL hj => by
    rw [← hL]
    by_cases hlt : j < L.size
    · exact hlt
    · simp [Array.getD, hlt] at hj
  refine wp_region_inv hm hback (fun L a W => ∃ f, MInv ops b df M I L f a W) ⟨fun _ => undef, rfl, rfl, fun s _ => rfl, fun j d h => ?_, fun j o _ h => ?_, fun j h => ?_, h0⟩ ?_ ?_
  · simp [Array.getD] at h
  · simp [Array.getD] at h
  · simp [Array.getD] at h
  · rintro i o L a W ho hL ⟨f, h⟩ hf hpre
    have hg : o.guard = none := by
      have := Array.all_eq_true'.1 hng o (Array.mem_of_getElem? ho)
      simpa using this
    have hw : Region.wanted o (yielded ops a.tmps) = true := by simp [Region.wanted, hg]
    rw [if_pos hw]
    have hi : i < ops.size := (Array.getElem?_eq_some_iff.1 ho).1
    have hiL : i < L.size := by omega
    refine hstep i o L f a W ho hL h.iv h.me hf hpre (fun s hs => h.bs s fun j hj hd => hs j (hLlt L j hL hj) ((hdsome j s).1 hd)) (fun j d hj hd => h.sl j d hj ((hdsome j d).2 hd)) (h.deps hL hback hdeps) _ ?_
    intro v W' hI hmono hM
    have hdi : dstOf ops i = o.dst := by unfold dstOf; rw [ho]; rfl
    refine ⟨updF f i v, ?_, ?_, fun s hs => ?_, fun j d hj hd => ?_, fun j o' ho' hj e he hb => ?_, fun j hj => ?_, hI⟩
    · have := h.sz
      unfold Act.put
      split <;> simp [this]
    · have := h.df
      unfold Act.put
      split <;> simp [this]
    · have h1 := h.bs s (fun j hj => hs j (by rw [getDs hiL, hj]; simp))
      have h2 := hs i (by rw [getDs hiL]; simp)
      rw [hdi] at h2
      unfold Act.put
      split
      · rename_i d hd
        simp only
        rw [getD_setv, if_neg, h1]
        rintro ⟨rfl, _⟩
        exact h2 hd
      · exact h1
    · rw [getDs hiL] at hj
      by_cases hij : j = i
      · subst hij
        rw [updF_same]
        rw [hdi] at hd
        rw [hd]
        unfold Act.put
        simp only
        have hlt := (slotsOk_get hok ((hdsome j d).1 (by rw [hdi, hd])) ((hdsome j d).1 (by rw [hdi, hd]))).2
        rw [getD_setv, if_pos ⟨rfl, by rw [h.sz]; exact hlt⟩]
      · have hj' : L.getD j false = true := by simpa [hij] using hj
        rw [updF_other _ _ hij, ← h.sl j d hj' hd]
        unfold Act.put
        split
        · rename_i d' hd'
          simp only
          rw [getD_setv, if_neg]
          rintro ⟨rfl, _⟩
          exact hij (slotsOk_get hok ((hdsome j d').1 hd) ((hdsome i d').1 (by rw [hdi, hd']))).1
        · rfl
    · rw [getDs hiL] at hj ⊢
      by_cases hij : j = i
      · subst hij
        obtain rfl : o' = o := Option.some.inj (ho'.symm.trans ho)
        rw [hpre e he hb]; simp
      · rw [h.cl j o' ho' (by simpa [hij] using hj) e he hb]; simp
    · rw [getDs hiL] at hj
      by_cases hij : j = i
      · rw [hij]; exact hM
      · have hj' : L.getD j false = true := by simpa [hij] using hj
        refine hdep j f _ W' (fun k hk => ?_) (hmono j hij hj' (h.me j hj'))
        have := h.deps hL hback hdeps j hj' k hk
        rw [updF_other]
        rintro rfl
        rw [hf] at this
        cases this
  · rintro L a W hL hall ⟨f, h⟩
    have ha : a = ⟨setAll f 0 ds b, df⟩ := by
      obtain ⟨t, d⟩ := a
      have h1 : d = df := h.df
      have h2 : t = setAll f 0 ds b := by
        refine arr_ext ((h.sz).trans (setAll_size f ds 0 b).symm) fun s => ?_
        by_cases hs : ∃ j : Nat, ds[j]? = some (some s)
        · obtain ⟨j, hj⟩ := hs
          have hjl : j < ops.size := by rw [← hdlen]; exact (List.getElem?_eq_some_iff.1 hj).1
          rw [setAll_get f s ds 0 b j hj (fun k hk => (slotsOk_get hok hk hj).1) (slotsOk_get hok hj hj).2, Nat.zero_add]
          exact h.sl j s (hall j hjl) ((hdsome j s).2 hj)
        · rw [setAll_base f s ds 0 b (fun j hj => hs ⟨j, hj⟩)]
          exact h.bs s (fun j hj hd => hs ⟨j, (hdsome j s).1 hd⟩)
      rw [h1, h2]
    rw [ha]
    exact hend L f W hL hall h.iv (fun j hj => h.me j (hall j hj))
end Go.Proofs.Ytjijfgkmjachnaa

namespace Go.Proofs.Ytjijfgkmjachnaa
set_option linter.unusedVariables false
set_option linter.unusedSimpArgs false
open Go.RowKit

inductive RNS (w : World) (S : Nat → Prop) : Nd → Option Addr → Nat → Prop where
  | mk (t : Nd) (b o : Nat) (c : Nat) (As : Nat → Option Addr) (cs : Nat → Nat) (hb : S b) (hc : t.kids.length ≤ c) (hm : t.kids.length ≤ 9223372036854775807)
      (hcell : ∀ (i : Nat) (h : i < t.kids.length), At5 w b (o + i * 5) (t.kids[i]) (As i) (cs i))
      (hsub : ∀ (i : Nat) (h : i < t.kids.length), RNS w S (t.kids[i]) (As i) (cs i)) : RNS w S t (some ⟨b, o, none⟩) c
  | nil (t : Nd) (c : Nat) (A : Option Addr) (h : t.kids = []) : RNS w S t A c
theorem RNS.rn {w : World} {S : Nat → Prop} {t : Nd} {A : Option Addr} {c : Nat} (h : RNS w S t A c) : RN w t A c := by
  induction h with
  | mk t b o c As cs _ hc hm hcell _ ih => exact .mk t b o c As cs hc hm hcell ih
  | nil t c A h => exact .nil t c A h
theorem RNS.of {w : World} {t : Nd} {A : Option Addr} {c : Nat} (h : RN w t A c) : RNS w (· < w.heap.size) t A c := by
  induction h with
  | mk t b o c As cs hc hm hcell _ ih =>
    by_cases hk : t.kids = []
    · exact .nil t c _ hk
    · exact .mk t b o c As cs (hcell 0 (List.length_pos_iff.2 hk)).lt hc hm hcell ih
  | nil t c A h => exact .nil t c A h
theorem At5.of_block {w w1 : World} {b o : Nat} {t : Nd} {A : Option Addr} {c : Nat} (h : At5 w b o t A c) (hb : w1.heap[b]? = w.heap[b]?) : At5 w1 b o t A c :=
  ⟨(World.cell?_of_block (a := ⟨b, _, none⟩) hb).trans h.c0, (World.cell?_of_block (a := ⟨b, _, none⟩) hb).trans h.c1, (World.cell?_of_block (a := ⟨b, _, none⟩) hb).trans h.c2, (World.cell?_of_block (a := ⟨b, _, none⟩) hb).trans h.c3, (World.cell?_of_block (a := ⟨b, _, none⟩) hb).trans h.c4⟩
theorem RNS.keep {w w1 : World} {S : Nat → Prop} (hs : ∀ b, S b → b < w.heap.size → w1.heap[b]? = w.heap[b]?) {t : Nd} {A : Option Addr} {c : Nat} (h : RNS w S t A c) : RNS w1 S t A c := by
  induction h with
  | mk t b o c As cs hb hc hm hcell _ ih =>
    by_cases hk : t.kids = []
    · exact .nil t c _ hk
    · have hlt := (hcell 0 (List.length_pos_iff.2 hk)).lt
      exact .mk t b o c As cs hb hc hm (fun i hi => (hcell i hi).of_block (hs b hb hlt)) ih
  | nil t c A h => exact .nil t c A h
theorem RNS.mono {w : World} {S S' : Nat → Prop} (hs : ∀ b, S b → S' b) {t : Nd} {A : Option Addr} {c : Nat} (h : RNS w S t A c) : RNS w S' t A c := by
  induction h with
  | mk t b o c As cs hb hc hm hcell _ ih => exact .mk t b o c As cs (hs b hb) hc hm hcell ih
  | nil t c A h => exact .nil t c A h
theorem RNS.belowK {w w1 : World} {S : Nat → Prop} (hb : Below w.heap.size w w1) {t : Nd} {A : Option Addr} {c : Nat} (h : RNS w S t A c) : RNS w1 S t A c := h.keep fun b _ hlt => hb.block b hlt
theorem RNS.get {w : World} {S : Nat → Prop} {t : Nd} {A : Option Addr} {c : Nat} (h : RNS w S t A c) (hk : t.kids ≠ []) :
    ∃ (b o : Nat) (As : Nat → Option Addr) (cs : Nat → Nat), A = some ⟨b, o, none⟩ ∧ S b ∧ t.kids.length ≤ c ∧ t.kids.length ≤ 9223372036854775807 ∧ (∀ (i : Nat) (h : i < t.kids.length), At5 w b (o + i * 5) (t.kids[i]) (As i) (cs i)) ∧ (∀ (i : Nat) (h : i < t.kids.length), RNS w S (t.kids[i]) (As i) (cs i)) := by
  rcases h with ⟨_, b, o, _, As, cs, hb, hc, hm, hcell, hsub⟩ | ⟨_, _, _, h⟩
  · exact ⟨b, o, As, cs, rfl, hb, hc, hm, hcell, hsub⟩
  · exact absurd h hk

/-- the cells of a row of nodes -/
def cellsL (l : List Nd) (As : Nat → Option Addr) (cs : Nat → Nat) : List Value := (List.range l.length).flatMap fun i => cells5 (l.getD i (.mk 0 ByteArray.empty 0 0 [])) (As i) (cs i)
theorem flat5_len {α : Type} (f : Nat → List α) (hf : ∀ i, (f i).length = 5) (n : Nat) : ((List.range n).flatMap f).length = n * 5 := by
  induction n with
  | zero => rfl
  | succ n ih => rw [List.range_succ, List.flatMap_append, List.length_append, ih]; simp [hf]; omega
theorem flat5_get {α : Type} (f : Nat → List α) (hf : ∀ i, (f i).length = 5) (n i j : Nat) (hi : i < n) (hj : j < 5) : ((List.range n).flatMap f)[i * 5 + j]? = (f i)[j]? := by
  induction n with
  | zero => omega
  | succ n ih =>
    rw [List.range_succ, List.flatMap_append]
    by_cases h : i < n
    · rw [List.getElem?_append_left (by rw [flat5_len f hf]; omega), ih h]
    · obtain rfl : i = n := by omega
      rw [List.getElem?_append_right (by rw [flat5_len f hf]; omega), flat5_len f hf]
      simp
theorem cellsL_len (l : List Nd) (As : Nat → Option Addr) (cs : Nat → Nat) : (cellsL l As cs).length = l.length * 5 := flat5_len _ (fun _ => rfl) _
theorem cellsL_get (l : List Nd) (As : Nat → Option Addr) (cs : Nat → Nat) (i j : Nat) (hi : i < l.length) (hj : j < 5) : (cellsL l As cs)[i * 5 + j]? = (cells5 l[i] (As i) (cs i))[j]? := by
  unfold cellsL
  rw [flat5_get _ (fun _ => rfl) _ _ _ hi hj, List.getD_eq_getElem?_getD, List.getElem?_eq_getElem hi]
  rfl
theorem cellsL_one (l : List Nd) (As : Nat → Option Addr) (cs : Nat → Nat) : ∀ u ∈ cellsL l As cs, u.oneCell' = true := by
  intro u hu
  unfold cellsL cells5 at hu
  simp only [List.mem_flatMap, List.mem_cons, List.not_mem_nil, or_false] at hu
  obtain ⟨i, _, rfl | rfl | rfl | rfl | rfl⟩ := hu <;> rfl
theorem At5.cell {w : World} {b o : Nat} {t : Nd} {A : Option Addr} {c : Nat} (h : At5 w b o t A c) (j : Nat) (hj : j < 5) : w.cell? ⟨b, o + j, none⟩ = (cells5 t A c)[j]? := by
  obtain ⟨h0, h1, h2, h3, h4⟩ := h
  match j, hj with
  | 0, _ => exact h0
  | 1, _ => exact h1
  | 2, _ => exact h2
  | 3, _ => exact h3
  | 4, _ => exact h4
theorem At5.of_cells {w : World} {b o : Nat} {t : Nd} {A : Option Addr} {c : Nat} (h : ∀ j, j < 5 → w.cell? ⟨b, o + j, none⟩ = (cells5 t A c)[j]?) : At5 w b o t A c :=
  ⟨h 0 (by omega), h 1 (by omega), h 2 (by omega), h 3 (by omega), h 4 (by omega)⟩
/-- the news of an append of a row of nodes -/
theorem news_nodes {w : World} {b o : Nat} {l : List Nd} {As : Nat → Option Addr} {cs : Nat → Nat} (h : ∀ (i : Nat) (h : i < l.length), At5 w b (o + i * 5) l[i] (As i) (cs i)) :
    ∀ j u, (cellsL l As cs)[j]? = some u → w.cell? ⟨b, o + j, none⟩ = some u := by
  intro j u hu
  have hj : j < l.length * 5 := by rw [← cellsL_len l As cs]; exact (List.getElem?_eq_some_iff.1 hu).1
  obtain ⟨q, r, hr, rfl⟩ : ∃ q r, r < 5 ∧ j = q * 5 + r := ⟨j / 5, j % 5, by omega, by omega⟩
  rw [cellsL_get l As cs q r (by omega) hr] at hu
  have := (h q (by omega)).cell r hr
  rw [← hu, ← this]
  congr 1
  rw [Nat.add_assoc]
theorem own_nodes {w : World} {base g cap : Nat} {l : List Nd} {As : Nat → Option Addr} {cs : Nat → Nat} (h : w.ownsRow base 24 5 (.slice (some ⟨g, 0, none⟩) l.length cap) l.length (cellsL l As cs)) :
    ∀ i (hi : i < l.length), At5 w g (i * 5) l[i] (As i) (cs i) := fun i hi => At5.of_cells fun j hj => by
  rw [h.cellAt (i * 5 + j) (by omega), cellsL_get l As cs i j hi hj]
theorem heap5a (w : World) (a b c d e : Obj) (W : World) (hW : ((((w.alloc a).alloc b).alloc c).alloc d).alloc e = W) : W.heap[w.heap.size]? = some a ∧ W.heap[w.heap.size + 1]? = some b ∧ W.heap[w.heap.size + 1 + 1]? = some c ∧ W.heap[w.heap.size + 1 + 1 + 1]? = some d ∧ W.heap.size = w.heap.size + 5 ∧ Below w.heap.size w W := by
  subst hW
  refine ⟨?_, ?_, ?_, ?_, by simp, (((((Below.refl _ _).alloc (Nat.le_refl _) _).alloc (by simp) _).alloc (by simp; omega) _).alloc (by simp; omega) _).alloc (by simp; omega) _⟩ <;>
    (show (((((w.heap.push a).push b).push c).push d).push e)[_]? = _) <;> simp only [Array.getElem?_push, Array.size_push] <;> simp <;> (repeat (rw [if_neg (by omega)])) <;> (try rfl)

/-- A node stored cell by cell. -/
def set5 (w : World) (b o : Nat) (x : Nd) (X : Option Addr) (c : Nat) : World :=
  ((((w.setCell ⟨b, o, none⟩ (.int .i64 x.kind)).setCell ⟨b, o + 1, none⟩ (.string x.text)).setCell ⟨b, o + 2, none⟩ (.int .i64 x.pos)).setCell ⟨b, o + 3, none⟩ (.int .i64 x.fin)).setCell ⟨b, o + 4, none⟩ (.slice X x.kids.length c)
theorem trans_bB {a b c : World} (h : Below a.heap.size a b) (hb : Below b.heap.size b c) : Below a.heap.size a c := h.trans (hb.mono h.size)
theorem set_some (w : World) (a p : Addr) (v u : Value) (h : w.cell? p = some u) : ∃ u', (w.setCell a v).cell? p = some u' := by
  by_cases e : p = a
  · subst e
    exact ⟨v, World.cell?_setCell_same' _ _ _ (by rw [h]; rfl)⟩
  · exact ⟨u, (World.cell?_setCell_other w a p v (Ne.symm e)).trans h⟩
theorem ne_off {b i j : Nat} (h : i ≠ j) : (⟨b, i, none⟩ : Addr) ≠ ⟨b, j, none⟩ := fun e => h (by injection e)
theorem set5_at {w : World} {b o : Nat} {x : Nd} {X : Option Addr} {c : Nat} (h : ∀ j, j < 5 → ∃ u, w.cell? ⟨b, o + j, none⟩ = some u) : At5 (set5 w b o x X c) b o x X c := by
  have e : ∀ (w : World) (j : Nat) (v : Value), (∀ j, j < 5 → ∃ u, w.cell? ⟨b, o + j, none⟩ = some u) → ∀ i, i < 5 → ∃ u, (w.setCell ⟨b, o + j, none⟩ v).cell? ⟨b, o + i, none⟩ = some u := fun w j v h i hi => by
    obtain ⟨u, hu⟩ := h i hi
    exact set_some _ _ _ _ _ hu
  have g : ∀ (w : World) (j : Nat) (v : Value), (∃ u, w.cell? ⟨b, o + j, none⟩ = some u) → (w.setCell ⟨b, o + j, none⟩ v).cell? ⟨b, o + j, none⟩ = some v := fun w j v ⟨u, hu⟩ => World.cell?_setCell_same' _ _ _ (by rw [hu]; rfl)
  have n : ∀ (w : World) (i j : Nat) (v u : Value), i ≠ j → w.cell? ⟨b, o + i, none⟩ = some u → (w.setCell ⟨b, o + j, none⟩ v).cell? ⟨b, o + i, none⟩ = some u := fun w i j v u hij hu => (World.cell?_setCell_other _ _ _ _ (ne_off (by omega))).trans hu
  have h0 : ∀ j, j < 5 → ∃ u, w.cell? ⟨b, o + j, none⟩ = some u := h
  have h1 := e w 0 (.int .i64 x.kind) h0
  have h2 := e _ 1 (.string x.text) h1
  have h3 := e _ 2 (.int .i64 x.pos) h2
  have h4 := e _ 3 (.int .i64 x.fin) h3
  have g0 := g w 0 (.int .i64 x.kind) (h0 0 (by omega))
  have g1 := g _ 1 (.string x.text) (h1 1 (by omega))
  have g2 := g _ 2 (.int .i64 x.pos) (h2 2 (by omega))
  have g3 := g _ 3 (.int .i64 x.fin) (h3 3 (by omega))
  have g4 := g _ 4 (.slice X x.kids.length c) (h4 4 (by omega))
  exact ⟨n _ 0 4 _ _ (by omega) (n _ 0 3 _ _ (by omega) (n _ 0 2 _ _ (by omega) (n _ 0 1 _ _ (by omega) g0))), n _ 1 4 _ _ (by omega) (n _ 1 3 _ _ (by omega) (n _ 1 2 _ _ (by omega) g1)), n _ 2 4 _ _ (by omega) (n _ 2 3 _ _ (by omega) g2), n _ 3 4 _ _ (by omega) g3, g4⟩
theorem heap_set (w : World) (a : Addr) (v : Value) (k : Nat) (h : k ≠ a.block) : (w.setCell a v).heap[k]? = w.heap[k]? := Below.heap_setCell w a v k h
theorem set5_block (w : World) (b o : Nat) (x : Nd) (X : Option Addr) (c : Nat) (k : Nat) (h : k ≠ b) : (set5 w b o x X c).heap[k]? = w.heap[k]? := by
  unfold set5
  rw [heap_set _ _ _ _ h, heap_set _ _ _ _ h, heap_set _ _ _ _ h, heap_set _ _ _ _ h, heap_set _ _ _ _ h]
theorem set5_cell {w : World} {b o : Nat} {x : Nd} {X : Option Addr} {c : Nat} (j : Nat) (h : j < o ∨ o + 5 ≤ j) : (set5 w b o x X c).cell? ⟨b, j, none⟩ = w.cell? ⟨b, j, none⟩ := by
  unfold set5
  rw [World.cell?_setCell_other _ _ _ _ (ne_off (by omega)), World.cell?_setCell_other _ _ _ _ (ne_off (by omega)), World.cell?_setCell_other _ _ _ _ (ne_off (by omega)), World.cell?_setCell_other _ _ _ _ (ne_off (by omega)), World.cell?_setCell_other _ _ _ _ (ne_off (by omega))]
theorem set5_far {w : World} {b o p : Nat} {x y : Nd} {X Y : Option Addr} {c d : Nat} (h : At5 w b p y Y d) (hp : p + 5 ≤ o ∨ o + 5 ≤ p) : At5 (set5 w b o x X c) b p y Y d :=
  At5.of_cells fun j hj => (set5_cell (p + j) (by omega)).trans (h.cell j hj)
theorem set5_frozen (w : World) (b o : Nat) (x : Nd) (X : Option Addr) (c : Nat) (a : Addr) : (set5 w b o x X c).frozen? a = w.frozen? a := by
  unfold set5
  simp only [World.frozen?_setCell]
theorem set5_size (w : World) (b o : Nat) (x : Nd) (X : Option Addr) (c : Nat) : (set5 w b o x X c).heap.size = w.heap.size := by
  unfold set5
  simp [World.setCell]
theorem set5_below {B : Nat} {a w : World} (h : Below B a w) (b o : Nat) (x : Nd) (X : Option Addr) (c : Nat) (hb : B ≤ b) : Below B a (set5 w b o x X c) := by
  unfold set5
  exact ((((h.setCell (p := ⟨b, o, none⟩) hb _).setCell (p := ⟨b, o + 1, none⟩) hb _).setCell (p := ⟨b, o + 2, none⟩) hb _).setCell (p := ⟨b, o + 3, none⟩) hb _).setCell (p := ⟨b, o + 4, none⟩) hb _
theorem At5.some5 {w : World} {b o : Nat} {t : Nd} {A : Option Addr} {c : Nat} (h : At5 w b o t A c) : ∀ j, j < 5 → ∃ u, w.cell? ⟨b, o + j, none⟩ = some u := by
  intro j hj
  rw [h.cell j hj]
  exact ⟨(cells5 t A c)[j], List.getElem?_eq_getElem (by simpa [cells5] using hj)⟩
end Go.Proofs.Ytjijfgkmjachnaa

namespace Go.Proofs.Ytjijfgkmjachnaa
set_option linter.unusedVariables false
set_option linter.unusedSimpArgs false
open Go.RowKit
attribute [local go_sem ↓] Go.wp_at_zero Go.wp_at_succ

theorem inf24 : (Try.prog.info? 24).map (fun i => (i.zero, i.size, i.bytes)) = some (some (.agg #[.int .i64 0, .string ByteArray.empty, .int .i64 0, .int .i64 0, .slice none 0 0]), 5, 64) := by kernel_rfl


set_option maxRecDepth 100000 in
set_option maxHeartbeats 4000000 in
theorem replace0 (t u : Nd) (A U : Option Addr) (cA cU : Nat) (w : World) (h : Nat) (hh : h ≤ w.heap.size) (hA : RNS w (· < h) t A cA) (hU : RNS w (· < h) u U cU) :
    Calls Try.prog 22 #[t.val A cA, .int .i64 0, u.val U cU] w fun e w' => (∃ x old X O cX cO, e = .returned (.tuple #[x.val X cX, old.val O cO]) ∧ Rep u t x old ∧ RNS w' (fun b => b < h ∨ w.heap.size ≤ b) x X cX ∧ RNS w' (fun b => b < h ∨ w.heap.size ≤ b) old O cO) ∧ Below w.heap.size w w' := by
  unfold Nd.val
  go_enter Try.func22, Try.ntmps22
  go_wp2_with fail
  go_region
  go_wp2_with fail
  refine bodyPost_ret (v := .tuple #[u.val U cU, t.val A cA]) (by simp [results, Try.results22, go_sem, Nd.val]) rfl ⟨⟨u, t, U, A, cU, cA, rfl, .here t, ?_, ?_⟩, ?_⟩
  · exact (hU.belowK (((((Below.refl _ _).alloc (Nat.le_refl _) _).alloc (by simp) _).alloc (by simp; omega) _).alloc (by simp; omega) _).drew).mono fun b hb => .inl hb
  · exact (hA.belowK (((((Below.refl _ _).alloc (Nat.le_refl _) _).alloc (by simp) _).alloc (by simp; omega) _).alloc (by simp; omega) _).drew).mono fun b hb => .inl hb
  · exact (((((Below.refl _ _).alloc (Nat.le_refl _) _).alloc (by simp) _).alloc (by simp; omega) _).alloc (by simp; omega) _).drew

set_option maxRecDepth 100000 in
set_option maxHeartbeats 4000000 in
theorem replaceW (n : Nat) : ∀ (t : Nd) (k : Nat) (u : Nd) (A U : Option Addr) (cA cU : Nat) (w : World) (h : Nat), t.size ≤ n → h ≤ w.heap.size → RNS w (· < h) t A cA → RNS w (· < h) u U cU → k < t.size → t.size ≤ 1000000 →
    Calls Try.prog 22 #[t.val A cA, .int .i64 (k : Nat), u.val U cU] w fun e w' => (∃ x old X O cX cO, e = .returned (.tuple #[x.val X cX, old.val O cO]) ∧ Rep u t x old ∧ RNS w' (fun b => b < h ∨ w.heap.size ≤ b) x X cX ∧ RNS w' (fun b => b < h ∨ w.heap.size ≤ b) old O cO) ∧ Below w.heap.size w w' := by
  induction n with
  | zero => intro t k u A U cA cU w h hn; have := t.size_pos; omega
  | succ n ih =>
    intro t k u A U cA cU w h hn hh hA hU hk hs
    by_cases h0 : k = 0
    · subst h0
      exact replace0 t u A U cA cU w h hh hA hU
    have IH := Lib.hid ih
    clear ih
    have hts := t.size_eq
    have hkn : t.kids ≠ [] := by intro e; rw [e, Nd.sizes_nil] at hts; omega
    have hkl : 0 < t.kids.length := List.length_pos_iff.2 hkn
    have hll : t.kids.length ≤ 1000000 := by
      have : ∀ l : List Nd, l.length ≤ Nd.sizes l := by
        intro l
        induction l with
        | nil => simp
        | cons a l ih => rw [Nd.sizes_cons, List.length_cons]; have := a.size_pos; omega
      have := this t.kids
      omega
    obtain ⟨b, o, As, cs, rfl, hbh, hcl, _, hcell, hsub⟩ := hA.get hkn
    have hk0 : (((k : Nat) : Int) == 0) = false := by rw [beq_eq_false_iff_ne]; omega
    have hk1 : (1 : Int) ≤ (k : Nat) := by omega
    obtain ⟨i24, hi24, hz0, hz1, hz2⟩ := info_parts inf24
    unfold Nd.val
    have HB5 := Lib.hid (((((Below.refl w.heap.size w).alloc (Nat.le_refl _) (.cells #[.int .i64 t.kind, .string t.text, .int .i64 t.pos, .int .i64 t.fin, .slice (some ⟨b, o, none⟩) t.kids.length cA] 24)).alloc (by simp) (.cells #[.int .i64 u.kind, .string u.text, .int .i64 u.pos, .int .i64 u.fin, .slice U u.kids.length cU] 24)).alloc (by simp; omega) (.cells #[.int .i64 0, .string ⟨#[]⟩, .int .i64 0, .int .i64 0, .slice none 0 0] 24)).alloc (by simp; omega) (.cells #[.int .i64 0, .string ⟨#[]⟩, .int .i64 0, .int .i64 0, .slice none 0 0] 24))
    have HCL := Lib.hid hcell
    clear hcell
    go_enter Try.func22, Try.ntmps22
    go_wp2_with (at_builtin; refine wpList_append_lies _ rfl _ _ 22 rfl w.heap.size 24 i24 _ 5 64 Try.underlying22 hi24 hz0 hz1 hz2 rfl (by decide) (.slice (some ⟨w.heap.size + 1 + 1 + 1 + 1, 0, none⟩) 0 0) 0 [] (by rfl) ?hown ⟨b, o, none⟩ t.kids.length cA (cellsL t.kids As cs) (by rfl) (cellsL_len _ _ _) ?hnews (cellsL_one _ _ _) hkl ?h63 ?hby ?hbase (w.heap.size + 1 + 1 + 1 + 1 + 1) ?hH ?_)
    case h63 => unfold maxLen; omega
    case hby => omega
    case hbase => omega
    case hown => 
      have := World.ownsRow_made (base := w.heap.size) (e := 24) (size := 5) ((((w.alloc (.cells #[.int .i64 t.kind, .string t.text, .int .i64 t.pos, .int .i64 t.fin, .slice (some ⟨b, o, none⟩) t.kids.length cA] 24)).alloc (.cells #[.int .i64 u.kind, .string u.text, .int .i64 u.pos, .int .i64 u.fin, .slice U u.kids.length cU] 24)).alloc (.cells #[.int .i64 0, .string ⟨#[]⟩, .int .i64 0, .int .i64 0, .slice none 0 0] 24)).alloc (.cells #[.int .i64 0, .string ⟨#[]⟩, .int .i64 0, .int .i64 0, .slice none 0 0] 24)) #[] 0 (by simp; omega) (by simp [maxLen]) rfl
      simpa using this
    case hnews =>
      refine news_nodes fun i hi => ?_
      exact (HCL.out i hi).keep (HB5.out.alloc (by simp; omega) (.cells #[] 24)) ((HCL.out i hi).lt)
    intro g cap w1 hown1 hgrow hgl hglt
    obtain ⟨w5, hw5⟩ : ∃ w5, (((((w.alloc (.cells #[.int .i64 t.kind, .string t.text, .int .i64 t.pos, .int .i64 t.fin, .slice (some ⟨b, o, none⟩) t.kids.length cA] 24)).alloc (.cells #[.int .i64 u.kind, .string u.text, .int .i64 u.pos, .int .i64 u.fin, .slice U u.kids.length cU] 24)).alloc (.cells #[.int .i64 0, .string ⟨#[]⟩, .int .i64 0, .int .i64 0, .slice none 0 0] 24)).alloc (.cells #[.int .i64 0, .string ⟨#[]⟩, .int .i64 0, .int .i64 0, .slice none 0 0] 24)).alloc (.cells #[] 24)) = w5 := ⟨_, rfl⟩
    rw [hw5] at hgrow
    obtain ⟨q0, q1, q2, q3, hs5, hb5⟩ := heap5a w _ _ _ _ _ w5 hw5
    have hg5 : w.heap.size + 4 ≤ g ∧ g < w1.heap.size := by
      refine ⟨?_, hglt⟩
      rcases hgl with hgl | hgl
      · have : w.heap.size + 1 + 1 + 1 + 1 = g := by simpa [Value.ownBlock] using hgl
        omega
      · omega
    have hb1 : Below w.heap.size w w1 := hb5.grown hgrow (by omega) (fun k hk => by simp [Value.ownBlock] at hk; omega)
    have hbk : ∀ p, p < w.heap.size + 4 → w1.heap[p]? = w5.heap[p]? := fun p hp => hgrow.block p (by omega) (by simp [Value.ownBlock]; omega)
    have e0 := (hbk w.heap.size (by omega)).trans q0
    have e1 := (hbk (w.heap.size + 1) (by omega)).trans q1
    have e2 := (hbk (w.heap.size + 1 + 1) (by omega)).trans q2
    have e3 := (hbk (w.heap.size + 1 + 1 + 1) (by omega)).trans q3
    have a0 := At5.of (t := t) (A := some ⟨b, o, none⟩) (c := cA) e0
    have a1 := At5.of (t := u) (A := U) (c := cU) e1
    have rows := own_nodes hown1
    have rfz := hown1.frozenAt
    have H1 := Lib.hid (And.intro a0 (And.intro a1 (And.intro rows (And.intro rfz (And.intro e0 (And.intro e2 e3))))))
    have HB1 := Lib.hid hb1
    have HG := Lib.hid hg5
    have HCAP := Lib.hid (show t.kids.length ≤ cap from by rcases hown1.2 with ⟨h, _⟩ | ⟨_, _, _, h, _, _, hn, _⟩; cases h; injection h with _ _ h3; omega)
    obtain ⟨c0, c1, c2, c3, c4⟩ := a0
    clear hgl hgrow hw5 q0 q1 q2 q3 hs5 hb5 hbk e0 e1 e2 e3 a1 rows rfz hb1 hown1 hg5 HB5 hglt
    go_wp2_with fail
    obtain ⟨w2, hw2⟩ : ∃ w2, w1.alloc (.cells #[.int .i64 t.kind, .string t.text, .int .i64 t.pos, .int .i64 t.fin, .slice (some ⟨b, o, none⟩) t.kids.length cA] 24) = w2 := ⟨_, rfl⟩
    rw [hw2]
    have hb12 : Below w1.heap.size w1 w2 := by rw [← hw2]; exact (Below.refl _ _).alloc (Nat.le_refl _) _
    have hsz2 : w2.heap.size = w1.heap.size + 1 := by rw [← hw2]; simp
    have e9 : w2.heap[w1.heap.size]? = some (.cells (cells5 t (some ⟨b, o, none⟩) cA).toArray 24 (0, 0)) := by rw [← hw2]; exact heap_alloc_new _ _
    have HB2 := Lib.hid (HB1.out.trans (hb12.mono HB1.out.size))
    have hw1s : w.heap.size + 4 < w1.heap.size := by have := HG.out; omega
    have HF := Lib.hid (show ∀ W, Below w2.heap.size w2 W → (At5 W w.heap.size 0 t (some ⟨b, o, none⟩) cA ∧ At5 W (w.heap.size + 1) 0 u U cU ∧ (∀ i (hi : i < t.kids.length), At5 W g (i * 5) t.kids[i] (As i) (cs i)) ∧ (∀ j, W.frozen? ⟨g, j, none⟩ = false) ∧
        W.heap[w.heap.size]? = some (.cells (cells5 t (some ⟨b, o, none⟩) cA).toArray 24 (0, 0)) ∧ W.heap[w.heap.size + 1 + 1]? = some (.cells #[.int .i64 0, .string ⟨#[]⟩, .int .i64 0, .int .i64 0, .slice none 0 0] 24 (0, 0)) ∧ W.heap[w.heap.size + 1 + 1 + 1]? = some (.cells #[.int .i64 0, .string ⟨#[]⟩, .int .i64 0, .int .i64 0, .slice none 0 0] 24 (0, 0)) ∧
        W.heap[w1.heap.size]? = some (.cells (cells5 t (some ⟨b, o, none⟩) cA).toArray 24 (0, 0))) from fun W hW => by
      obtain ⟨a0, a1, rows, rfz, e0, e2, e3⟩ := H1.out
      have hk : ∀ p, p < w1.heap.size → W.heap[p]? = w1.heap[p]? := fun p hp => (hW.block p (by omega)).trans (hb12.block p hp)
      have hg := HG.out
      exact ⟨a0.of_block (hk _ (by omega)), a1.of_block (hk _ (by omega)), fun i hi => (rows i hi).of_block (hk _ (by omega)), fun j => (World.frozen?_of_block (a := ⟨g, j, none⟩) (hk _ (by show g < _; omega))).trans (rfz j), (hk _ (by omega)).trans e0, (hk _ (by omega)).trans e2, (hk _ (by omega)).trans e3, (hW.block _ (by omega)).trans e9⟩)
    clear c0 c1 c2 c3 c4 hw2 e9 H1 HB1
    have HSB := Lib.hid hsub
    have HTS := Lib.hid hts
    clear hsub hts
    go_loopw [1, 26] (fun v c wr => ∃ j m : Nat, c = .int .i64 j ∧ v = .int .i64 m ∧ j ≤ t.kids.length ∧ Hid (Nd.sizes (t.kids.take j) + m + 1 = k) ∧ Hid (Below w2.heap.size w2 wr)) (fun _ c _ => t.kids.length - (intOf c).toNat)
    case atStart => exact ⟨0, k - 1, rfl, by rw [show (((k - 1 : Nat)) : Int) = (k : Int) - 1 by omega], by omega, by apply Lib.hid; simp [Nd.sizes_nil]; omega, Lib.hid (Below.refl _ _)⟩
    case round =>
      obtain ⟨j, m, rfl, rfl, hj, HS, HW⟩ := hrel
      by_cases hjl : j < t.kids.length
      · have hts1 := sizes_take_succ t.kids j hjl
        have hrow := (HF.out wr HW.out).2.2.1 j hjl
        have hsb := HSB.out j hjl
        have hxs : t.kids[j].size ≤ n := by have := Nd.size_get t j hjl; omega
        have hxm : t.kids[j].size ≤ 1000000 := by have := Nd.size_get t j hjl; omega
        obtain ⟨x, hx⟩ : ∃ x, t.kids[j] = x := ⟨_, rfl⟩
        rw [hx] at hrow hsb hxs hxm hts1
        obtain ⟨r0, r1, r2, r3, r4⟩ := hrow
        have HX := Lib.hid hx
        have HT1 := Lib.hid hts1
        have HXB := Lib.hid hsb
        have hbw : Below w.heap.size w wr := HB2.out.trans (HW.out.mono HB2.out.size)
        have HBW := Lib.hid hbw
        have hm0 : m ≤ 1000000 := by have := HS.out; omega
        clear hts1 hsb hx hbw
        go_wp2_with fail
        refine (refCount x.size x (As j) (cs j) _ (Nat.le_refl _) ((HXB.out.belowK HBW.out).rn.keep ((Below.refl _ _).alloc (Nat.le_refl _) _)) (by omega)).mono ?_
        rintro e w3 ⟨rfl, hb3⟩
        have hb3' : Below w2.heap.size w2 w3 := HW.out.trans (((Below.refl wr.heap.size wr).alloc (Nat.le_refl _) _ |>.trans (hb3.mono (by simp))).mono HW.out.size)
        have hxc : At5 w3 wr.heap.size 0 x (As j) (cs j) := (At5.of (heap_alloc_new wr _)).keep hb3 (by simp)
        have HW3 := Lib.hid hb3'
        have HBW3 := Lib.hid (HB2.out.trans (hb3'.mono HB2.out.size))
        obtain ⟨_, ⟨b0, b1, b2, b3, b4⟩, _⟩ := HF.out w3 hb3'
        obtain ⟨x0, x1, x2, x3, x4⟩ := hxc
        clear hb3 hb3' r0 r1 r2 r3 r4
        by_cases hm : m < x.size
        · go_wp2_with fail
          refine (IH.out x m u (As j) U (cs j) cU w3 h hxs (Nat.le_trans hh HBW3.out.size) (HXB.out.belowK HBW3.out) (hU.belowK HBW3.out) hm hxm).mono ?_
          rintro e w4 ⟨⟨y, old, Y, O, cY, cO, rfl, hrep, hy, ho⟩, hb4⟩
          have hb4' := trans_bB HW3.out hb4
          obtain ⟨⟨a0, a1, a2, a3, a4⟩, _, rows, rfz, e0, e2, e3, e9⟩ := HF.out w4 hb4'
          obtain ⟨r0, r1, r2, r3, r4⟩ := rows j hjl
          have z9 := At5.of e9
          obtain ⟨z0, z1, z2, z3, z4⟩ := z9
          have f9 : ∀ j, w4.frozen? ⟨w1.heap.size, j, none⟩ = false := fun j => by simp [World.frozen?, e9]
          have f0 : ∀ j, w4.frozen? ⟨w.heap.size, j, none⟩ = false := fun j => by simp [World.frozen?, e0]
          have hg := HG.out
          unfold Nd.val
          go_wp2_with fail
          obtain ⟨V, hV⟩ : ∃ V, (set5 (set5 w4 g (j * 5) y Y cY) w1.heap.size 0 old O cO).setCell ⟨w.heap.size, 4, none⟩ (.slice (some ⟨g, 0, none⟩) t.kids.length cap) = V := ⟨_, rfl⟩
          have hbV : Below w.heap.size w V := by
            rw [← hV]
            exact (set5_below (set5_below (HB2.out.trans (hb4'.mono HB2.out.size)) _ _ _ _ _ (by omega)) _ _ _ _ _ (by omega)).setCell (p := ⟨w.heap.size, 4, none⟩) (Nat.le_refl _) _
          have hVk : ∀ p, p ≠ g → p ≠ w1.heap.size → p ≠ w.heap.size → V.heap[p]? = w4.heap[p]? := fun p h1 h2 h3 => by
            rw [← hV, heap_set _ _ _ _ h3, set5_block _ _ _ _ _ _ _ h2, set5_block _ _ _ _ _ _ _ h1]
          have vr : ∀ i (hi : i < t.kids.length), At5 V g (i * 5) (if i = j then y else t.kids[i]) (if i = j then Y else As i) (if i = j then cY else cs i) := fun i hi => by
            have hb : V.heap[g]? = (set5 w4 g (j * 5) y Y cY).heap[g]? := by rw [← hV, heap_set _ _ _ _ (by show g ≠ w.heap.size; omega), set5_block _ _ _ _ _ _ _ (by omega)]
            refine At5.of_block ?_ hb
            by_cases hij : i = j
            · subst hij
              simp only [if_true]
              exact set5_at (rows i hi).some5
            · simp only [hij, if_false]
              exact set5_far (rows i hi) (by omega)
          have vz : At5 V w1.heap.size 0 old O cO := by
            have hb : V.heap[w1.heap.size]? = (set5 (set5 w4 g (j * 5) y Y cY) w1.heap.size 0 old O cO).heap[w1.heap.size]? := by rw [← hV, heap_set _ _ _ _ (by show w1.heap.size ≠ w.heap.size; omega)]
            exact (set5_at ((At5.of e9).of_block (set5_block _ _ _ _ _ _ _ (by omega))).some5).of_block hb
          have vt : At5 V w.heap.size 0 (t.setKids (t.kids.set j y)) (some ⟨g, 0, none⟩) cap := by
            have e00 : (set5 (set5 w4 g (j * 5) y Y cY) w1.heap.size 0 old O cO).heap[w.heap.size]? = w4.heap[w.heap.size]? := by rw [set5_block _ _ _ _ _ _ _ (by omega), set5_block _ _ _ _ _ _ _ (by omega)]
            obtain ⟨u0, u1, u2, u3, u4⟩ := (At5.of e0).of_block e00
            rw [← hV]
            refine ⟨(World.cell?_setCell_other _ _ _ _ (ne_off (by omega))).trans u0, (World.cell?_setCell_other _ _ _ _ (ne_off (by omega))).trans u1, (World.cell?_setCell_other _ _ _ _ (ne_off (by omega))).trans u2, (World.cell?_setCell_other _ _ _ _ (ne_off (by omega))).trans u3, ?_⟩
            rw [World.cell?_setCell_same' _ _ _ (by rw [u4]; rfl)]
            simp [Nd.setKids, Nd.kids]
          have v2 := (hVk (w.heap.size + 1 + 1) (by omega) (by omega) (by omega)).trans e2
          have v3 := (hVk (w.heap.size + 1 + 1 + 1) (by omega) (by omega) (by omega)).trans e3
          have vx : RNS V (fun b => b < h ∨ w3.heap.size ≤ b) y Y cY := hy.keep fun p hp hlt => by
            have := HBW3.out.size
            have hsw : w2.heap.size ≤ w3.heap.size := HW3.out.size
            exact hVk p (by omega) (by omega) (by omega)
          have vo : RNS V (fun b => b < h ∨ w3.heap.size ≤ b) old O cO := ho.keep fun p hp hlt => by
            have hsw : w2.heap.size ≤ w3.heap.size := HW3.out.size
            exact hVk p (by omega) (by omega) (by omega)
          have vs : ∀ i (hi : i < t.kids.length), RNS V (fun b => b < h) t.kids[i] (As i) (cs i) := fun i hi => (HSB.out i hi).keep fun p hp hlt => by
            have : p < w.heap.size := by omega
            exact hbV.block p this
          unfold set5 at hV
          simp only [Nat.zero_add] at hV
          rw [hV]
          obtain ⟨T, hT⟩ : ∃ T, t.setKids (t.kids.set j y) = T := ⟨_, rfl⟩
          have hrT : Rep u t T old := by
            rw [← hT]
            refine .kid t y old j hjl ?_
            rw [HX.out]
            exact hrep
          have rnT : RNS V (fun b => b < h ∨ b = g ∨ w3.heap.size ≤ b) T (some ⟨g, 0, none⟩) cap := by
            have hl : T.kids.length = t.kids.length := by rw [← hT]; simp [setKids_kids]
            have hget : ∀ i (hi : i < T.kids.length), T.kids[i] = if i = j then y else t.kids[i]'(by omega) := fun i hi => by
              subst hT
              simp only [setKids_kids, List.getElem_set]
              by_cases hij : i = j
              · subst hij; simp
              · rw [if_neg (Ne.symm hij), if_neg hij]
            have hsw : w.heap.size ≤ w3.heap.size := HBW3.out.size
            refine .mk T g 0 cap (fun i => if i = j then Y else As i) (fun i => if i = j then cY else cs i) (.inr (.inl rfl)) (by rw [hl]; exact HCAP.out) (by omega) (fun i hi => ?_) (fun i hi => ?_)
            · have := vr i (by omega)
              rw [hget i hi, Nat.zero_add]
              exact this
            · rw [hget i hi]
              by_cases hij : i = j
              · simp only [hij, if_true]
                exact vx.mono fun p hp => by omega
              · simp only [hij, if_false]
                exact (vs i (by omega)).mono fun p hp => .inl hp
          have rno : RNS V (fun b => b < h ∨ b = g ∨ w3.heap.size ≤ b) old O cO := vo.mono fun p hp => by omega
          have RT := Lib.hid (And.intro hrT (And.intro rnT (And.intro rno hbV)))
          rw [hT] at vt
          obtain ⟨t0, t1, t2, t3, t4⟩ := vt
          obtain ⟨y0, y1, y2, y3, y4⟩ := vz
          have s2 := At5.of (t := Nd.mk 0 ⟨#[]⟩ 0 0 []) (A := none) (c := 0) v2
          have s3 := At5.of (t := Nd.mk 0 ⟨#[]⟩ 0 0 []) (A := none) (c := 0) v3
          have f2 : ∀ j, V.frozen? ⟨w.heap.size + 1 + 1, j, none⟩ = false := fun j => by simp [World.frozen?, v2]
          have f3 : ∀ j, V.frozen? ⟨w.heap.size + 1 + 1 + 1, j, none⟩ = false := fun j => by simp [World.frozen?, v3]
          have n1 : w1.heap.size ≠ w.heap.size + 1 + 1 := by omega
          have n2 : w1.heap.size ≠ w.heap.size + 1 + 1 + 1 := by omega
          clear hrT rnT rno hbV hVk vr vx vo vs v2 v3 hV hT e0 e2 e3 e9 f9 f0 r0 r1 r2 r3 r4 z0 z1 z2 z3 z4 rows rfz a0 a1 a2 a3 a4 hy ho hrep hb4 hb4' b0 b1 b2 b3 b4 x0 x1 x2 x3 x4
          have HS2 := Lib.hid s2
          have HS3 := Lib.hid s3
          obtain ⟨p0, p1, p2, p3, p4⟩ := s2
          obtain ⟨q0, q1, q2, q3, q4⟩ := s3
          go_region
          obtain ⟨V2, hV2⟩ : ∃ V2, set5 (set5 V (w.heap.size + 1 + 1) 0 T (some ⟨g, 0, none⟩) cap) (w.heap.size + 1 + 1 + 1) 0 old O cO = V2 := ⟨_, rfl⟩
          obtain ⟨hrT, rnT, rno, hbV⟩ := RT.out
          have k2 : At5 V2 (w.heap.size + 1 + 1) 0 T (some ⟨g, 0, none⟩) cap := by
            rw [← hV2]
            exact (set5_at HS2.out.some5).of_block (set5_block _ _ _ _ _ _ _ (by omega))
          have k3 : At5 V2 (w.heap.size + 1 + 1 + 1) 0 old O cO := by
            rw [← hV2]
            exact set5_at (HS3.out.of_block (set5_block _ _ _ _ _ _ _ (by omega))).some5
          have hk2 : ∀ p, p ≠ w.heap.size + 1 + 1 → p ≠ w.heap.size + 1 + 1 + 1 → V2.heap[p]? = V.heap[p]? := fun p h1 h2 => by
            rw [← hV2, set5_block _ _ _ _ _ _ _ h2, set5_block _ _ _ _ _ _ _ h1]
          have hb2 : Below w.heap.size w V2 := by rw [← hV2]; exact set5_below (set5_below hbV _ _ _ _ _ (by omega)) _ _ _ _ _ (by omega)
          have k6 : RNS V2 (fun b => b < h ∨ w.heap.size ≤ b) T (some ⟨g, 0, none⟩) cap := by
            have hsw : w2.heap.size ≤ w3.heap.size := HW3.out.size
            exact (rnT.keep fun p hp hlt => hk2 p (by omega) (by omega)).mono fun p hp => by omega
          have k7 : RNS V2 (fun b => b < h ∨ w.heap.size ≤ b) old O cO := by
            have hsw : w2.heap.size ≤ w3.heap.size := HW3.out.size
            exact (rno.keep fun p hp hlt => hk2 p (by omega) (by omega)).mono fun p hp => by omega
          unfold set5 at hV2
          simp only [Nat.zero_add] at hV2
          rw [hV2]
          obtain ⟨a0, a1, a2, a3, a4⟩ := k2
          obtain ⟨b0, b1, b2, b3, b4⟩ := k3
          go_wp2_with fail
          refine bodyPost_ret (v := .tuple #[T.val (some ⟨g, 0, none⟩) cap, old.val O cO]) (by simp [results, Try.results22, go_sem, a0, a1, a2, a3, a4, b0, b1, b2, b3, b4, Nd.val]) rfl ⟨⟨T, old, _, O, cap, cO, rfl, hrT, RNS.keep (w := V2) (w1 := V2.drew) (fun _ _ _ => rfl) k6, RNS.keep (w := V2) (w1 := V2.drew) (fun _ _ _ => rfl) k7⟩, hb2.drew⟩
        · have hs1 := HS.out
          have ht1 := HT1.out
          have HL := Lib.hid (show Nd.sizes (t.kids.take (j + 1)) + (m - x.size) + 1 = k by omega)
          have hc : ((m - x.size : Nat) : Int) = (m : Int) - x.size := by omega
          clear hs1 ht1
          have HC := Lib.hid hc
          clear hc
          go_wp2_with fail
          go_roundw
          case rel => exact ⟨j + 1, m - x.size, by go_num, by rw [HC.out], hjl, HL, HW3⟩
          case measure => simp [intOf]; omega
      · exfalso
        obtain rfl : j = t.kids.length := by omega
        have h1 := HS.out
        have h2 := HTS.out
        rw [List.take_length] at h1
        omega
end Go.Proofs.Ytjijfgkmjachnaa
