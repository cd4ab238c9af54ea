/- Plain: the distance is the least cost of a mapping of preorder lists. -/
import Derived.Test.YtjijfgkmjachnaaT64
namespace Go.Proofs.Ytjijfgkmjachnaa
set_option linter.unusedVariables false
set_option linter.unusedSimpArgs false

theorem fl_del (t : Nd) (F G : List Nd) : fl (t :: F) G ≤ fl (t.kids ++ F) G + 1 := by
  cases G with
  | nil => rw [fl_nil_right, fl_nil_right, Nd.sizes_cons, Nd.sizes_append, t.size_eq]; omega
  | cons u G => rw [fl_cc]; omega
theorem fl_ins (u : Nd) (F G : List Nd) : fl F (u :: G) ≤ fl F (u.kids ++ G) + 1 := by
  cases F with
  | nil => rw [fl_nil_left, fl_nil_left, Nd.sizes_cons, Nd.sizes_append, u.size_eq]; omega
  | cons t F => rw [fl_cc]; omega
theorem fl_pair (t u : Nd) (F G : List Nd) : fl (t :: F) (u :: G) ≤ fl t.kids u.kids + fl F G + cost t u := by rw [fl_cc]; omega

/-- The nodes in preorder, each with the number behind the last node of its subtree. -/
def preL : Nat → List Nd → Nat → List (Nd × Nat)
  | 0, _, _ => []
  | _ + 1, [], _ => []
  | n + 1, t :: F, p => (t, p + t.size) :: preL n (t.kids ++ F) (p + 1)
theorem preL_stable (n : Nat) : ∀ (m : Nat) (F : List Nd) (p : Nat), Nd.sizes F ≤ n → Nd.sizes F ≤ m → preL n F p = preL m F p := by
  induction n with
  | zero =>
    intro m F p h _
    cases F with
    | cons t F => rw [Nd.sizes_cons] at h; have := t.size_pos; omega
    | nil => cases m <;> rfl
  | succ n ih =>
    intro m F p h h2
    cases F with
    | nil => cases m <;> rfl
    | cons t F =>
      have ht := t.size_eq
      rw [Nd.sizes_cons] at h h2
      cases m with
      | zero => omega
      | succ m =>
        simp only [preL]
        rw [ih m (t.kids ++ F) (p + 1) (by rw [Nd.sizes_append]; omega) (by rw [Nd.sizes_append]; omega)]
def pre (F : List Nd) (p : Nat) : List (Nd × Nat) := preL (Nd.sizes F) F p
theorem pre_nil (p : Nat) : pre [] p = [] := rfl
theorem pre_cons (t : Nd) (F : List Nd) (p : Nat) : pre (t :: F) p = (t, p + t.size) :: pre (t.kids ++ F) (p + 1) := by
  have ht := t.size_eq
  unfold pre
  rw [Nd.sizes_cons, show t.size + Nd.sizes F = Nd.sizes (t.kids ++ F) + 1 by rw [Nd.sizes_append]; omega]
  rfl
theorem pre_len_n (n : Nat) : ∀ (F : List Nd) (p : Nat), Nd.sizes F ≤ n → (pre F p).length = Nd.sizes F := by
  induction n with
  | zero => intro F p h; cases F with
    | nil => rfl
    | cons t F => rw [Nd.sizes_cons] at h; have := t.size_pos; omega
  | succ n ih => intro F p h; cases F with
    | nil => rfl
    | cons t F =>
      have ht := t.size_eq
      rw [Nd.sizes_cons] at h
      rw [pre_cons, List.length_cons, ih _ _ (by rw [Nd.sizes_append]; omega), Nd.sizes_append, Nd.sizes_cons]
      omega
theorem pre_len (F : List Nd) (p : Nat) : (pre F p).length = Nd.sizes F := pre_len_n _ F p (Nat.le_refl _)
theorem pre_app_n (n : Nat) : ∀ (F G : List Nd) (p : Nat), Nd.sizes F ≤ n → pre (F ++ G) p = pre F p ++ pre G (p + Nd.sizes F) := by
  induction n with
  | zero => intro F G p h; cases F with
    | nil => rw [pre_nil, Nd.sizes_nil]; rfl
    | cons t F => rw [Nd.sizes_cons] at h; have := t.size_pos; omega
  | succ n ih => intro F G p h; cases F with
    | nil => rw [pre_nil, Nd.sizes_nil]; rfl
    | cons t F =>
      have ht := t.size_eq
      rw [Nd.sizes_cons] at h
      rw [List.cons_append, pre_cons, pre_cons, ← List.append_assoc, ih (t.kids ++ F) G (p + 1) (by rw [Nd.sizes_append]; omega), List.cons_append, Nd.sizes_append, Nd.sizes_cons]
      congr 3
      omega
theorem pre_app (F G : List Nd) (p : Nat) : pre (F ++ G) p = pre F p ++ pre G (p + Nd.sizes F) := pre_app_n _ F G p (Nat.le_refl _)
abbrev dP : Nd × Nat := (.mk 0 ByteArray.empty 0 0 [], 0)
def la (A : List (Nd × Nat)) (i : Nat) : Nat := (A.getD i dP).2
theorem la_cons (a : Nd × Nat) (A : List (Nd × Nat)) (i : Nat) : la (a :: A) (i + 1) = la A i := by simp [la]
theorem la_left (A B : List (Nd × Nat)) (i : Nat) (h : i < A.length) : la (A ++ B) i = la A i := by unfold la; rw [getD_left _ _ _ _ h]
theorem la_right (A B : List (Nd × Nat)) (i : Nat) (h : A.length ≤ i) : la (A ++ B) i = la B (i - A.length) := by unfold la; rw [getD_right _ _ _ _ h]
theorem la_le_n (n : Nat) : ∀ (F : List Nd) (p i : Nat), Nd.sizes F ≤ n → i < Nd.sizes F → la (pre F p) i ≤ p + Nd.sizes F := by
  induction n with
  | zero => intro F p i h hi; omega
  | succ n ih => intro F p i h hi; cases F with
    | nil => rw [Nd.sizes_nil] at hi; omega
    | cons t F =>
      have ht := t.size_eq
      rw [Nd.sizes_cons] at h hi ⊢
      rw [pre_cons]
      cases i with
      | zero => simp [la]
      | succ i =>
        rw [la_cons]
        have := ih (t.kids ++ F) (p + 1) i (by rw [Nd.sizes_append]; omega) (by rw [Nd.sizes_append]; omega)
        rw [Nd.sizes_append] at this
        omega
theorem la_le (F : List Nd) (p i : Nat) (hi : i < Nd.sizes F) : la (pre F p) i ≤ p + Nd.sizes F := la_le_n _ F p i (Nat.le_refl _) hi

/-- A mapping: each node of A has a partner in B, or none. -/
structure Val (A B : List (Nd × Nat)) (p q : Nat) (σ : List (Option Nat)) : Prop where
  len : σ.length = A.length
  rng : ∀ (i u : Nat), σ[i]? = some (some u) → q ≤ u ∧ u < q + B.length
  ord : ∀ (i j u v : Nat), i < j → σ[i]? = some (some u) → σ[j]? = some (some v) → u < v ∧ (p + j < la A i ↔ v < la B (u - q))
def exO (B : List (Nd × Nat)) (q : Nat) (a : Nd × Nat) : Option Nat → Int
  | none => 1
  | some u => (cost a.1 (B.getD (u - q) dP).1 : Int) - 1
def ex (B : List (Nd × Nat)) (q : Nat) : List (Nd × Nat) → List (Option Nat) → Int
  | a :: A, o :: σ => exO B q a o + ex B q A σ
  | _, _ => 0
theorem ex_app (B : List (Nd × Nat)) (q : Nat) : ∀ (A A' : List (Nd × Nat)) (σ σ' : List (Option Nat)), σ.length = A.length → ex B q (A ++ A') (σ ++ σ') = ex B q A σ + ex B q A' σ'
  | [], A', [], σ', _ => by simp [ex]
  | a :: A, A', o :: σ, σ', h => by
    simp only [List.cons_append, ex]
    rw [ex_app B q A A' σ σ' (by simpa using h)]
    omega
  | [], _, _ :: _, _, h => by simp at h
  | _ :: _, _, [], _, h => by simp at h
theorem ex_congr (B B' : List (Nd × Nat)) (q q' : Nat) : ∀ (A : List (Nd × Nat)) (σ : List (Option Nat)), (∀ u, some u ∈ σ → (B.getD (u - q) dP).1 = (B'.getD (u - q') dP).1) → ex B q A σ = ex B' q' A σ
  | [], σ, _ => by cases σ <;> rfl
  | a :: A, [], _ => rfl
  | a :: A, o :: σ, h => by
    simp only [ex]
    rw [ex_congr B B' q q' A σ (fun u hu => h u (by simp [hu]))]
    congr 1
    cases o with
    | none => rfl
    | some u => simp only [exO]; rw [h u (by simp)]

/-- every mapping costs at least the distance -/
theorem fl_le_map (n : Nat) : ∀ (F G : List Nd) (p q : Nat) (σ : List (Option Nat)), Nd.sizes F + Nd.sizes G ≤ n → Val (pre F p) (pre G q) p q σ → (fl F G : Int) ≤ Nd.sizes G + ex (pre G q) q (pre F p) σ := by
  induction n with
  | zero =>
    intro F G p q σ h hv
    cases F with
    | cons t F => rw [Nd.sizes_cons] at h; have := t.size_pos; omega
    | nil =>
      cases G with
      | cons u G => rw [Nd.sizes_cons] at h; have := u.size_pos; omega
      | nil => rw [pre_nil, pre_nil, fl_nn, Nd.sizes_nil]; simp [ex]
  | succ n ih =>
    intro F G p q σ h hv
    cases F with
    | nil => rw [fl_nil_left, pre_nil]; simp [ex]
    | cons t F =>
      have ht := t.size_eq
      have hlen := hv.len
      rw [pre_cons] at hv hlen ⊢
      cases σ with
      | nil => simp at hlen
      | cons o σ =>
        cases o with
        | none =>
          rw [Nd.sizes_cons] at h
          have hv2 : Val (pre (t.kids ++ F) (p + 1)) (pre G q) (p + 1) q σ := by
            refine ⟨by simpa using hlen, fun i u hu => hv.rng (i + 1) u (by simpa using hu), fun i j u v hij hu hw => ?_⟩
            have := hv.ord (i + 1) (j + 1) u v (by omega) (by simpa using hu) (by simpa using hw)
            rw [la_cons] at this
            rw [show p + 1 + j = p + (j + 1) by omega]
            exact this
          have h1 := ih (t.kids ++ F) G (p + 1) q σ (by rw [Nd.sizes_append]; omega) hv2
          have h2 := fl_del t F G
          simp only [ex, exO]
          omega
        | some u0 =>
          have hr0 := hv.rng 0 u0 (by simp)
          rw [pre_len] at hr0
          cases G with
          | nil => rw [Nd.sizes_nil] at hr0; omega
          | cons u G =>
            have hu := u.size_eq
            rw [Nd.sizes_cons, Nd.sizes_cons] at h
            have hB := pre_cons u G q
            by_cases h0 : u0 = q
            · subst h0
              have hlast : la ((t, p + t.size) :: pre (t.kids ++ F) (p + 1)) 0 = p + t.size := rfl
              have hlastB : la (pre (u :: G) u0) (u0 - u0) = u0 + u.size := by rw [hB, Nat.sub_self]; rfl
              have hsl : σ.length = Nd.sizes t.kids + Nd.sizes F := by
                have : σ.length = (pre (t.kids ++ F) (p + 1)).length := by simpa using hlen
                rw [this, pre_len, Nd.sizes_append]
              have hall : ∀ (i v : Nat), σ[i]? = some (some v) → u0 < v ∧ v < u0 + (u.size + Nd.sizes G) ∧ (i < Nd.sizes t.kids ↔ v < u0 + u.size) := fun i v hi => by
                have h1 := hv.ord 0 (i + 1) u0 v (by omega) (by simp) (by simpa using hi)
                have h2 := hv.rng (i + 1) v (by simpa using hi)
                rw [hlast, hlastB] at h1
                rw [pre_len, Nd.sizes_cons] at h2
                refine ⟨h1.1, h2.2, ?_⟩
                constructor
                · intro hk; exact h1.2.1 (by omega)
                · intro hk; have := h1.2.2 hk; omega
              have hA := pre_app t.kids F (p + 1)
              have hB2 := pre_app u.kids G (u0 + 1)
              have hgB : ∀ v, u0 < v → (pre (u :: G) u0).getD (v - u0) dP = (pre (u.kids ++ G) (u0 + 1)).getD (v - (u0 + 1)) dP := fun v hv => by
                rw [hB, show v - u0 = (v - (u0 + 1)) + 1 by omega]; simp
              have hg1 : ∀ v, u0 < v → v < u0 + u.size → (pre (u :: G) u0).getD (v - u0) dP = (pre u.kids (u0 + 1)).getD (v - (u0 + 1)) dP := fun v h1 h2 => by
                rw [hgB v h1, hB2, getD_left _ _ _ _ (by rw [pre_len]; omega)]
              have hg2 : ∀ v, u0 + u.size ≤ v → (pre (u :: G) u0).getD (v - u0) dP = (pre G (u0 + u.size)).getD (v - (u0 + u.size)) dP := fun v h2 => by
                rw [hgB v (by omega), hB2, getD_right _ _ _ _ (by rw [pre_len]; omega), pre_len, show u0 + 1 + Nd.sizes u.kids = u0 + u.size by omega]
                congr 1
                omega
              have e1 : ∀ i v, (σ.take (Nd.sizes t.kids))[i]? = some (some v) → i < Nd.sizes t.kids ∧ σ[i]? = some (some v) := fun i v hi => by
                rw [List.getElem?_take] at hi
                split at hi
                · rename_i hlt; exact ⟨hlt, hi⟩
                · cases hi
              have e2 : ∀ i v, (σ.drop (Nd.sizes t.kids))[i]? = some (some v) → σ[Nd.sizes t.kids + i]? = some (some v) := fun i v hi => by
                rwa [List.getElem?_drop] at hi
              have v1 : Val (pre t.kids (p + 1)) (pre u.kids (u0 + 1)) (p + 1) (u0 + 1) (σ.take (Nd.sizes t.kids)) := by
                refine ⟨by rw [List.length_take, pre_len]; omega, fun i v hi => ?_, fun i j v w hij hi hj => ?_⟩
                · obtain ⟨hlt, hi⟩ := e1 i v hi
                  have := hall i v hi
                  rw [pre_len]
                  omega
                · obtain ⟨hlt, hi⟩ := e1 i v hi
                  obtain ⟨hltj, hj⟩ := e1 j w hj
                  have h1 := hv.ord (i + 1) (j + 1) v w (by omega) (by simpa using hi) (by simpa using hj)
                  have h2 := hall i v hi
                  rw [la_cons, hA, la_left _ _ _ (by rw [pre_len]; exact hlt)] at h1
                  have h3 : la (pre (u :: G) u0) (v - u0) = la (pre u.kids (u0 + 1)) (v - (u0 + 1)) := by unfold la; rw [hg1 v h2.1 (h2.2.2.1 hlt)]
                  rw [h3] at h1
                  rw [show p + 1 + j = p + (j + 1) by omega]
                  exact h1
              have v2 : Val (pre F (p + t.size)) (pre G (u0 + u.size)) (p + t.size) (u0 + u.size) (σ.drop (Nd.sizes t.kids)) := by
                refine ⟨by rw [List.length_drop, pre_len]; omega, fun i v hi => ?_, fun i j v w hij hi hj => ?_⟩
                · have hi := e2 i v hi
                  have := hall _ v hi
                  rw [pre_len]
                  omega
                · have hi := e2 i v hi
                  have hj := e2 j w hj
                  have h1 := hv.ord (Nd.sizes t.kids + i + 1) (Nd.sizes t.kids + j + 1) v w (by omega) (by simpa using hi) (by simpa using hj)
                  have h2 := hall _ v hi
                  rw [la_cons, hA, la_right _ _ _ (by rw [pre_len]; omega), pre_len, show Nd.sizes t.kids + i - Nd.sizes t.kids = i by omega, show p + 1 + Nd.sizes t.kids = p + t.size by omega] at h1
                  have h3 : la (pre (u :: G) u0) (v - u0) = la (pre G (u0 + u.size)) (v - (u0 + u.size)) := by unfold la; rw [hg2 v (by omega)]
                  rw [h3] at h1
                  rw [show p + t.size + j = p + (Nd.sizes t.kids + j + 1) by omega]
                  exact h1
              have i1 := ih t.kids u.kids (p + 1) (u0 + 1) _ (by omega) v1
              have i2 := ih F G (p + t.size) (u0 + u.size) _ (by omega) v2
              have hx : ex (pre (u :: G) u0) u0 (pre (t.kids ++ F) (p + 1)) σ = ex (pre u.kids (u0 + 1)) (u0 + 1) (pre t.kids (p + 1)) (σ.take (Nd.sizes t.kids)) + ex (pre G (u0 + u.size)) (u0 + u.size) (pre F (p + t.size)) (σ.drop (Nd.sizes t.kids)) := by
                conv => lhs; rw [← List.take_append_drop (Nd.sizes t.kids) σ, hA]
                rw [ex_app _ _ _ _ _ _ (by rw [List.length_take, pre_len]; omega), show p + 1 + Nd.sizes t.kids = p + t.size by omega]
                congr 1
                · refine ex_congr _ _ _ _ _ _ fun v hv => ?_
                  obtain ⟨i, hi⟩ := List.getElem?_of_mem hv
                  obtain ⟨hlt, hi⟩ := e1 i v hi
                  have := hall i v hi
                  rw [hg1 v this.1 (this.2.2.1 hlt)]
                · refine ex_congr _ _ _ _ _ _ fun v hv => ?_
                  obtain ⟨i, hi⟩ := List.getElem?_of_mem hv
                  have hi := e2 i v hi
                  have := hall _ v hi
                  rw [hg2 v (by omega)]
              have hp := fl_pair t u F G
              have hb0 : ((pre (u :: G) u0).getD (u0 - u0) dP).1 = u := by rw [hB, Nat.sub_self]; rfl
              simp only [ex, exO]
              rw [hx, hb0, Nd.sizes_cons]
              omega
            · have hge : ∀ (i v : Nat), (some u0 :: σ)[i]? = some (some v) → q + 1 ≤ v := fun i v hi => by
                rcases i with _ | i
                · simp at hi; omega
                · have := hv.ord 0 (i + 1) u0 v (by omega) (by simp) hi
                  omega
              have hg : ∀ v, q + 1 ≤ v → (pre (u :: G) q).getD (v - q) dP = (pre (u.kids ++ G) (q + 1)).getD (v - (q + 1)) dP := fun v hv => by
                rw [hB, show v - q = (v - (q + 1)) + 1 by omega]; simp
              have hv2 : Val (pre (t :: F) p) (pre (u.kids ++ G) (q + 1)) p (q + 1) (some u0 :: σ) := by
                rw [pre_cons t]
                refine ⟨hlen, fun i v hi => ?_, fun i j v w hij hi hj => ?_⟩
                · have h1 := hv.rng i v hi
                  have h2 := hge i v hi
                  rw [pre_len, Nd.sizes_cons] at h1
                  rw [pre_len, Nd.sizes_append]
                  omega
                · have h1 := hv.ord i j v w hij hi hj
                  have h3 : la (pre (u :: G) q) (v - q) = la (pre (u.kids ++ G) (q + 1)) (v - (q + 1)) := by unfold la; rw [hg v (hge i v hi)]
                  rw [h3] at h1
                  exact h1
              have i1 := ih (t :: F) (u.kids ++ G) p (q + 1) _ (by rw [Nd.sizes_append, Nd.sizes_cons]; omega) hv2
              have hx := ex_congr (pre (u :: G) q) (pre (u.kids ++ G) (q + 1)) q (q + 1) (pre (t :: F) p) (some u0 :: σ) (fun v hv => by
                obtain ⟨i, hi⟩ := List.getElem?_of_mem hv
                rw [hg v (hge i v hi)])
              have h2 := fl_ins u (t :: F) G
              rw [← pre_cons t, hx, Nd.sizes_cons]
              rw [Nd.sizes_append] at i1
              omega

theorem ex_nil (B : List (Nd × Nat)) (q : Nat) (σ : List (Option Nat)) : ex B q [] σ = 0 := by cases σ <;> rfl
/-- and one of them costs no more -/
theorem map_le_fl (n : Nat) : ∀ (F G : List Nd) (p q : Nat), Nd.sizes F + Nd.sizes G ≤ n → ∃ σ, Val (pre F p) (pre G q) p q σ ∧ Nd.sizes G + ex (pre G q) q (pre F p) σ ≤ fl F G := by
  induction n with
  | zero =>
    intro F G p q h
    cases F with
    | cons t F => rw [Nd.sizes_cons] at h; have := t.size_pos; omega
    | nil => exact ⟨[], ⟨rfl, fun i u hi => by simp at hi, fun i j u v _ hi => by simp at hi⟩, by rw [pre_nil, ex_nil, fl_nil_left]; omega⟩
  | succ n ih =>
    intro F G p q h
    cases F with
    | nil => exact ⟨[], ⟨rfl, fun i u hi => by simp at hi, fun i j u v _ hi => by simp at hi⟩, by rw [pre_nil, ex_nil, fl_nil_left]; omega⟩
    | cons t F =>
      have ht := t.size_eq
      have htp := t.size_pos
      have del : ∀ σ, Val (pre (t.kids ++ F) (p + 1)) (pre G q) (p + 1) q σ → Val (pre (t :: F) p) (pre G q) p q (none :: σ) := fun σ hv => by
        rw [pre_cons]
        refine ⟨by simp [hv.len], fun i u hi => ?_, fun i j u v hij hi hj => ?_⟩
        · rcases i with _ | i
          · simp at hi
          · exact hv.rng i u (by simpa using hi)
        · rcases i with _ | i
          · simp at hi
          · rcases j with _ | j
            · omega
            · have := hv.ord i j u v (by omega) (by simpa using hi) (by simpa using hj)
              rw [la_cons, show p + (j + 1) = p + 1 + j by omega]
              exact this
      have exdel : ∀ σ, ex (pre G q) q (pre (t :: F) p) (none :: σ) = 1 + ex (pre G q) q (pre (t.kids ++ F) (p + 1)) σ := fun σ => by rw [pre_cons]; rfl
      rw [Nd.sizes_cons] at h
      cases G with
      | nil =>
        obtain ⟨σ, hv, hc⟩ := ih (t.kids ++ F) [] (p + 1) q (by rw [Nd.sizes_append]; omega)
        refine ⟨none :: σ, del σ hv, ?_⟩
        rw [exdel]
        rw [fl_nil_right, Nd.sizes_append] at hc
        rw [fl_nil_right, Nd.sizes_cons]
        omega
      | cons u G =>
        have hu := u.size_eq
        have hup := u.size_pos
        rw [Nd.sizes_cons] at h
        have hB := pre_cons u G q
        have hcc := fl_cc t u F G
        have hcase : fl (t :: F) (u :: G) = fl (t.kids ++ F) (u :: G) + 1 ∨ fl (t :: F) (u :: G) = fl (t :: F) (u.kids ++ G) + 1 ∨ fl (t :: F) (u :: G) = fl t.kids u.kids + fl F G + cost t u := by omega
        rcases hcase with e | e | e
        · obtain ⟨σ, hv, hc⟩ := ih (t.kids ++ F) (u :: G) (p + 1) q (by rw [Nd.sizes_append, Nd.sizes_cons]; omega)
          refine ⟨none :: σ, del σ hv, ?_⟩
          rw [exdel, e]
          omega
        · obtain ⟨σ, hv, hc⟩ := ih (t :: F) (u.kids ++ G) p (q + 1) (by rw [Nd.sizes_append, Nd.sizes_cons]; omega)
          have hge : ∀ (i v : Nat), σ[i]? = some (some v) → q + 1 ≤ v := fun i v hi => (hv.rng i v hi).1
          have hg : ∀ v, q + 1 ≤ v → (pre (u :: G) q).getD (v - q) dP = (pre (u.kids ++ G) (q + 1)).getD (v - (q + 1)) dP := fun v hv => by
            rw [hB, show v - q = (v - (q + 1)) + 1 by omega]; simp
          have hx := ex_congr (pre (u :: G) q) (pre (u.kids ++ G) (q + 1)) q (q + 1) (pre (t :: F) p) σ (fun v hv => by
            obtain ⟨i, hi⟩ := List.getElem?_of_mem hv
            rw [hg v (hge i v hi)])
          refine ⟨σ, ⟨hv.len, fun i v hi => ?_, fun i j v w hij hi hj => ?_⟩, ?_⟩
          · have := hv.rng i v hi
            rw [pre_len, Nd.sizes_append] at this
            rw [pre_len, Nd.sizes_cons]
            omega
          · have h1 := hv.ord i j v w hij hi hj
            have h3 : la (pre (u :: G) q) (v - q) = la (pre (u.kids ++ G) (q + 1)) (v - (q + 1)) := by unfold la; rw [hg v (hge i v hi)]
            rw [h3]
            exact h1
          · rw [hx, e, Nd.sizes_cons]
            rw [Nd.sizes_append] at hc
            omega
        · obtain ⟨σ1, v1, c1⟩ := ih t.kids u.kids (p + 1) (q + 1) (by omega)
          obtain ⟨σ2, v2, c2⟩ := ih F G (p + t.size) (q + u.size) (by omega)
          have l1 := v1.len
          have l2 := v2.len
          rw [pre_len] at l1 l2
          have hA := pre_app t.kids F (p + 1)
          rw [show p + 1 + Nd.sizes t.kids = p + t.size by omega] at hA
          have hB2 := pre_app u.kids G (q + 1)
          rw [show q + 1 + Nd.sizes u.kids = q + u.size by omega] at hB2
          have hgB : ∀ v, q < v → (pre (u :: G) q).getD (v - q) dP = (pre (u.kids ++ G) (q + 1)).getD (v - (q + 1)) dP := fun v hv => by
            rw [hB, show v - q = (v - (q + 1)) + 1 by omega]; simp
          have hg1 : ∀ v, q < v → v < q + u.size → (pre (u :: G) q).getD (v - q) dP = (pre u.kids (q + 1)).getD (v - (q + 1)) dP := fun v h1 h2 => by
            rw [hgB v h1, hB2, getD_left _ _ _ _ (by rw [pre_len]; omega)]
          have hg2 : ∀ v, q + u.size ≤ v → (pre (u :: G) q).getD (v - q) dP = (pre G (q + u.size)).getD (v - (q + u.size)) dP := fun v h2 => by
            rw [hgB v (by omega), hB2, getD_right _ _ _ _ (by rw [pre_len]; omega), pre_len]
            congr 1
            omega
          have r1 : ∀ (i v : Nat), σ1[i]? = some (some v) → q < v ∧ v < q + u.size := fun i v hi => by
            have := v1.rng i v hi
            rw [pre_len] at this
            omega
          have r2 : ∀ (i v : Nat), σ2[i]? = some (some v) → q + u.size ≤ v ∧ v < q + u.size + Nd.sizes G := fun i v hi => by
            have := v2.rng i v hi
            rw [pre_len] at this
            exact this
          have len1 : ∀ (i v : Nat), σ1[i]? = some (some v) → i < Nd.sizes t.kids := fun i v hi => by
            have := (List.getElem?_eq_some_iff.1 hi).1
            omega
          have get : ∀ (i : Nat), (σ1 ++ σ2)[i]? = if i < Nd.sizes t.kids then σ1[i]? else σ2[i - Nd.sizes t.kids]? := fun i => by
            rw [← l1]
            split
            · rename_i h; rw [List.getElem?_append_left h]
            · rename_i h; rw [List.getElem?_append_right (by omega)]
          have hlast : la ((t, p + t.size) :: pre (t.kids ++ F) (p + 1)) 0 = p + t.size := rfl
          have hlastB : la (pre (u :: G) q) (q - q) = q + u.size := by rw [hB, Nat.sub_self]; rfl
          refine ⟨some q :: (σ1 ++ σ2), ⟨?_, fun i v hi => ?_, fun i j v w hij hi hj => ?_⟩, ?_⟩
          · rw [pre_len, Nd.sizes_cons, List.length_cons, List.length_append]; omega
          · rw [pre_len, Nd.sizes_cons]
            rcases i with _ | i
            · simp at hi; omega
            · rw [List.getElem?_cons_succ, get] at hi
              split at hi
              · have := r1 i v hi; omega
              · have := r2 _ v hi; omega
          · rw [pre_cons t]
            rcases j with _ | j
            · omega
            rw [List.getElem?_cons_succ, get] at hj
            rcases i with _ | i
            · simp only [List.getElem?_cons_zero, Option.some.injEq] at hi
              subst hi
              rw [hlast, hlastB]
              split at hj
              · rename_i hlt
                have := r1 j w hj
                omega
              · rename_i hlt
                have := r2 _ w hj
                omega
            · rw [List.getElem?_cons_succ, get] at hi
              rw [la_cons, hA]
              by_cases hi1 : i < Nd.sizes t.kids
              · rw [if_pos hi1] at hi
                have ri := r1 i v hi
                rw [la_left _ _ _ (by rw [pre_len]; exact hi1)]
                have h3 : la (pre (u :: G) q) (v - q) = la (pre u.kids (q + 1)) (v - (q + 1)) := by unfold la; rw [hg1 v ri.1 ri.2]
                rw [h3]
                by_cases hj1 : j < Nd.sizes t.kids
                · rw [if_pos hj1] at hj
                  have := v1.ord i j v w (by omega) hi hj
                  rw [show p + (j + 1) = p + 1 + j by omega]
                  exact this
                · rw [if_neg hj1] at hj
                  have rj := r2 _ w hj
                  have a1 := la_le t.kids (p + 1) i hi1
                  have a2 := la_le u.kids (q + 1) (v - (q + 1)) (by omega)
                  omega
              · rw [if_neg hi1] at hi
                rw [if_neg (by omega)] at hj
                have ri := r2 _ v hi
                have rj := r2 _ w hj
                rw [la_right _ _ _ (by rw [pre_len]; omega), pre_len]
                have h3 : la (pre (u :: G) q) (v - q) = la (pre G (q + u.size)) (v - (q + u.size)) := by unfold la; rw [hg2 v ri.1]
                rw [h3]
                have := v2.ord (i - Nd.sizes t.kids) (j - Nd.sizes t.kids) v w (by omega) hi hj
                rw [show p + (j + 1) = p + t.size + (j - Nd.sizes t.kids) by omega]
                exact this
          · have hb0 : ((pre (u :: G) q).getD (q - q) dP).1 = u := by rw [hB, Nat.sub_self]; rfl
            rw [pre_cons t]
            simp only [ex, exO]
            rw [hA, ex_app _ _ _ _ _ _ v1.len, hb0, e, Nd.sizes_cons]
            have x1 := ex_congr (pre (u :: G) q) (pre u.kids (q + 1)) q (q + 1) (pre t.kids (p + 1)) σ1 (fun v hv => by
              obtain ⟨i, hi⟩ := List.getElem?_of_mem hv
              have := r1 i v hi
              rw [hg1 v this.1 this.2])
            have x2 := ex_congr (pre (u :: G) q) (pre G (q + u.size)) q (q + u.size) (pre F (p + t.size)) σ2 (fun v hv => by
              obtain ⟨i, hi⟩ := List.getElem?_of_mem hv
              have := r2 i v hi
              rw [hg2 v this.1])
            rw [x1, x2]
            omega
end Go.Proofs.Ytjijfgkmjachnaa
