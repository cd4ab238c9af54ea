/- Plain: what cheapest computes is the least cost of a mapping. -/
import Derived.Test.YtjijfgkmjachnaaT69
namespace Go.Proofs.Ytjijfgkmjachnaa
set_option linter.unusedVariables false
set_option linter.unusedSimpArgs false
open Go.RowKit Go.Proofs.YtjijfgkmjachnaaW.PrintWords Go.Proofs.YtjijfgkmjachnaaW.PrintMore
open PDistanceMapping (S24 S73 z24 z73 rd_T24 rd_T73 k24 k73 assessorref37_Label.f assessorlaw37_cheapest.f assessorlaw37_cheapest.l0 assessorlaw37_cheapest.l1 assessorlaw37_cheapest.l2)

def enc : Option Nat → Int
  | none => -1
  | some u => (u : Nat)

/-- A mapping's beginning. -/
structure Pre (A B : List (Nd × Nat)) (σ : List (Option Nat)) : Prop where
  rng : ∀ (i u : Nat), σ[i]? = some (some u) → u < B.length
  ord : ∀ (i j u v : Nat), i < j → σ[i]? = some (some u) → σ[j]? = some (some v) → u < v ∧ (j < la A i ↔ v < la B u)
theorem Pre.val {A B : List (Nd × Nat)} {σ : List (Option Nat)} (h : Pre A B σ) (hl : σ.length = A.length) : Val A B 0 0 σ :=
  ⟨hl, fun i u hu => ⟨Nat.zero_le _, by have := h.rng i u hu; omega⟩, fun i j u v hij hi hj => by have := h.ord i j u v hij hi hj; simpa using this⟩
theorem Val.pre {A B : List (Nd × Nat)} {σ : List (Option Nat)} (h : Val A B 0 0 σ) : Pre A B σ :=
  ⟨fun i u hu => by have := h.rng i u hu; omega, fun i j u v hij hi hj => by have := h.ord i j u v hij hi hj; simpa using this⟩
theorem Pre.nil (A B : List (Nd × Nat)) : Pre A B [] := ⟨fun i u h => by simp at h, fun i j u v _ h => by simp at h⟩
theorem Pre.front {A B : List (Nd × Nat)} {σ ρ : List (Option Nat)} (h : Pre A B (σ ++ ρ)) : Pre A B σ :=
  have up : ∀ (i : Nat) o, σ[i]? = some o → (σ ++ ρ)[i]? = some o := fun i o hi => by rw [List.getElem?_append_left (List.getElem?_eq_some_iff.1 hi).1]; exact hi
  ⟨fun i u hu => h.rng i u (up _ _ hu), fun i j u v hij hi hj => h.ord i j u v hij (up _ _ hi) (up _ _ hj)⟩
/-- t may stand next -/
def Fits (A B : List (Nd × Nat)) (σ : List (Option Nat)) (s t : Nat) : Prop := ∀ (i u : Nat), s ≤ i → σ[i]? = some (some u) → u < t ∧ (σ.length < la A i ↔ t < la B u)
theorem snoc_get {σ : List (Option Nat)} {o : Option Nat} {i u : Nat} (h : (σ ++ [o])[i]? = some (some u)) : (i < σ.length ∧ σ[i]? = some (some u)) ∨ (i = σ.length ∧ o = some u) := by
  by_cases hi : i < σ.length
  · rw [List.getElem?_append_left hi] at h; exact .inl ⟨hi, h⟩
  · rw [List.getElem?_append_right (by omega)] at h
    by_cases h0 : i - σ.length = 0
    · rw [h0] at h; exact .inr ⟨by omega, by simpa using h⟩
    · obtain ⟨m, hm⟩ := Nat.exists_eq_succ_of_ne_zero h0
      rw [hm] at h; simp at h
theorem Pre.out_ {A B : List (Nd × Nat)} {σ : List (Option Nat)} (h : Pre A B σ) : Pre A B (σ ++ [none]) := by
  refine ⟨fun i u hu => ?_, fun i j u v hij hi hj => ?_⟩
  · rcases snoc_get hu with ⟨_, hu⟩ | ⟨_, hu⟩
    · exact h.rng i u hu
    · cases hu
  · rcases snoc_get hi with ⟨_, hi⟩ | ⟨_, hi⟩
    · rcases snoc_get hj with ⟨_, hj⟩ | ⟨_, hj⟩
      · exact h.ord i j u v hij hi hj
      · cases hj
    · cases hi
theorem Pre.more {A B : List (Nd × Nat)} {σ : List (Option Nat)} {t : Nat} (h : Pre A B σ) (ht : t < B.length) (hf : Fits A B σ 0 t) : Pre A B (σ ++ [some t]) := by
  refine ⟨fun i u hu => ?_, fun i j u v hij hi hj => ?_⟩
  · rcases snoc_get hu with ⟨_, hu⟩ | ⟨_, hu⟩
    · exact h.rng i u hu
    · injection hu with hu; omega
  · rcases snoc_get hi with ⟨hil, hi⟩ | ⟨hil, hi⟩
    · rcases snoc_get hj with ⟨_, hj⟩ | ⟨hjl, hj⟩
      · exact h.ord i j u v hij hi hj
      · injection hj with hj; subst hj; subst hjl
        exact hf i u (Nat.zero_le _) hi
    · rcases snoc_get hj with ⟨_, hj⟩ | ⟨hjl, hj⟩
      · omega
      · omega
theorem Pre.fits {A B : List (Nd × Nat)} {σ ρ : List (Option Nat)} {t : Nat} (h : Pre A B (σ ++ some t :: ρ)) : t < B.length ∧ Fits A B σ 0 t := by
  have ht : (σ ++ some t :: ρ)[σ.length]? = some (some t) := by rw [List.getElem?_append_right (Nat.le_refl _)]; simp
  refine ⟨h.rng _ _ ht, fun i u _ hi => ?_⟩
  have hil := (List.getElem?_eq_some_iff.1 hi).1
  exact h.ord i σ.length u t hil (by rw [List.getElem?_append_left hil]; exact hi) ht

/-- r is the least cost of the mappings that begin with σ. -/
def Least (A B : List (Nd × Nat)) (σ : List (Option Nat)) (r : Int) : Prop :=
  (∃ ρ, Val A B 0 0 (σ ++ ρ) ∧ (B.length : Int) + ex B 0 A (σ ++ ρ) = r) ∧ ∀ ρ, Val A B 0 0 (σ ++ ρ) → r ≤ (B.length : Int) + ex B 0 A (σ ++ ρ)
theorem Least.full {A B : List (Nd × Nat)} {σ : List (Option Nat)} (h : Pre A B σ) (hl : σ.length = A.length) : Least A B σ ((B.length : Int) + ex B 0 A σ) := by
  refine ⟨⟨[], by rw [List.append_nil]; exact ⟨h.val hl, rfl⟩⟩, fun ρ hv => ?_⟩
  have : ρ = [] := by
    have := hv.len
    rw [List.length_append] at this
    exact List.eq_nil_of_length_eq_zero (by omega)
  subst this
  rw [List.append_nil]; exact Int.le_refl _
/-- the least over all ways to go on -/
theorem Least.join {A B : List (Nd × Nat)} {σ : List (Option Nat)} {r : Int} (hl : σ.length < A.length)
    (h1 : Least A B (σ ++ [none]) r ∨ ∃ t, Least A B (σ ++ [some t]) r)
    (h2 : ∀ r', Least A B (σ ++ [none]) r' → r ≤ r') (h3 : ∀ t r', t < B.length → Fits A B σ 0 t → Least A B (σ ++ [some t]) r' → r ≤ r')
    (h4 : ∃ r', Least A B (σ ++ [none]) r') (h5 : ∀ t, t < B.length → Fits A B σ 0 t → ∃ r', Least A B (σ ++ [some t]) r') : Least A B σ r := by
  refine ⟨?_, fun ρ hv => ?_⟩
  · rcases h1 with ⟨⟨ρ, h⟩, _⟩ | ⟨t, ⟨ρ, h⟩, _⟩
    · exact ⟨none :: ρ, by rw [List.append_assoc] at h; exact h⟩
    · exact ⟨some t :: ρ, by rw [List.append_assoc] at h; exact h⟩
  · cases ρ with
    | nil => have := hv.len; rw [List.append_nil] at this; omega
    | cons o ρ =>
      cases o with
      | none =>
        obtain ⟨r', hr⟩ := h4
        have := hr.2 ρ (by rw [List.append_assoc]; exact hv)
        rw [List.append_assoc] at this
        exact Int.le_trans (h2 r' hr) this
      | some t =>
        have hf := hv.pre.fits
        obtain ⟨r', hr⟩ := h5 t hf.1 hf.2
        have := hr.2 ρ (by rw [List.append_assoc]; exact hv)
        rw [List.append_assoc] at this
        exact Int.le_trans (h3 t r' hf.1 hf.2 hr) this
theorem Least.uniq {A B : List (Nd × Nat)} {σ : List (Option Nat)} {r r' : Int} (h : Least A B σ r) (h' : Least A B σ r') : r = r' := by
  obtain ⟨⟨ρ, hv, he⟩, hm⟩ := h
  obtain ⟨⟨ρ', hv', he'⟩, hm'⟩ := h'
  have a := hm ρ' hv'
  have b := hm' ρ hv
  omega

/-! ### reads -/
theorem rd_enc (σ : List (Option Nat)) (i : Nat) (h : i < σ.length) : rd (σ.map enc) (i : Nat) = enc σ[i] := by
  unfold rd; rw [Int.toNat_natCast, List.getD_eq_getElem?_getD, List.getElem?_map, List.getElem?_eq_getElem h]; rfl
theorem rd_cv (A : List (Nd × Nat)) (i : Nat) (h : i < A.length) : rd_T73 (A.map cv) (i : Nat) = cv A[i] := by
  unfold rd_T73; rw [Int.toNat_natCast, List.getD_eq_getElem?_getD, List.getElem?_map, List.getElem?_eq_getElem h]; rfl
theorem la_get (A : List (Nd × Nat)) (i : Nat) (h : i < A.length) : la A i = A[i].2 := by
  unfold la; rw [List.getD_eq_getElem?_getD, List.getElem?_eq_getElem h]; rfl
theorem lab_f (t u : Nd) : assessorref37_Label.f (toS t).f0 (toS t).f1 (toS t).f2 (toS t).f3 (toS t).f4 (toS u).f0 (toS u).f1 (toS u).f2 (toS u).f3 (toS u).f4 = some (sameLabel t u) := by
  rw [toS_eq t, toS_eq u]
  unfold assessorref37_Label.f sameLabel
  by_cases h : t.kind = u.kind
  · rw [if_pos h, h]; simp
  · rw [if_neg h]; simp [h]
theorem w64 (n : Int) (h : -2000000 ≤ n ∧ n ≤ 2000000) : wrap64 n = n := IntWalk.wrap64_in n (by omega)
theorem map_len (σ : List (Option Nat)) : ((σ.map enc).length : Int) = (σ.length : Nat) := by rw [List.length_map]
theorem cv_len (A : List (Nd × Nat)) : ((A.map cv).length : Int) = (A.length : Nat) := by rw [List.length_map]
theorem enc_none_lt : (enc none) < 0 := by decide
theorem enc_some (u : Nat) : enc (some u) = (u : Int) := rfl

theorem ex_drop {B : List (Nd × Nat)} {A : List (Nd × Nat)} {σ : List (Option Nat)} {i : Nat} (hA : i < A.length) (hσ : i < σ.length) :
    ex B 0 (A.drop i) (σ.drop i) = exO B 0 A[i] σ[i] + ex B 0 (A.drop (i + 1)) (σ.drop (i + 1)) := by
  rw [List.drop_eq_getElem_cons hA, List.drop_eq_getElem_cons hσ]; rfl

/-- the cost of a whole mapping -/
theorem ev0 {A B : List (Nd × Nat)} {σ : List (Option Nat)} (hl : σ.length = A.length) (hr : ∀ (i u : Nat), σ[i]? = some (some u) → u < B.length) (hA : A.length ≤ 1000) (n : Nat) :
    ∀ (i : Nat) (c : Int), σ.length - i = n → i ≤ σ.length → -1000000 - i ≤ c → c ≤ 1000000 + i →
    Ev (fun k => assessorlaw37_cheapest.l0 k (A.map cv) (B.map cv) c (σ.map enc) ((σ.length : Nat) : Int) ((i : Nat) : Int)) (c + ex B 0 (A.drop i) (σ.drop i)) := by
  induction n with
  | zero =>
    intro i c hn hi h1 h2
    obtain rfl : i = σ.length := by omega
    rw [List.drop_eq_nil_of_le (Nat.le_refl _)]
    refine Ev.step (f := fun _ => some (c + ex B 0 (A.drop σ.length) [])) (fun k => ?_) (Ev.now _)
    simp only [assessorlaw37_cheapest.l0]
    rw [if_neg (by omega)]
    congr 1
    have : ex B 0 (A.drop σ.length) [] = 0 := by cases A.drop σ.length <;> rfl
    omega
  | succ n ih =>
    intro i c hn hi h1 h2
    have hi2 : i < σ.length := by omega
    have hiA : i < A.length := by omega
    have hw : wrap64 (((i : Nat) : Int) + 1) = ((i + 1 : Nat) : Int) := w64 _ (by omega)
    rw [ex_drop hiA hi2]
    cases ho : σ[i] with
    | none =>
      have H := ih (i + 1) (c + 1) (by omega) (by omega) (by omega) (by omega)
      rw [show c + 1 + ex B 0 (A.drop (i + 1)) (σ.drop (i + 1)) = c + (exO B 0 A[i] none + ex B 0 (A.drop (i + 1)) (σ.drop (i + 1))) by simp only [exO]; omega] at H
      refine Ev.step (fun k => ?_) H
      simp only [assessorlaw37_cheapest.l0]
      rw [map_len, if_pos (by omega), if_pos (by omega), if_pos (by omega), rd_enc σ i hi2, ho, if_pos enc_none_lt, hw, w64 _ (by omega)]
    | some u =>
      have hu := hr i u (by rw [List.getElem?_eq_getElem hi2, ho])
      have hb : (B.getD (u - 0) dP).1 = B[u].1 := by rw [Nat.sub_zero, List.getD_eq_getElem?_getD, List.getElem?_eq_getElem hu]; rfl
      have H := ih (i + 1) (if sameLabel A[i].1 B[u].1 then c - 1 else c) (by omega) (by omega) (by split <;> omega) (by split <;> omega)
      rw [show (if sameLabel A[i].1 B[u].1 then c - 1 else c) + ex B 0 (A.drop (i + 1)) (σ.drop (i + 1)) = c + (exO B 0 A[i] (some u) + ex B 0 (A.drop (i + 1)) (σ.drop (i + 1))) by
        simp only [exO, cost, hb]; split <;> simp <;> omega] at H
      refine Ev.step (fun k => ?_) H
      simp only [assessorlaw37_cheapest.l0]
      rw [map_len, if_pos (by omega), if_pos (by omega), if_pos (by omega), rd_enc σ i hi2, ho, enc_some, if_neg (by omega), cv_len, if_pos (by omega), if_pos (by omega), cv_len, if_pos (by omega), rd_cv A i hiA, rd_cv B u hu]
      simp only [cv]
      rw [lab_f, Option.bind_some, hw, w64 (c - 1) (by omega)]
      cases sameLabel A[i].1 B[u].1 <;> rfl

/-- whether t may stand next: from place s on, the flag b -/
theorem ev2 {A B : List (Nd × Nat)} {σ : List (Option Nat)} (hl : σ.length < A.length) (hr : ∀ (i u : Nat), σ[i]? = some (some u) → u < B.length) (hA : A.length ≤ 1000) (hB : B.length ≤ 1000) (x R : Int) (t : Nat) (ht : t < B.length) (n : Nat) :
    ∀ (s : Nat) (b : Bool), σ.length - s = n → s ≤ σ.length →
    ((b = true ∧ Fits A B σ s t) → Ev (fun k => (assessorlaw37_cheapest.f k (A.map cv) (B.map cv) ((σ ++ [some t]).map enc)).bind fun t354 => assessorlaw37_cheapest.l1 k (A.map cv) (B.map cv) (σ.map enc) ((σ.length : Nat) : Int) (mn x t354) ((B.length : Nat) : Int) ((t + 1 : Nat) : Int)) R) →
    (¬ (b = true ∧ Fits A B σ s t) → Ev (fun k => assessorlaw37_cheapest.l1 k (A.map cv) (B.map cv) (σ.map enc) ((σ.length : Nat) : Int) x ((B.length : Nat) : Int) ((t + 1 : Nat) : Int)) R) →
    Ev (fun k => assessorlaw37_cheapest.l2 k (A.map cv) (B.map cv) (σ.map enc) ((σ.length : Nat) : Int) x ((t : Nat) : Int) b ((B.length : Nat) : Int) ((t : Nat) : Int) (σ.map enc) ((σ.length : Nat) : Int) ((s : Nat) : Int)) R := by
  induction n with
  | zero =>
    intro s b hn hs hy hno
    obtain rfl : s = σ.length := by omega
    have hF : Fits A B σ σ.length t := fun i u hi h => by have := (List.getElem?_eq_some_iff.1 h).1; omega
    have hw : wrap64 (((t : Nat) : Int) + 1) = ((t + 1 : Nat) : Int) := w64 _ (by omega)
    cases b with
    | false =>
      refine Ev.step (fun k => ?_) (hno (fun h => by simp at h))
      simp only [assessorlaw37_cheapest.l2]
      rw [if_neg (by omega), if_neg (by simp), hw]
    | true =>
      refine Ev.step (fun k => ?_) (hy ⟨rfl, hF⟩)
      simp only [assessorlaw37_cheapest.l2]
      rw [if_neg (by omega), if_pos (by trivial), hw]
      simp only [Option.bind_some, List.nil_append, List.length_nil, List.length_map]
      rw [if_pos (by omega), if_pos (by omega), List.map_append]
      rfl
  | succ n ih =>
    intro s b hn hs hy hno
    have hs2 : s < σ.length := by omega
    have hsA : s < A.length := by omega
    have hw : wrap64 (((s : Nat) : Int) + 1) = ((s + 1 : Nat) : Int) := w64 _ (by omega)
    have hFs : ∀ v, σ[s] = v → (Fits A B σ s t ↔ (∀ u, v = some u → u < t ∧ (σ.length < la A s ↔ t < la B u)) ∧ Fits A B σ (s + 1) t) := by
      intro v hv
      refine ⟨fun h => ⟨fun u hu => h s u (Nat.le_refl _) (by rw [List.getElem?_eq_getElem hs2, hv, hu]), fun i u hi => h i u (by omega)⟩, fun h i u hi hu => ?_⟩
      by_cases he : i = s
      · subst he; exact h.1 u (by rw [List.getElem?_eq_getElem hs2, hv] at hu; injection hu)
      · exact h.2 i u (by omega) hu
    have hFs := hFs _ rfl
    have stay : (b = false ∨ ∃ u, σ[s] = some u ∧ ¬ u < t) → Ev (fun k => assessorlaw37_cheapest.l2 k (A.map cv) (B.map cv) (σ.map enc) ((σ.length : Nat) : Int) x ((t : Nat) : Int) false ((B.length : Nat) : Int) ((t : Nat) : Int) (σ.map enc) ((σ.length : Nat) : Int) ((s + 1 : Nat) : Int)) R := by
      intro hb
      refine ih (s + 1) false (by omega) (by omega) (fun h => by simp at h) (fun _ => hno (fun h => ?_))
      rcases hb with hb | ⟨u, hu, hut⟩
      · rw [hb] at h; simp at h
      · exact hut ((hFs.1 h.2).1 u hu).1
    cases b with
    | false =>
      refine Ev.step (fun k => ?_) (stay (.inl rfl))
      simp only [assessorlaw37_cheapest.l2]
      rw [if_pos (by omega), if_pos (by omega), map_len, if_pos (by omega), if_neg (by simp), hw]
    | true =>
      cases ho : σ[s] with
      | none =>
        have hF' : Fits A B σ s t ↔ Fits A B σ (s + 1) t := by rw [hFs, ho]; simp
        refine Ev.step (fun k => ?_) (ih (s + 1) true (by omega) (by omega) (fun h => hy ⟨rfl, hF'.2 h.2⟩) (fun h => hno (fun h' => h ⟨rfl, hF'.1 h'.2⟩)))
        simp only [assessorlaw37_cheapest.l2]
        rw [if_pos (by omega), if_pos (by omega), map_len, if_pos (by omega), if_pos (by trivial), rd_enc σ s hs2, ho, if_pos enc_none_lt, hw]
      | some u =>
        have hu := hr s u (by rw [List.getElem?_eq_getElem hs2, ho])
        by_cases hut : u < t
        · have hF' : Fits A B σ s t ↔ ((decide (σ.length < la A s)) == (decide (t < la B u))) = true ∧ Fits A B σ (s + 1) t := by
            rw [hFs, ho]
            refine and_congr_left fun _ => ⟨fun h => ?_, fun h v hv => ?_⟩
            · have := (h u rfl).2; simp [this]
            · injection hv with hv; subst hv
              refine ⟨hut, ?_⟩
              simpa [decide_eq_decide] using h
          refine Ev.step (fun k => ?_) (ih (s + 1) ((decide (σ.length < la A s)) == (decide (t < la B u))) (by omega) (by omega) (fun h => hy ⟨rfl, hF'.2 h⟩) (fun h => hno (fun h' => h (hF'.1 h'.2))))
          simp only [assessorlaw37_cheapest.l2]
          rw [if_pos (by omega), if_pos (by omega), map_len, if_pos (by omega), if_pos (by trivial), rd_enc σ s hs2, ho, enc_some, if_neg (by omega), if_pos (by omega), cv_len, if_pos (by omega), if_pos (by omega), cv_len, if_pos (by omega), rd_cv A s hsA, rd_cv B u hu, la_get A s hsA, la_get B u hu, hw]
          simp only [cv, Int.ofNat_lt]
        · refine Ev.step (fun k => ?_) (stay (.inr ⟨u, ho, hut⟩))
          simp only [assessorlaw37_cheapest.l2]
          rw [if_pos (by omega), if_pos (by omega), map_len, if_pos (by omega), if_pos (by trivial), rd_enc σ s hs2, ho, enc_some, if_neg (by omega), if_neg (by omega), hw]

/-- the least over the partners from t on -/
theorem ev1 {A B : List (Nd × Nat)} {σ : List (Option Nat)} (hl : σ.length < A.length) (hr : ∀ (i u : Nat), σ[i]? = some (some u) → u < B.length) (hA : A.length ≤ 1000) (hB : B.length ≤ 1000)
    (H : ∀ t, t < B.length → Fits A B σ 0 t → ∃ r', Least A B (σ ++ [some t]) r' ∧ Ev (fun k => assessorlaw37_cheapest.f k (A.map cv) (B.map cv) ((σ ++ [some t]).map enc)) r') (m : Nat) :
    ∀ (t : Nat) (x : Int), B.length - t = m → t ≤ B.length → ∃ R, Ev (fun k => assessorlaw37_cheapest.l1 k (A.map cv) (B.map cv) (σ.map enc) ((σ.length : Nat) : Int) x ((B.length : Nat) : Int) ((t : Nat) : Int)) R ∧
      R ≤ x ∧ (R = x ∨ ∃ t', Least A B (σ ++ [some t']) R) ∧ ∀ t' r', t ≤ t' → t' < B.length → Fits A B σ 0 t' → Least A B (σ ++ [some t']) r' → R ≤ r' := by
  induction m with
  | zero =>
    intro t x hm ht
    refine ⟨x, Ev.step (f := fun _ => some x) (fun k => ?_) (Ev.now _), Int.le_refl _, .inl rfl, fun t' r' h1 h2 => by omega⟩
    simp only [assessorlaw37_cheapest.l1]
    rw [if_neg (by omega)]
  | succ m ih =>
    intro t x hm ht
    have ht2 : t < B.length := by omega
    have hst : ∀ k, assessorlaw37_cheapest.l1 (k + 1) (A.map cv) (B.map cv) (σ.map enc) ((σ.length : Nat) : Int) x ((B.length : Nat) : Int) ((t : Nat) : Int) = assessorlaw37_cheapest.l2 k (A.map cv) (B.map cv) (σ.map enc) ((σ.length : Nat) : Int) x ((t : Nat) : Int) true ((B.length : Nat) : Int) ((t : Nat) : Int) (σ.map enc) ((σ.length : Nat) : Int) ((0 : Nat) : Int) := fun k => by
      simp only [assessorlaw37_cheapest.l1]
      rw [if_pos (by omega), map_len]; rfl
    by_cases hf : Fits A B σ 0 t
    · obtain ⟨r', hL, hE⟩ := H t ht2 hf
      obtain ⟨R, h1, h2, h3, h4⟩ := ih (t + 1) (mn x r') (by omega) (by omega)
      have hm1 : mn x r' ≤ x ∧ mn x r' ≤ r' ∧ (mn x r' = x ∨ mn x r' = r') := by unfold mn; split <;> omega
      refine ⟨R, Ev.step hst (ev2 hl hr hA hB x R t ht2 _ 0 true rfl (Nat.zero_le _) (fun _ => Ev.bind hE h1) (fun h => absurd ⟨rfl, hf⟩ h)), by omega, ?_, fun t' q' ht1 ht2' hf' hL' => ?_⟩
      · rcases h3 with h3 | h3
        · rcases hm1.2.2 with h | h
          · exact .inl (h3.trans h)
          · exact .inr ⟨t, by rw [h3, h]; exact hL⟩
        · exact .inr h3
      · by_cases he : t' = t
        · subst he; have := hL'.uniq hL; omega
        · exact h4 t' q' (by omega) ht2' hf' hL'
    · obtain ⟨R, h1, h2, h3, h4⟩ := ih (t + 1) x (by omega) (by omega)
      refine ⟨R, Ev.step hst (ev2 hl hr hA hB x R t ht2 _ 0 true rfl (Nat.zero_le _) (fun h => absurd h.2 hf) (fun _ => h1)), h2, h3, fun t' q' ht1 ht2' hf' hL' => ?_⟩
      by_cases he : t' = t
      · subst he; exact absurd hf' hf
      · exact h4 t' q' (by omega) ht2' hf' hL'

theorem evF {A B : List (Nd × Nat)} (hA : A.length ≤ 1000) (hB : B.length ≤ 1000) (n : Nat) : ∀ (σ : List (Option Nat)), A.length - σ.length = n → σ.length ≤ A.length → Pre A B σ →
    ∃ r, Least A B σ r ∧ Ev (fun k => assessorlaw37_cheapest.f k (A.map cv) (B.map cv) (σ.map enc)) r := by
  induction n with
  | zero =>
    intro σ hn hl hp
    have hl' : σ.length = A.length := by omega
    refine ⟨_, Least.full hp hl', Ev.step (fun k => ?_) (ev0 hl' hp.rng hA _ 0 ((B.length : Nat) : Int) rfl (Nat.zero_le _) (by omega) (by omega))⟩
    simp only [assessorlaw37_cheapest.f]
    rw [map_len, cv_len, if_pos (by omega), cv_len]; rfl
  | succ n ih =>
    intro σ hn hl hp
    have hl' : σ.length < A.length := by omega
    obtain ⟨r0, hL0, hE0⟩ := ih (σ ++ [none]) (by rw [List.length_append]; simp; omega) (by rw [List.length_append]; simp; omega) hp.out_
    have H : ∀ t, t < B.length → Fits A B σ 0 t → ∃ r', Least A B (σ ++ [some t]) r' ∧ Ev (fun k => assessorlaw37_cheapest.f k (A.map cv) (B.map cv) ((σ ++ [some t]).map enc)) r' := fun t ht hf =>
      ih (σ ++ [some t]) (by rw [List.length_append]; simp; omega) (by rw [List.length_append]; simp; omega) (hp.more ht hf)
    obtain ⟨R, h1, h2, h3, h4⟩ := ev1 hl' hp.rng hA hB H _ 0 r0 rfl (Nat.zero_le _)
    refine ⟨R, Least.join hl' (h3.imp (fun h => by rw [h]; exact hL0) id) (fun r' h => by have := h.uniq hL0; omega) (fun t r' ht hf h => h4 t r' (Nat.zero_le _) ht hf h) ⟨r0, hL0⟩ (fun t ht hf => (H t ht hf).imp fun _ h => h.1), Ev.step (fun k => ?_) (Ev.bind (f := fun k t341 => assessorlaw37_cheapest.l1 k (A.map cv) (B.map cv) (σ.map enc) ((σ.length : Nat) : Int) t341 ((B.length : Nat) : Int) ((0 : Nat) : Int)) hE0 h1)⟩
    simp only [assessorlaw37_cheapest.f]
    rw [map_len, cv_len, if_neg (by omega), cv_len]
    simp only [Option.bind_some, List.nil_append, List.length_nil, List.length_map]
    rw [if_pos (by omega), if_pos (by omega), List.map_append]
    rfl

/-- What cheapest answers at two trees' lists is their distance. -/
theorem cheapest_td (t u : Nd) (ht : t.size ≤ 1000) (hu : u.size ≤ 1000) : ∃ k, assessorlaw37_cheapest.f k ((pre [t] 0).map cv) ((pre [u] 0).map cv) [] = some ((td t u : Nat) : Int) := by
  have hA : (pre [t] 0).length = t.size := by rw [pre_len, Nd.sizes_cons, Nd.sizes_nil]; rfl
  have hB : (pre [u] 0).length = u.size := by rw [pre_len, Nd.sizes_cons, Nd.sizes_nil]; rfl
  have hs : ∀ v : Nd, Nd.sizes [v] = v.size := fun v => by rw [Nd.sizes_cons, Nd.sizes_nil]; rfl
  obtain ⟨r, ⟨⟨ρ, hv, he⟩, hm⟩, hE⟩ := evF (by omega) (by omega) _ [] rfl (Nat.zero_le _) (Pre.nil (pre [t] 0) (pre [u] 0))
  obtain ⟨σ, hv2, hle⟩ := map_le_fl _ [t] [u] 0 0 (Nat.le_refl _)
  have h1 := fl_le_map _ [t] [u] 0 0 ([] ++ ρ) (Nat.le_refl _) hv
  have h2 := hm σ hv2
  simp only [List.nil_append] at *
  have : r = ((td t u : Nat) : Int) := by rw [← td_fl]; rw [hs, ← hB] at h1 hle; omega
  rw [this] at hE
  exact hE.rounds
end Go.Proofs.Ytjijfgkmjachnaa
