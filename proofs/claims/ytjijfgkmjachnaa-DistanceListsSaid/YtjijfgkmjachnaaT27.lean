/- Plain: the distance is at least the bound, and at most the sum of the sizes less 1. -/
import Derived.Test.YtjijfgkmjachnaaT26
import Derived.Test.YtjijfgkmjachnaaT22
namespace Go.Proofs.Ytjijfgkmjachnaa
set_option linter.unusedVariables false
set_option linter.unusedSimpArgs false

/-- the labels of a forest, in some order -/
def labF : Nat → List Nd → List Lab
  | 0, _ => []
  | _ + 1, [] => []
  | n + 1, t :: ts => labOf t :: (labF n t.kids ++ labF n ts)
theorem labF_stable (n : Nat) : ∀ (m : Nat) (l : List Nd), Nd.sizes l ≤ n → Nd.sizes l ≤ m → labF n l = labF m l := by
  induction n with
  | zero =>
    intro m l h _
    cases l with
    | cons t ts => rw [Nd.sizes_cons] at h; have := t.size_pos; omega
    | nil => cases m <;> rfl
  | succ n ih =>
    intro m l h h2
    cases l with
    | nil => cases m <;> rfl
    | cons t ts =>
      have ht := t.size_eq
      rw [Nd.sizes_cons] at h h2
      cases m with
      | zero => omega
      | succ m =>
        simp only [labF]
        rw [ih m t.kids (by omega) (by omega), ih m ts (by omega) (by omega)]
def labsF (l : List Nd) : List Lab := labF (Nd.sizes l) l
theorem labsF_nil : labsF [] = [] := by unfold labsF; rw [Nd.sizes_nil]; rfl
theorem labsF_cons (t : Nd) (ts : List Nd) : labsF (t :: ts) = labOf t :: (labsF t.kids ++ labsF ts) := by
  have ht := t.size_eq
  unfold labsF
  rw [Nd.sizes_cons, show t.size + Nd.sizes ts = (Nd.sizes t.kids + Nd.sizes ts) + 1 by omega]
  simp only [labF]
  rw [labF_stable _ (Nd.sizes t.kids) t.kids (by omega) (Nat.le_refl _), labF_stable _ (Nd.sizes ts) ts (by omega) (Nat.le_refl _)]
theorem labsF_len (n : Nat) : ∀ l : List Nd, Nd.sizes l ≤ n → (labsF l).length = Nd.sizes l := by
  induction n with
  | zero => intro l h; cases l with
    | nil => rw [labsF_nil, Nd.sizes_nil]; rfl
    | cons t ts => rw [Nd.sizes_cons] at h; have := t.size_pos; omega
  | succ n ih => intro l h; cases l with
    | nil => rw [labsF_nil, Nd.sizes_nil]; rfl
    | cons t ts =>
      have ht := t.size_eq
      rw [Nd.sizes_cons] at h
      rw [labsF_cons, Nd.sizes_cons, List.length_cons, List.length_append, ih _ (by omega), ih _ (by omega)]
      omega
theorem labsF_app (p : Lab) : ∀ (a b : List Nd), (labsF (a ++ b)).count p = (labsF a).count p + (labsF b).count p
  | [], b => by rw [labsF_nil]; simp
  | t :: a, b => by
    rw [List.cons_append, labsF_cons, labsF_cons, List.count_cons, List.count_cons, List.count_append, List.count_append, labsF_app p a b]
    omega
theorem labsF_rev (p : Lab) : ∀ (a : List Nd), (labsF a.reverse).count p = (labsF a).count p
  | [] => rfl
  | t :: a => by
    rw [List.reverse_cons, labsF_app, labsF_rev p a, labsF_cons, labsF_cons, labsF_nil, List.append_nil, List.count_cons, List.count_cons, List.count_append]
    omega
theorem postK_labs (n : Nat) : ∀ (l : List Nd), Nd.sizes l ≤ n → ∀ f m (p : Lab), ((postK l f m).map fun e => labOf e.1).count p = (labsF l).count p := by
  induction n with
  | zero => intro l h f m p; cases l with
    | nil => rw [postK_nil, labsF_nil]; rfl
    | cons t ts => rw [Nd.sizes_cons] at h; have := t.size_pos; omega
  | succ n ih => intro l h f m p; cases l with
    | nil => rw [postK_nil, labsF_nil]; rfl
    | cons t ts =>
      have ht := t.size_eq
      rw [Nd.sizes_cons] at h
      rw [postK_cons, post_eq, labsF_cons, List.map_append, List.map_append, List.count_append, List.count_append, ih t.kids (by omega), ih ts (by omega), List.count_cons, List.count_append]
      simp only [List.map_cons, List.map_nil, List.count_cons, List.count_nil]
      omega
theorem labs_count (t : Nd) (p : Lab) : (labs t).count p = (labsF [t]).count p := by
  have := postK_labs _ [t] (Nat.le_refl _) 0 0 p
  rw [postK_cons, postK_nil, List.append_nil] at this
  exact this

theorem same_lab {t u : Nd} (h : sameLabel t u = true) : labOf t = labOf u := by
  unfold sameLabel at h
  simp only [Bool.and_eq_true, beq_iff_eq, ByteArray.toList_eq] at h
  exact Prod.ext h.1 h.2

theorem fd_common (n : Nat) : ∀ F G : List Nd, Nd.sizes F + Nd.sizes G ≤ n → ∃ zs : List Lab, Nd.sizes F ≤ fd F G + zs.length ∧ Nd.sizes G ≤ fd F G + zs.length ∧ ∀ p, zs.count p ≤ (labsF F).count p ∧ zs.count p ≤ (labsF G).count p := by
  induction n with
  | zero => intro F G h; exact ⟨[], by omega, by omega, fun p => by simp⟩
  | succ n ih =>
    intro F G h
    cases F with
    | nil => exact ⟨[], by rw [Nd.sizes_nil]; omega, by rw [fd_left]; omega, fun p => by simp⟩
    | cons t F =>
      cases G with
      | nil => exact ⟨[], by rw [fd_right]; omega, by rw [Nd.sizes_nil]; omega, fun p => by simp⟩
      | cons u G =>
        rw [Nd.sizes_cons, Nd.sizes_cons] at h
        have ht := sizes_rv t
        have hu := sizes_rv u
        have ct : ∀ p, (labsF (rv t ++ F)).count p ≤ (labsF (t :: F)).count p := fun p => by
          rw [labsF_app, labsF_cons, List.count_cons, List.count_append]; unfold rv; rw [labsF_rev]; omega
        have cu : ∀ p, (labsF (rv u ++ G)).count p ≤ (labsF (u :: G)).count p := fun p => by
          rw [labsF_app, labsF_cons, List.count_cons, List.count_append]; unfold rv; rw [labsF_rev]; omega
        rcases fd_cases t u F G with e | e | e
        · obtain ⟨zs, h1, h2, h3⟩ := ih (rv t ++ F) (u :: G) (by rw [Nd.sizes_append, Nd.sizes_cons]; omega)
          rw [Nd.sizes_append] at h1
          refine ⟨zs, by rw [Nd.sizes_cons, e]; omega, by rw [e]; omega, fun p => ⟨Nat.le_trans (h3 p).1 (ct p), (h3 p).2⟩⟩
        · obtain ⟨zs, h1, h2, h3⟩ := ih (t :: F) (rv u ++ G) (by rw [Nd.sizes_append, Nd.sizes_cons]; omega)
          rw [Nd.sizes_append] at h2
          refine ⟨zs, by rw [e]; omega, by rw [Nd.sizes_cons, e]; omega, fun p => ⟨(h3 p).1, Nat.le_trans (h3 p).2 (cu p)⟩⟩
        · obtain ⟨z1, a1, a2, a3⟩ := ih (rv t) (rv u) (by omega)
          obtain ⟨z2, b1, b2, b3⟩ := ih F G (by omega)
          by_cases hs : sameLabel t u = true
          · have hl := same_lab hs
            refine ⟨labOf t :: (z1 ++ z2), ?_, ?_, fun p => ?_⟩
            · rw [Nd.sizes_cons, e, List.length_cons, List.length_append]; omega
            · rw [Nd.sizes_cons, e, List.length_cons, List.length_append]; omega
            · have x1 := a3 p
              have x2 := b3 p
              unfold rv at x1
              rw [labsF_rev, labsF_rev] at x1
              rw [labsF_cons, labsF_cons, List.count_cons, List.count_cons, List.count_cons, List.count_append, List.count_append, List.count_append, ← hl]
              omega
          · have hc : cost t u = 1 := by unfold cost; rw [if_neg hs]
            refine ⟨z1 ++ z2, ?_, ?_, fun p => ?_⟩
            · rw [Nd.sizes_cons, e, List.length_append]; omega
            · rw [Nd.sizes_cons, e, List.length_append]; omega
            · have x1 := a3 p
              have x2 := b3 p
              unfold rv at x1
              rw [labsF_rev, labsF_rev] at x1
              rw [labsF_cons, labsF_cons, List.count_cons, List.count_cons, List.count_append, List.count_append, List.count_append]
              omega

theorem td_bound (a b : Nd) : boundV a b ≤ (td a b : Nat) := by
  obtain ⟨zs, h1, h2, h3⟩ := fd_common _ [a] [b] (Nat.le_refl _)
  have := com_max (labs b) (labs a) zs (fun p => by rw [labs_count, labs_count]; exact h3 p)
  rw [Nd.sizes_cons, Nd.sizes_nil] at h1 h2
  unfold boundV td
  omega
theorem td_le (a b : Nd) : td a b + 1 ≤ a.size + b.size := by
  have h1 := td_le_pair a b
  have h2 := fd_le (rv a) (rv b)
  have h3 := cost_le a b
  have ha := sizes_rv a
  have hb := sizes_rv b
  omega
end Go.Proofs.Ytjijfgkmjachnaa
