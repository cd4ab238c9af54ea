/- Plain: the distance is 0 exactly for trees that are the same. -/
import Derived.Test.YtjijfgkmjachnaaT24
namespace Go.Proofs.Ytjijfgkmjachnaa
set_option linter.unusedVariables false
set_option linter.unusedSimpArgs false

theorem size_le_sizes : ∀ (l : List Nd) (i : Nat) (h : i < l.length), (l[i]).size ≤ Nd.sizes l
  | t :: ts, 0, _ => by rw [Nd.sizes_cons]; simp
  | t :: ts, i + 1, h => by
    have := size_le_sizes ts i (by simpa using h)
    rw [Nd.sizes_cons]
    simp only [List.getElem_cons_succ]
    omega

theorem fd_zero : ∀ F G : List Nd, fd F G = 0 ↔ F.length = G.length ∧ ∀ i (h : i < F.length) (h' : i < G.length), td F[i] G[i] = 0
  | [], [] => by simp [fd_nn]
  | t :: F, [] => by rw [fd_right, Nd.sizes_cons]; have := t.size_pos; simp; omega
  | [], u :: G => by rw [fd_left, Nd.sizes_cons]; have := u.size_pos; simp; omega
  | t :: F, u :: G => by
    have ih := fd_zero F G
    rw [fd_step]
    constructor
    · intro h
      have h1 : fd F G = 0 := by omega
      have h2 : td t u = 0 := by omega
      obtain ⟨e, f⟩ := ih.1 h1
      refine ⟨by simp [e], fun i h h' => ?_⟩
      cases i with
      | zero => exact h2
      | succ i => exact f i (by simpa using h) (by simpa using h')
    · rintro ⟨e, f⟩
      have h1 : fd F G = 0 := ih.2 ⟨by simpa using e, fun i h h' => f (i + 1) (by simpa using h) (by simpa using h')⟩
      have h2 : td t u = 0 := f 0 (by simp) (by simp)
      omega
theorem td_zero (t u : Nd) : td t u = 0 ↔ sameLabel t u = true ∧ fd (rv t) (rv u) = 0 := by
  unfold td
  rw [fd_cc, fd_nn]
  unfold cost
  constructor
  · intro h
    by_cases hs : sameLabel t u = true
    · exact ⟨hs, by rw [if_pos hs] at h; omega⟩
    · rw [if_neg hs] at h; omega
  · rintro ⟨hs, h⟩
    rw [if_pos hs]; omega
theorem rv_zero (t u : Nd) : fd (rv t) (rv u) = 0 ↔ t.kids.length = u.kids.length ∧ ∀ i (h : i < t.kids.length) (h' : i < u.kids.length), td t.kids[i] u.kids[i] = 0 := by
  rw [fd_zero]
  unfold rv
  simp only [List.length_reverse]
  refine and_congr_right fun e => ⟨fun f i h h' => ?_, fun f i h h' => ?_⟩
  · have := f (t.kids.length - 1 - i) (by omega) (by omega)
    rw [List.getElem_reverse, List.getElem_reverse] at this
    have e1 : t.kids.length - 1 - (t.kids.length - 1 - i) = i := by omega
    have e2 : u.kids.length - 1 - (t.kids.length - 1 - i) = i := by omega
    simp only [e1, e2] at this
    exact this
  · rw [List.getElem_reverse, List.getElem_reverse]
    have e2 : u.kids.length - 1 - i = t.kids.length - 1 - i := by omega
    simp only [e2]
    exact f _ _ _
theorem sameN_iff (n : Nat) : ∀ a b : Nd, a.size ≤ n → (sameN n a b = true ↔ td a b = 0) := by
  induction n with
  | zero => intro a b h; have := a.size_pos; omega
  | succ n ih =>
    intro a b h
    rw [td_zero, rv_zero]
    simp only [sameN, Bool.and_eq_true, beq_iff_eq, List.all_eq_true, and_assoc]
    refine and_congr_right fun _ => and_congr_right fun e => ⟨fun f i h1 h2 => ?_, fun f x hx => ?_⟩
    · have hk := Nd.size_eq a
      have hs : (a.kids[i]).size ≤ n := by have := size_le_sizes a.kids i h1; omega
      refine (ih _ _ hs).1 (f _ ?_)
      rw [List.mem_iff_getElem]
      exact ⟨i, by simp; omega, by simp⟩
    · obtain ⟨i, hi, rfl⟩ := List.mem_iff_getElem.1 hx
      simp only [List.length_zipWith] at hi
      have hk := Nd.size_eq a
      have hs : (a.kids[i]'(by omega)).size ≤ n := by have := size_le_sizes a.kids i (by omega); omega
      rw [List.getElem_zipWith]
      exact (ih _ _ hs).2 (f i (by omega) (by omega))
end Go.Proofs.Ytjijfgkmjachnaa
