/- Plain: the distance is symmetric and obeys the triangle inequality. -/
import Derived.Test.YtjijfgkmjachnaaT20
namespace Go.Proofs.Ytjijfgkmjachnaa
set_option linter.unusedVariables false
set_option linter.unusedSimpArgs false

theorem sameLabel_comm (a b : Nd) : sameLabel a b = sameLabel b a := by
  unfold sameLabel
  rw [Bool.beq_comm (a := a.kind), Bool.beq_comm (a := a.text.toList)]
theorem cost_comm (a b : Nd) : cost a b = cost b a := by unfold cost; rw [sameLabel_comm]
theorem cost_le (a b : Nd) : cost a b ≤ 1 := by unfold cost; split <;> omega
theorem cost_tri (a b c : Nd) : cost a c ≤ cost a b + cost b c := by
  unfold cost
  by_cases h1 : sameLabel a b = true
  · by_cases h2 : sameLabel b c = true
    · have h3 : sameLabel a c = true := by
        unfold sameLabel at *
        simp only [Bool.and_eq_true, beq_iff_eq] at *
        exact ⟨h1.1.trans h2.1, h1.2.trans h2.2⟩
      simp [h3]
    · simp only [h2]; split <;> simp
  · simp only [h1]; split <;> simp

theorem fd_comm_n (n : Nat) : ∀ F G : List Nd, Nd.sizes F + Nd.sizes G ≤ n → fd F G = fd G F := by
  induction n with
  | zero =>
    intro F G h
    cases F with
    | cons t F => rw [Nd.sizes_cons] at h; have := t.size_pos; omega
    | nil => cases G with
      | cons u G => rw [Nd.sizes_cons] at h; have := u.size_pos; omega
      | nil => rfl
  | succ n ih =>
    intro F G h
    cases F with
    | nil => rw [fd_left, fd_right]
    | cons t F =>
      cases G with
      | nil => rw [fd_left, fd_right]
      | cons u G =>
        rw [Nd.sizes_cons, Nd.sizes_cons] at h
        have ht := sizes_rv t
        have hu := sizes_rv u
        rw [fd_cc, fd_cc, ih (rv t ++ F) (u :: G) (by rw [Nd.sizes_append, Nd.sizes_cons]; omega), ih (t :: F) (rv u ++ G) (by rw [Nd.sizes_append, Nd.sizes_cons]; omega), ih (rv t) (rv u) (by omega), ih F G (by omega), cost_comm, Nat.min_comm (fd (u :: G) (rv t ++ F))]
theorem fd_comm (F G : List Nd) : fd F G = fd G F := fd_comm_n _ F G (Nat.le_refl _)
theorem td_comm (t u : Nd) : td t u = td u t := fd_comm _ _

theorem fd_ge_n (n : Nat) : ∀ F G : List Nd, Nd.sizes F + Nd.sizes G ≤ n → Nd.sizes G ≤ Nd.sizes F + fd F G := by
  induction n with
  | zero =>
    intro F G h
    omega
  | succ n ih =>
    intro F G h
    cases G with
    | nil => rw [Nd.sizes_nil]; omega
    | cons u G =>
      cases F with
      | nil => rw [fd_left]; omega
      | cons t F =>
        have h0 := h
        rw [Nd.sizes_cons, Nd.sizes_cons] at h
        have ht := sizes_rv t
        have hu := sizes_rv u
        have h1 := ih (rv t ++ F) (u :: G) (by rw [Nd.sizes_append, Nd.sizes_cons]; omega)
        have h2 := ih (t :: F) (rv u ++ G) (by rw [Nd.sizes_append, Nd.sizes_cons]; omega)
        have h3 := ih (rv t) (rv u) (by omega)
        have h4 := ih F G (by omega)
        rw [Nd.sizes_append, Nd.sizes_cons] at h1 h2
        rw [Nd.sizes_cons, Nd.sizes_cons]
        rcases fd_cases t u F G with e | e | e <;> rw [e] <;> omega
theorem fd_ge (F G : List Nd) : Nd.sizes G ≤ Nd.sizes F + fd F G := fd_ge_n _ F G (Nat.le_refl _)
theorem fd_le (F G : List Nd) : fd F G ≤ Nd.sizes F + Nd.sizes G := by
  have := fd_app F [] [] G
  rw [List.append_nil, List.nil_append, fd_right, fd_left] at this
  exact this

theorem fd_tri_n (n : Nat) : ∀ F G H : List Nd, Nd.sizes F + Nd.sizes G + Nd.sizes H ≤ n → fd F H ≤ fd F G + fd G H := by
  induction n with
  | zero =>
    intro F G H h
    cases F with
    | cons t F => rw [Nd.sizes_cons] at h; have := t.size_pos; omega
    | nil => cases H with
      | cons u H => rw [Nd.sizes_cons] at h; have := u.size_pos; omega
      | nil => rw [fd_nn]; omega
  | succ n ih =>
    intro F G H h
    cases F with
    | nil => rw [fd_left, fd_left]; exact fd_ge G H
    | cons t F =>
      cases H with
      | nil => rw [fd_right, fd_right]; have := fd_ge G (t :: F); rw [fd_comm] at this; omega
      | cons v H =>
        cases G with
        | nil => rw [fd_right, fd_left]; exact fd_le _ _
        | cons u G =>
          rw [Nd.sizes_cons, Nd.sizes_cons, Nd.sizes_cons] at h
          have ht := sizes_rv t
          have hu := sizes_rv u
          have hv := sizes_rv v
          have dl := fd_del t F (v :: H)
          have is := fd_ins v (t :: F) H
          have pr := fd_pair t v F H
          have a1 := fd_app (rv u) G (rv v) H
          have a2 := fd_app (rv t) F (rv u) G
          rcases fd_cases t u F G with e | e | e
          · have i1 := ih (rv t ++ F) (u :: G) (v :: H) (by rw [Nd.sizes_append, Nd.sizes_cons, Nd.sizes_cons]; omega)
            omega
          · rcases fd_cases u v G H with e2 | e2 | e2
            · have i1 := ih (t :: F) (rv u ++ G) (v :: H) (by rw [Nd.sizes_append, Nd.sizes_cons, Nd.sizes_cons]; omega)
              omega
            · have i1 := ih (t :: F) (u :: G) (rv v ++ H) (by rw [Nd.sizes_append, Nd.sizes_cons, Nd.sizes_cons]; omega)
              omega
            · have i1 := ih (t :: F) (rv u ++ G) (rv v ++ H) (by rw [Nd.sizes_append, Nd.sizes_append, Nd.sizes_cons]; omega)
              omega
          · rcases fd_cases u v G H with e2 | e2 | e2
            · have i1 := ih (rv t ++ F) (rv u ++ G) (v :: H) (by rw [Nd.sizes_append, Nd.sizes_append, Nd.sizes_cons]; omega)
              omega
            · have i1 := ih (t :: F) (u :: G) (rv v ++ H) (by rw [Nd.sizes_append, Nd.sizes_cons, Nd.sizes_cons]; omega)
              omega
            · have i1 := ih (rv t) (rv u) (rv v) (by omega)
              have i2 := ih F G H (by omega)
              have ct := cost_tri t u v
              omega
theorem fd_tri (F G H : List Nd) : fd F H ≤ fd F G + fd G H := fd_tri_n _ F G H (Nat.le_refl _)
theorem td_tri (t u v : Nd) : td t v ≤ td t u + td u v := fd_tri _ _ _
end Go.Proofs.Ytjijfgkmjachnaa
