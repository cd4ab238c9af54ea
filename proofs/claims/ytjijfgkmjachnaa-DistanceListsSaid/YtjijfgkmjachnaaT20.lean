/- Plain: the distance of two lists of trees, by their rightmost roots; no program here. -/
import Derived.Test.YtjijfgkmjachnaaT2
namespace Go.Proofs.Ytjijfgkmjachnaa
set_option linter.unusedVariables false
set_option linter.unusedSimpArgs false

def cost (a b : Nd) : Nat := if sameLabel a b then 0 else 1
def rv (t : Nd) : List Nd := t.kids.reverse
/-- The rightmost tree stands first. -/
def fdN : Nat → List Nd → List Nd → Nat
  | 0, _, _ => 0
  | _ + 1, [], [] => 0
  | n + 1, t :: F, [] => fdN n (rv t ++ F) [] + 1
  | n + 1, [], u :: G => fdN n [] (rv u ++ G) + 1
  | n + 1, t :: F, u :: G => min (min (fdN n (rv t ++ F) (u :: G)) (fdN n (t :: F) (rv u ++ G)) + 1) (fdN n (rv t) (rv u) + fdN n F G + cost t u)
def fd (F G : List Nd) : Nat := fdN (Nd.sizes F + Nd.sizes G) F G

theorem sizes_rev (l : List Nd) : Nd.sizes l.reverse = Nd.sizes l := by
  induction l with
  | nil => rfl
  | cons t ts ih => rw [List.reverse_cons, Nd.sizes_append, ih, Nd.sizes_cons, Nd.sizes_cons, Nd.sizes_nil]; omega
theorem sizes_rv (t : Nd) : Nd.sizes (rv t) + 1 = t.size := by unfold rv; rw [sizes_rev, t.size_eq]; omega

theorem fdN_stable (n : Nat) : ∀ (m : Nat) (F G : List Nd), Nd.sizes F + Nd.sizes G ≤ n → Nd.sizes F + Nd.sizes G ≤ m → fdN n F G = fdN m F G := by
  induction n with
  | zero =>
    intro m F G h _
    cases F with
    | cons t F => rw [Nd.sizes_cons] at h; have := t.size_pos; omega
    | nil =>
      cases G with
      | cons u G => rw [Nd.sizes_cons] at h; have := u.size_pos; omega
      | nil => cases m <;> rfl
  | succ n ih =>
    intro m F G h h2
    cases m with
    | zero =>
      cases F with
      | cons t F => rw [Nd.sizes_cons] at h2; have := t.size_pos; omega
      | nil =>
        cases G with
        | cons u G => rw [Nd.sizes_cons] at h2; have := u.size_pos; omega
        | nil => rfl
    | succ m =>
      cases F with
      | nil =>
        cases G with
        | nil => rfl
        | cons u G =>
          have := sizes_rv u
          rw [Nd.sizes_cons] at h h2
          simp only [fdN]
          rw [ih m [] (rv u ++ G) (by rw [Nd.sizes_append]; omega) (by rw [Nd.sizes_append]; omega)]
      | cons t F =>
        have ht := sizes_rv t
        cases G with
        | nil =>
          rw [Nd.sizes_cons] at h h2
          simp only [fdN]
          rw [ih m (rv t ++ F) [] (by rw [Nd.sizes_append]; omega) (by rw [Nd.sizes_append]; omega)]
        | cons u G =>
          have hu := sizes_rv u
          rw [Nd.sizes_cons, Nd.sizes_cons] at h h2
          simp only [fdN]
          rw [ih m (rv t ++ F) (u :: G) (by rw [Nd.sizes_append, Nd.sizes_cons]; omega) (by rw [Nd.sizes_append, Nd.sizes_cons]; omega),
            ih m (t :: F) (rv u ++ G) (by rw [Nd.sizes_append, Nd.sizes_cons]; omega) (by rw [Nd.sizes_append, Nd.sizes_cons]; omega),
            ih m (rv t) (rv u) (by omega) (by omega), ih m F G (by omega) (by omega)]
theorem fd_of (n : Nat) (F G : List Nd) (h : Nd.sizes F + Nd.sizes G ≤ n) : fdN n F G = fd F G := fdN_stable n _ F G h (Nat.le_refl _)

theorem fd_nn : fd [] [] = 0 := rfl
theorem fd_cn (t : Nd) (F : List Nd) : fd (t :: F) [] = fd (rv t ++ F) [] + 1 := by
  have ht := sizes_rv t
  rw [← fd_of (Nd.sizes (t :: F) + Nd.sizes [] + 1) (t :: F) [] (by omega)]
  simp only [fdN]
  rw [fd_of _ _ _ (by rw [Nd.sizes_append, Nd.sizes_cons]; omega)]
theorem fd_nc (u : Nd) (G : List Nd) : fd [] (u :: G) = fd [] (rv u ++ G) + 1 := by
  have ht := sizes_rv u
  rw [← fd_of (Nd.sizes [] + Nd.sizes (u :: G) + 1) [] (u :: G) (by omega)]
  simp only [fdN]
  rw [fd_of _ _ _ (by rw [Nd.sizes_append, Nd.sizes_cons]; omega)]
theorem fd_cc (t u : Nd) (F G : List Nd) : fd (t :: F) (u :: G) = min (min (fd (rv t ++ F) (u :: G)) (fd (t :: F) (rv u ++ G)) + 1) (fd (rv t) (rv u) + fd F G + cost t u) := by
  have ht := sizes_rv t
  have hu := sizes_rv u
  rw [← fd_of (Nd.sizes (t :: F) + Nd.sizes (u :: G) + 1) (t :: F) (u :: G) (by omega)]
  simp only [fdN]
  rw [fd_of _ _ _ (by rw [Nd.sizes_append, Nd.sizes_cons, Nd.sizes_cons]; omega), fd_of _ _ _ (by rw [Nd.sizes_append, Nd.sizes_cons, Nd.sizes_cons]; omega),
    fd_of _ _ _ (by rw [Nd.sizes_cons, Nd.sizes_cons]; omega), fd_of _ _ _ (by rw [Nd.sizes_cons, Nd.sizes_cons]; omega)]

theorem fd_nil_right (n : Nat) : ∀ F : List Nd, Nd.sizes F ≤ n → fd F [] = Nd.sizes F := by
  induction n with
  | zero => intro F h; cases F with
    | nil => rfl
    | cons t F => rw [Nd.sizes_cons] at h; have := t.size_pos; omega
  | succ n ih => intro F h; cases F with
    | nil => rfl
    | cons t F =>
      have ht := sizes_rv t
      rw [Nd.sizes_cons] at h
      rw [fd_cn, ih _ (by rw [Nd.sizes_append]; omega), Nd.sizes_append, Nd.sizes_cons]; omega
theorem fd_nil_left (n : Nat) : ∀ F : List Nd, Nd.sizes F ≤ n → fd [] F = Nd.sizes F := by
  induction n with
  | zero => intro F h; cases F with
    | nil => rfl
    | cons t F => rw [Nd.sizes_cons] at h; have := t.size_pos; omega
  | succ n ih => intro F h; cases F with
    | nil => rfl
    | cons t F =>
      have ht := sizes_rv t
      rw [Nd.sizes_cons] at h
      rw [fd_nc, ih _ (by rw [Nd.sizes_append]; omega), Nd.sizes_append, Nd.sizes_cons]; omega
theorem fd_right (F : List Nd) : fd F [] = Nd.sizes F := fd_nil_right _ F (Nat.le_refl _)
theorem fd_left (F : List Nd) : fd [] F = Nd.sizes F := fd_nil_left _ F (Nat.le_refl _)

theorem fd_del (t : Nd) (F G : List Nd) : fd (t :: F) G ≤ fd (rv t ++ F) G + 1 := by
  cases G with
  | nil => rw [fd_cn]; exact Nat.le_refl _
  | cons u G => rw [fd_cc]; omega
theorem fd_ins (u : Nd) (F G : List Nd) : fd F (u :: G) ≤ fd F (rv u ++ G) + 1 := by
  cases F with
  | nil => rw [fd_nc]; exact Nat.le_refl _
  | cons t F => rw [fd_cc]; omega
theorem fd_pair (t u : Nd) (F G : List Nd) : fd (t :: F) (u :: G) ≤ fd (rv t) (rv u) + fd F G + cost t u := by rw [fd_cc]; omega
/-- one of the three -/
theorem fd_cases (t u : Nd) (F G : List Nd) : fd (t :: F) (u :: G) = fd (rv t ++ F) (u :: G) + 1 ∨ fd (t :: F) (u :: G) = fd (t :: F) (rv u ++ G) + 1 ∨ fd (t :: F) (u :: G) = fd (rv t) (rv u) + fd F G + cost t u := by
  rw [fd_cc]; omega

/-- side by side -/
theorem fd_append (n : Nat) : ∀ (A B C D : List Nd), Nd.sizes A + Nd.sizes C ≤ n → fd (A ++ B) (C ++ D) ≤ fd A C + fd B D := by
  induction n with
  | zero =>
    intro A B C D h
    cases A with
    | cons t A => rw [Nd.sizes_cons] at h; have := t.size_pos; omega
    | nil =>
      cases C with
      | cons u C => rw [Nd.sizes_cons] at h; have := u.size_pos; omega
      | nil => simp [fd_nn]
  | succ n ih =>
    intro A B C D h
    cases A with
    | nil =>
      cases C with
      | nil => simp [fd_nn]
      | cons u C =>
        have hu := sizes_rv u
        rw [Nd.sizes_cons] at h
        have h1 := ih [] B (rv u ++ C) D (by rw [Nd.sizes_append]; omega)
        have h2 := fd_ins u ([] ++ B) (C ++ D)
        rw [List.append_assoc] at h1
        rw [List.cons_append, fd_nc]
        omega
    | cons t A =>
      have ht := sizes_rv t
      cases C with
      | nil =>
        rw [Nd.sizes_cons] at h
        have h1 := ih (rv t ++ A) B [] D (by rw [Nd.sizes_append]; omega)
        have h2 := fd_del t (A ++ B) ([] ++ D)
        rw [List.append_assoc] at h1
        rw [List.cons_append, fd_cn]
        omega
      | cons u C =>
        have hu := sizes_rv u
        rw [Nd.sizes_cons, Nd.sizes_cons] at h
        rcases fd_cases t u A C with e | e | e
        · have h1 := ih (rv t ++ A) B (u :: C) D (by rw [Nd.sizes_append, Nd.sizes_cons]; omega)
          have h2 := fd_del t (A ++ B) (u :: C ++ D)
          rw [List.append_assoc] at h1
          rw [List.cons_append, e]
          omega
        · have h1 := ih (t :: A) B (rv u ++ C) D (by rw [Nd.sizes_append, Nd.sizes_cons]; omega)
          have h2 := fd_ins u (t :: A ++ B) (C ++ D)
          rw [List.append_assoc] at h1
          rw [List.cons_append (a := u), e]
          omega
        · have h1 := ih A B C D (by omega)
          have h2 := fd_pair t u (A ++ B) (C ++ D)
          rw [List.cons_append, List.cons_append, e]
          omega
theorem fd_app (A B C D : List Nd) : fd (A ++ B) (C ++ D) ≤ fd A C + fd B D := fd_append _ A B C D (Nat.le_refl _)

/-- The distance of two trees. -/
def td (t u : Nd) : Nat := fd [t] [u]
theorem td_le_pair (t u : Nd) : td t u ≤ fd (rv t) (rv u) + cost t u := by have := fd_pair t u [] []; rw [fd_nn] at this; exact this
/-- The step of the table where the two trees stand beside others. -/
theorem fd_step (t u : Nd) (F G : List Nd) : fd (t :: F) (u :: G) = min (min (fd (rv t ++ F) (u :: G)) (fd (t :: F) (rv u ++ G)) + 1) (fd F G + td t u) := by
  have h1 := fd_cc t u F G
  have h2 : fd (t :: F) (u :: G) ≤ td t u + fd F G := fd_app [t] F [u] G
  have h3 := td_le_pair t u
  omega
end Go.Proofs.Ytjijfgkmjachnaa
