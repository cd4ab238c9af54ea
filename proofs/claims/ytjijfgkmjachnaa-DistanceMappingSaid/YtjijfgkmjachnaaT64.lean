/- Plain: the distance by the leftmost roots, and as the least cost of a mapping. -/
import Derived.Test.YtjijfgkmjachnaaC4
namespace Go.Proofs.Ytjijfgkmjachnaa
set_option linter.unusedVariables false
set_option linter.unusedSimpArgs false

/-- The leftmost tree stands first. -/
def flN : Nat → List Nd → List Nd → Nat
  | 0, _, _ => 0
  | _ + 1, [], [] => 0
  | n + 1, t :: F, [] => flN n (t.kids ++ F) [] + 1
  | n + 1, [], u :: G => flN n [] (u.kids ++ G) + 1
  | n + 1, t :: F, u :: G => min (min (flN n (t.kids ++ F) (u :: G)) (flN n (t :: F) (u.kids ++ G)) + 1) (flN n t.kids u.kids + flN n F G + cost t u)

/-- The mirror of a tree. -/
def mirN : Nat → Nd → Nd
  | 0, t => t
  | n + 1, t => .mk t.kind t.text t.pos t.fin (t.kids.map (mirN n)).reverse
theorem mirN_stable (n : Nat) : ∀ (m : Nat) (t : Nd), t.size ≤ n → t.size ≤ m → mirN n t = mirN m t := by
  induction n with
  | zero => intro m t h; have := t.size_pos; omega
  | succ n ih =>
    intro m t h h2
    cases m with
    | zero => have := t.size_pos; omega
    | succ m =>
      simp only [mirN]
      congr 2
      refine List.map_congr_left fun k hk => ?_
      have := Nd.size_kid hk
      exact ih m k (by omega) (by omega)
def mir (t : Nd) : Nd := mirN t.size t
theorem mir_eq (t : Nd) : mir t = .mk t.kind t.text t.pos t.fin (t.kids.map mir).reverse := by
  unfold mir
  have hp := t.size_pos
  obtain ⟨n, hn⟩ : ∃ n, t.size = n + 1 := ⟨t.size - 1, by omega⟩
  rw [hn]
  simp only [mirN]
  congr 2
  refine List.map_congr_left fun k hk => ?_
  have := Nd.size_kid hk
  exact mirN_stable _ _ k (by omega) (Nat.le_refl _)
theorem mir_kids (t : Nd) : (mir t).kids = (t.kids.map mir).reverse := by rw [mir_eq]; rfl
theorem rv_mir (t : Nd) : rv (mir t) = t.kids.map mir := by unfold rv; rw [mir_kids, List.reverse_reverse]
theorem sizes_map_mir (n : Nat) : ∀ l : List Nd, Nd.sizes l ≤ n → Nd.sizes (l.map mir) = Nd.sizes l := by
  induction n with
  | zero => intro l h; cases l with
    | nil => rfl
    | cons t ts => rw [Nd.sizes_cons] at h; have := t.size_pos; omega
  | succ n ih => intro l h; cases l with
    | nil => rfl
    | cons t ts =>
      have ht := t.size_eq
      have hp := t.size_pos
      rw [Nd.sizes_cons] at h
      rw [List.map_cons, Nd.sizes_cons, Nd.sizes_cons, ih ts (by omega), Nd.size_eq (mir t), mir_kids, sizes_rev, ih t.kids (by omega)]
      omega
theorem sizes_mir (l : List Nd) : Nd.sizes (l.map mir) = Nd.sizes l := sizes_map_mir _ l (Nat.le_refl _)
theorem cost_mir (t u : Nd) : cost (mir t) (mir u) = cost t u := by
  unfold cost sameLabel
  rw [mir_eq t, mir_eq u]
  rfl
/-- 'by the leftmost roots' is 'by the rightmost roots' of the mirrored trees -/
theorem flN_mir (n : Nat) : ∀ F G : List Nd, Nd.sizes F + Nd.sizes G ≤ n → flN n F G = fd (F.map mir) (G.map mir) := by
  induction n with
  | zero =>
    intro F G h
    cases F with
    | cons t F => rw [Nd.sizes_cons] at h; have := t.size_pos; omega
    | nil =>
      cases G with
      | cons u G => rw [Nd.sizes_cons] at h; have := u.size_pos; omega
      | nil => rfl
  | succ n ih =>
    intro F G h
    cases F with
    | nil =>
      cases G with
      | nil => rfl
      | cons u G =>
        have hu := u.size_eq
        rw [Nd.sizes_cons] at h
        simp only [flN, List.map_nil, List.map_cons]
        rw [fd_nc, ih [] (u.kids ++ G) (by rw [Nd.sizes_append]; omega), rv_mir, List.map_append, List.map_nil]
    | cons t F =>
      have ht := t.size_eq
      cases G with
      | nil =>
        rw [Nd.sizes_cons] at h
        simp only [flN, List.map_nil, List.map_cons]
        rw [fd_cn, ih (t.kids ++ F) [] (by rw [Nd.sizes_append]; omega), rv_mir, List.map_append, List.map_nil]
      | cons u G =>
        have hu := u.size_eq
        rw [Nd.sizes_cons, Nd.sizes_cons] at h
        simp only [flN, List.map_cons]
        rw [fd_cc, ih (t.kids ++ F) (u :: G) (by rw [Nd.sizes_append, Nd.sizes_cons]; omega), ih (t :: F) (u.kids ++ G) (by rw [Nd.sizes_append, Nd.sizes_cons]; omega),
          ih t.kids u.kids (by omega), ih F G (by omega), rv_mir, rv_mir, List.map_append, List.map_append, List.map_cons, List.map_cons, cost_mir]
theorem fd_root (X Y : List Nd) (t : Nd) : fd (X ++ t :: Y) (X ++ (rv t ++ Y)) ≤ 1 := by
  have h1 := fd_app X (t :: Y) X (rv t ++ Y)
  have h2 := fd_app [t] Y (rv t) Y
  have h3 := fd_del t [] (rv t)
  rw [List.append_nil, fd_self] at h3
  rw [fd_self] at h1 h2
  simp only [List.cons_append, List.nil_append] at h2
  omega
theorem fd_comm_le (F G : List Nd) : fd F G = fd G F := fd_comm F G
/-- The rightmost road costs no more than the leftmost one. -/
theorem fd_le_flN (n : Nat) : ∀ F G : List Nd, Nd.sizes F + Nd.sizes G ≤ n → fd F.reverse G.reverse ≤ flN n F G := by
  induction n with
  | zero =>
    intro F G h
    cases F with
    | cons t F => rw [Nd.sizes_cons] at h; have := t.size_pos; omega
    | nil =>
      cases G with
      | cons u G => rw [Nd.sizes_cons] at h; have := u.size_pos; omega
      | nil => simp [fd_nn, flN]
  | succ n ih =>
    intro F G h
    have del : ∀ (t : Nd) (F G : List Nd), fd (t :: F).reverse G ≤ fd (t.kids ++ F).reverse G + 1 := fun t F G => by
      have h1 := fd_tri (t :: F).reverse (t.kids ++ F).reverse G
      have h2 := fd_root F.reverse [] t
      rw [List.append_nil] at h2
      rw [List.reverse_cons, List.reverse_append] at h1 ⊢
      unfold rv at h2
      rw [show F.reverse ++ t :: [] = F.reverse ++ [t] from rfl] at h2
      omega
    cases F with
    | nil =>
      cases G with
      | nil => simp [fd_nn]
      | cons u G =>
        have hu := u.size_eq
        rw [Nd.sizes_cons] at h
        have i1 := ih [] (u.kids ++ G) (by rw [Nd.sizes_append]; omega)
        have d1 := del u G []
        rw [fd_comm, fd_comm _ []] at d1
        simp only [flN, List.reverse_nil] at i1 ⊢
        omega
    | cons t F =>
      have ht := t.size_eq
      cases G with
      | nil =>
        rw [Nd.sizes_cons] at h
        have i1 := ih (t.kids ++ F) [] (by rw [Nd.sizes_append]; omega)
        have d1 := del t F []
        simp only [flN, List.reverse_nil] at i1 ⊢
        omega
      | cons u G =>
        have hu := u.size_eq
        rw [Nd.sizes_cons, Nd.sizes_cons] at h
        have i1 := ih (t.kids ++ F) (u :: G) (by rw [Nd.sizes_append, Nd.sizes_cons]; omega)
        have i2 := ih (t :: F) (u.kids ++ G) (by rw [Nd.sizes_append, Nd.sizes_cons]; omega)
        have i3 := ih t.kids u.kids (by omega)
        have i4 := ih F G (by omega)
        have d1 := del t F (u :: G).reverse
        have d2 := del u G (t :: F).reverse
        rw [fd_comm, fd_comm _ (t :: F).reverse] at d2
        have d3 : fd (t :: F).reverse (u :: G).reverse ≤ fd F.reverse G.reverse + td t u := by
          rw [List.reverse_cons, List.reverse_cons]
          exact fd_app F.reverse [t] G.reverse [u]
        have d4 := td_le_pair t u
        unfold rv at d4
        simp only [flN]
        omega
theorem mir_mir (n : Nat) : ∀ t : Nd, t.size ≤ n → mir (mir t) = t := by
  induction n with
  | zero => intro t h; have := t.size_pos; omega
  | succ n ih =>
    intro t h
    rw [mir_eq (mir t), mir_kids, List.map_reverse, List.reverse_reverse, List.map_map]
    have : t.kids.map (mir ∘ mir) = t.kids := (List.map_congr_left (g := id) (fun k hk => ih k (by have := Nd.size_kid hk; omega))).trans (List.map_id _)
    rw [this, mir_eq t]
    cases t
    rfl
theorem map_mir_mir (l : List Nd) : (l.map mir).map mir = l := by
  rw [List.map_map]
  exact (List.map_congr_left (g := id) (fun k _ => mir_mir _ k (Nat.le_refl _))).trans (List.map_id _)
def fl (F G : List Nd) : Nat := flN (Nd.sizes F + Nd.sizes G) F G
theorem fl_mir (F G : List Nd) : fl F G = fd (F.map mir) (G.map mir) := flN_mir _ F G (Nat.le_refl _)
theorem fl_eq (F G : List Nd) : fl F G = fd F.reverse G.reverse := by
  refine Nat.le_antisymm ?_ (fd_le_flN _ F G (Nat.le_refl _))
  have h := fd_le_flN _ (F.map mir).reverse (G.map mir).reverse (Nat.le_refl _)
  rw [List.reverse_reverse, List.reverse_reverse] at h
  rw [fl_mir]
  refine Nat.le_trans h ?_
  have h2 := fl_mir (F.map mir).reverse (G.map mir).reverse
  unfold fl at h2
  rw [h2, List.map_reverse, List.map_reverse, map_mir_mir, map_mir_mir]
  exact Nat.le_refl _
theorem td_fl (t u : Nd) : fl [t] [u] = td t u := fl_eq [t] [u]
theorem fl_of (n : Nat) (F G : List Nd) (h : Nd.sizes F + Nd.sizes G ≤ n) : flN n F G = fl F G := by rw [flN_mir n F G h, fl_mir]
theorem fl_nn : fl [] [] = 0 := rfl
theorem fl_nil_left (G : List Nd) : fl [] G = Nd.sizes G := by rw [fl_eq, List.reverse_nil, fd_left, sizes_rev]
theorem fl_nil_right (F : List Nd) : fl F [] = Nd.sizes F := by rw [fl_eq, List.reverse_nil, fd_right, sizes_rev]
theorem fl_cc (t u : Nd) (F G : List Nd) : fl (t :: F) (u :: G) = min (min (fl (t.kids ++ F) (u :: G)) (fl (t :: F) (u.kids ++ G)) + 1) (fl t.kids u.kids + fl F G + cost t u) := by
  rw [fl_mir, fl_mir, fl_mir, fl_mir, fl_mir, List.map_cons, List.map_cons, fd_cc, rv_mir, rv_mir]
  simp only [List.map_append, List.map_cons, cost_mir]
end Go.Proofs.Ytjijfgkmjachnaa
