/- Plain: replacing one subtree by another. -/
import Derived.Test.YtjijfgkmjachnaaT25
namespace Go.Proofs.Ytjijfgkmjachnaa
set_option linter.unusedVariables false
set_option linter.unusedSimpArgs false

def Nd.setKids (t : Nd) (l : List Nd) : Nd := .mk t.kind t.text t.pos t.fin l
/-- x is t with one subtree 'old' replaced by u. -/
inductive Rep (u : Nd) : Nd → Nd → Nd → Prop where
  | here (t : Nd) : Rep u t u t
  | kid (t x old : Nd) (i : Nat) (h : i < t.kids.length) (r : Rep u t.kids[i] x old) : Rep u t (t.setKids (t.kids.set i x)) old

theorem setKids_kids (t : Nd) (l : List Nd) : (t.setKids l).kids = l := rfl
theorem sameLabel_set (t : Nd) (l : List Nd) : sameLabel t (t.setKids l) = true := by
  unfold sameLabel Nd.setKids
  cases t
  simp [Nd.kind, Nd.text]
theorem sameLabel_self (t : Nd) : sameLabel t t = true := by
  unfold sameLabel
  simp
theorem td_self_n (n : Nat) : ∀ a : Nd, a.size ≤ n → td a a = 0 := by
  induction n with
  | zero => intro a h; have := a.size_pos; omega
  | succ n ih =>
    intro a h
    have ha := a.size_eq
    exact (td_zero a a).2 ⟨sameLabel_self a, (rv_zero a a).2 ⟨rfl, fun i h1 _ => ih _ (by have := size_le_sizes a.kids i h1; omega)⟩⟩
theorem td_self (a : Nd) : td a a = 0 := td_self_n _ a (Nat.le_refl _)
theorem fd_self (F : List Nd) : fd F F = 0 := (fd_zero F F).2 ⟨rfl, fun _ _ _ => td_self _⟩

theorem split_at (l : List Nd) (i : Nat) (h : i < l.length) (x : Nd) : l = l.take i ++ l[i] :: l.drop (i + 1) ∧ l.set i x = l.take i ++ x :: l.drop (i + 1) := by
  constructor
  · rw [List.getElem_cons_drop, List.take_append_drop]
  · rw [List.set_eq_take_append_cons_drop, if_pos h]

theorem Rep.td_le {u t x old : Nd} (r : Rep u t x old) : td t x ≤ td old u := by
  induction r with
  | here t => exact Nat.le_refl _
  | kid t x old i h r ih =>
    have h1 := td_le_pair t (t.setKids (t.kids.set i x))
    have hc : cost t (t.setKids (t.kids.set i x)) = 0 := by unfold cost; rw [sameLabel_set]; rfl
    obtain ⟨e1, e2⟩ := split_at t.kids i h x
    have h2 : fd (rv t) (rv (t.setKids (t.kids.set i x))) ≤ td t.kids[i] x := by
      unfold rv
      rw [setKids_kids, e2]
      conv => lhs; arg 1; rw [e1]
      rw [List.reverse_append, List.reverse_append, List.reverse_cons, List.reverse_cons, List.append_assoc, List.append_assoc]
      have a1 := fd_app (t.kids.drop (i + 1)).reverse ([t.kids[i]] ++ (t.kids.take i).reverse) (t.kids.drop (i + 1)).reverse ([x] ++ (t.kids.take i).reverse)
      have a2 := fd_app [t.kids[i]] (t.kids.take i).reverse [x] (t.kids.take i).reverse
      rw [fd_self] at a1 a2
      have : fd [t.kids[i]] [x] = td t.kids[i] x := rfl
      omega
    omega
theorem Rep.size_le {u t x old : Nd} (r : Rep u t x old) : x.size ≤ t.size + u.size ∧ old.size ≤ t.size := by
  induction r with
  | here t => exact ⟨by omega, Nat.le_refl _⟩
  | kid t x old i h r ih =>
    obtain ⟨e1, e2⟩ := split_at t.kids i h x
    have s1 : Nd.sizes t.kids = Nd.sizes (t.kids.take i) + (t.kids[i].size + Nd.sizes (t.kids.drop (i + 1))) := by
      conv => lhs; rw [e1]
      rw [Nd.sizes_append, Nd.sizes_cons]
    have s2 : (t.setKids (t.kids.set i x)).size = 1 + (Nd.sizes (t.kids.take i) + (x.size + Nd.sizes (t.kids.drop (i + 1)))) := by
      rw [Nd.size_eq, setKids_kids, e2, Nd.sizes_append, Nd.sizes_cons]
    have := t.size_eq
    omega
end Go.Proofs.Ytjijfgkmjachnaa
