/- Plain: numbers and roots of the postorder lists. -/
import Derived.Test.YtjijfgkmjachnaaT21
namespace Go.Proofs.Ytjijfgkmjachnaa
set_option linter.unusedVariables false
set_option linter.unusedSimpArgs false

theorem postK_nums (n : Nat) : ∀ (l : List Nd), Nd.sizes l ≤ n → ∀ f m, ((postK l f m).map (·.2.2)).Perm (List.range' m (Nd.sizes l)) := by
  induction n with
  | zero =>
    intro l h f m
    cases l with
    | nil => simp [postK_nil, Nd.sizes_nil]
    | cons t ts => rw [Nd.sizes_cons] at h; have := t.size_pos; omega
  | succ n ih =>
    intro l
    induction l with
    | nil => intro _ f m; simp [postK_nil, Nd.sizes_nil]
    | cons t ts ihl =>
      intro h f m
      rw [Nd.sizes_cons] at h
      have hts := t.size_eq
      have h1 := ih t.kids (by omega) f (m + 1)
      have h2 := ihl (by omega) (f + t.size) (m + t.size)
      rw [postK_cons, List.map_append, Nd.sizes_cons, ← List.range'_append_1]
      refine List.Perm.append ?_ h2
      rw [post_eq, List.map_append, hts, Nat.add_comm 1, List.range'_succ]
      refine (List.perm_append_comm).trans ?_
      simpa using h1

theorem post_nums (t : Nd) : ((post t 0 0).map (·.2.2)).Perm (List.range' 0 t.size) := by
  have := postK_nums _ [t] (Nat.le_refl _) 0 0
  rw [postK_cons, postK_nil, List.append_nil, Nd.sizes_cons, Nd.sizes_nil, Nat.add_zero] at this
  exact this
theorem nm_get (xs : List Ent) (i : Nat) (h : i < xs.length) : (xs.map (·.2.2))[i]'(by simpa using h) = nm xs i := by
  simp [nm, ent, List.getD, h]
theorem nm_lt (t : Nd) (i : Nat) (h : i < t.size) : nm (post t 0 0) i < t.size := by
  have hl : i < (post t 0 0).length := by rw [post_len]; exact h
  have := (post_nums t).mem_iff.1 (by rw [← nm_get _ i hl]; exact List.getElem_mem _ : nm (post t 0 0) i ∈ (post t 0 0).map (·.2.2))
  simpa using this
theorem nm_inj (t : Nd) (i j : Nat) (hi : i < t.size) (hj : j < t.size) (h : nm (post t 0 0) i = nm (post t 0 0) j) : i = j := by
  have hn : ((post t 0 0).map (·.2.2)).Nodup := (post_nums t).nodup_iff.2 List.nodup_range'
  rw [← nm_get _ i (by rw [post_len]; exact hi), ← nm_get _ j (by rw [post_len]; exact hj)] at h
  exact (List.getElem_inj hn).1 h
theorem nm_surj (t : Nd) (s : Nat) (h : s < t.size) : ∃ i, i < t.size ∧ nm (post t 0 0) i = s := by
  have : s ∈ (post t 0 0).map (·.2.2) := (post_nums t).mem_iff.2 (by simpa using h)
  obtain ⟨i, hi, e⟩ := List.getElem_of_mem this
  have hi' : i < t.size := by rw [← post_len t 0 0]; simpa using hi
  exact ⟨i, hi', by rw [← nm_get _ i (by rw [post_len]; exact hi')]; exact e⟩
theorem post_last (t : Nd) : ent (post t 0 0) (t.size - 1) = (t, 0, 0) := by
  have hk := postK_len t.kids 0 1
  have hs := t.size_eq
  rw [ent_def, post_eq, getD_right _ _ _ _ (by rw [hk]; omega), hk, show t.size - 1 - Nd.sizes t.kids = 0 by omega]
  rfl

/-- i is the last place of its lf. -/
def Last (xs : List Ent) (i : Nat) : Prop := ∀ j, i < j → j < xs.length → lf xs j ≠ lf xs i
/-- a node below the root i that is not on i's own left path has its own root before i -/
theorem root_before {xs : List Ent} (hg : Good xs) {i s : Nat} (hi : i < xs.length) (h1 : lf xs i ≤ s) (h2 : s ≤ i) (hne : lf xs s ≠ lf xs i) {k : Nat} (hk : k < xs.length) (hks : lf xs k = lf xs s) : k < i := by
  rcases Nat.lt_trichotomy k i with h | h | h
  · exact h
  · subst h; exact absurd hks.symm hne
  · exfalso
    have hs := hg.lf_le s (by omega)
    have a := hg.lam h hk (by omega)
    have b := hg.lam (s := s) (j := i) (by rcases Nat.lt_or_ge s i with h | h; exact h; (exfalso; apply hne; rw [show s = i by omega])) hi h1
    omega
theorem last_le {xs : List Ent} (hg : Good xs) {i s : Nat} (hl : Last xs i) (hs : s < xs.length) (h : lf xs s = lf xs i) : lf xs i ≤ s ∧ s ≤ i := by
  have := hg.lf_le s hs
  refine ⟨by omega, ?_⟩
  rcases Nat.lt_or_ge i s with h' | h'
  · exact absurd h (hl s h' hs)
  · exact h'
theorem last_of {xs : List Ent} {s : Nat} (hs : s < xs.length) : ∃ k, k < xs.length ∧ lf xs k = lf xs s ∧ Last xs k := by
  have : ∀ d i, xs.length - i ≤ d → i < xs.length → lf xs i = lf xs s → ∃ k, k < xs.length ∧ lf xs k = lf xs s ∧ Last xs k := by
    intro d
    induction d with
    | zero => intro i h hi; omega
    | succ d ih =>
      intro i h hi he
      by_cases hq : ∃ j, i < j ∧ j < xs.length ∧ lf xs j = lf xs i
      · obtain ⟨j, h1, h2, h3⟩ := hq
        exact ih j (by omega) h2 (by rw [h3, he])
      · exact ⟨i, hi, he, fun j hj hjn hl => hq ⟨j, hj, hjn, hl⟩⟩
  exact this _ s (Nat.le_refl _) hs rfl
end Go.Proofs.Ytjijfgkmjachnaa
