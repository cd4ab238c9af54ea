/- Plain: the labels of a tree that was read are well formed. -/
import Derived.Test.YtjijfgkmjachnaaT60
import Derived.Test.YtjijfgkmjachnaaT27
namespace Go.Proofs.Ytjijfgkmjachnaa
set_option linter.unusedVariables false
set_option linter.unusedSimpArgs false

theorem labsF_ok (n : Nat) : ∀ l : List Nd, Nd.sizes l ≤ n → (∀ t ∈ l, OkN t) → ∀ p ∈ labsF l, LabP p := by
  induction n with
  | zero => intro l h ho p hp; cases l with
    | nil => rw [labsF_nil] at hp; cases hp
    | cons t ts => rw [Nd.sizes_cons] at h; have := t.size_pos; omega
  | succ n ih => intro l h ho p hp; cases l with
    | nil => rw [labsF_nil] at hp; cases hp
    | cons t ts =>
      have ht := t.size_eq
      rw [Nd.sizes_cons] at h
      rw [labsF_cons] at hp
      obtain ⟨_, hk, hs, hkids⟩ := ho t (by simp)
      rcases List.mem_cons.1 hp with rfl | hp
      · refine ⟨hk, ?_⟩
        show t.text.data.toList.length ≤ maxLen
        rw [Array.length_toList]
        exact hs
      · rcases List.mem_append.1 hp with hp | hp
        · exact ih t.kids (by omega) hkids p hp
        · exact ih ts (by have := t.size_pos; omega) (fun t ht => ho t (by simp [ht])) p hp
theorem OkN.lab {t : Nd} (h : OkN t) : LabW t := by
  intro p hp
  have hc : 0 < (labsF [t]).count p := by rw [← labs_count]; exact List.count_pos_iff.2 hp
  exact labsF_ok _ [t] (Nat.le_refl _) (fun u hu => by rw [List.mem_singleton.1 hu]; exact h) p (List.count_pos_iff.1 hc)
end Go.Proofs.Ytjijfgkmjachnaa
