/- Plain: what few says. -/
import Derived.Test.YtjijfgkmjachnaaT27
import Derived.Test.YtjijfgkmjachnaaT4
import Derived.Test.YtjijfgkmjachnaaT25
import Derived.Test.YtjijfgkmjachnaaT50
namespace Go.Proofs.Ytjijfgkmjachnaa
set_option linter.unusedVariables false
set_option linter.unusedSimpArgs false
open Go.RowKit

theorem fewN_size (n : Nat) : ∀ (t : Nd) (left : Int), 0 ≤ fewN n t left → fewN n t left + t.size = left := by
  induction n with
  | zero => intro t left h; simp [fewN] at h
  | succ n ih =>
    intro t left h
    have key : ∀ (l : List Nd) (x : Int), 0 ≤ l.foldl (fun l k => if 0 ≤ l then fewN n k l else l) x → l.foldl (fun l k => if 0 ≤ l then fewN n k l else l) x + Nd.sizes l = x := by
      intro l
      induction l with
      | nil => intro x _; rw [Nd.sizes_nil]; simp
      | cons k l ihl =>
        intro x hx
        rw [List.foldl_cons] at hx ⊢
        by_cases h0 : 0 ≤ x
        · rw [if_pos h0] at hx ⊢
          have h1 := ihl _ hx
          by_cases h2 : 0 ≤ fewN n k x
          · have := ih k x h2
            rw [Nd.sizes_cons]
            omega
          · exfalso
            have := foldl_stuck n l (fewN n k x) (by omega)
            omega
        · exfalso
          rw [if_neg h0] at hx
          have := foldl_stuck n l x (by omega)
          omega
    have ht := t.size_eq
    simp only [fewN] at h ⊢
    by_cases hc : left < 1 ∨ 40 < t.text.size
    · rw [if_pos hc] at h; omega
    · rw [if_neg hc] at h ⊢
      have := key t.kids (left - 1) h
      omega
theorem FewB_size {t : Nd} {m : Int} (h : FewB t m = true) : (t.size : Int) ≤ m := by
  have h0 : 0 ≤ fewN t.size t m := by simpa [FewB] using h
  have := fewN_size _ t m h0
  omega
theorem small2 {a b : Nd} (ha : a.size ≤ 256) (hb : b.size ≤ 256) : bigAny [a, b] = false := by
  simp [bigAny]; omega
theorem dV_small {a b : Nd} (ha : a.size ≤ 256) (hb : b.size ≤ 256) : dV a b = (td a b : Nat) := by unfold dV; rw [small2 ha hb]; rfl
theorem dC_small {a b : Nd} (ha : a.size ≤ 256) (hb : b.size ≤ 256) : dC a b = 0 := by unfold dC; rw [small2 ha hb]; rfl
theorem heap3' (w : World) (a b c : Nd) (A B C : Option Addr) (cA cB cC : Nat) (W : World) (hW : ((w.alloc (.cells (cells5 a A cA).toArray 24)).alloc (.cells (cells5 b B cB).toArray 24)).alloc (.cells (cells5 c C cC).toArray 24) = W) :
    At5 W w.heap.size 0 a A cA ∧ At5 W (w.heap.size + 1) 0 b B cB ∧ At5 W (w.heap.size + 2) 0 c C cC ∧ Below w.heap.size w W := by
  subst hW
  obtain ⟨h0, h1, h2⟩ := heap3 w (.cells (cells5 a A cA).toArray 24) (.cells (cells5 b B cB).toArray 24) (.cells (cells5 c C cC).toArray 24)
  exact ⟨At5.of h0, At5.of h1, At5.of h2, (((Below.refl _ _).alloc (Nat.le_refl _) _).alloc (by simp) _).alloc (by simp; omega) _⟩
end Go.Proofs.Ytjijfgkmjachnaa
