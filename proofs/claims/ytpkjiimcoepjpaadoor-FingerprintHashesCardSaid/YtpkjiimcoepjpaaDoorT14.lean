/- Plain: the last least place of a window. -/
import Derived.Test.YtpkjiimcoepjpaaDoorT1
namespace Go.Proofs.YtpkjiimcoepjpaaDoor
set_option linter.unusedVariables false
set_option linter.unusedSimpArgs false

def hv (h : List Int) (i : Nat) : Int := h.getD i 0
/-- the last least place of a .. b -/
structure Lst (h : List Int) (a b p : Nat) : Prop where
  lo : a ≤ p
  hi : p ≤ b
  le : ∀ q, a ≤ q → q ≤ b → hv h p ≤ hv h q
  lt : ∀ q, p < q → q ≤ b → hv h p < hv h q
theorem Lst.uniq {h : List Int} {a b p q : Nat} (hp : Lst h a b p) (hq : Lst h a b q) : p = q := by
  rcases Nat.lt_trichotomy p q with h1 | h1 | h1
  · have := hp.lt q h1 hq.hi; have := hq.le p hp.lo hp.hi; omega
  · exact h1
  · have := hq.lt p h1 hp.hi; have := hp.le q hq.lo hq.hi; omega
def lst (h : List Int) (a : Nat) : Nat → Nat
  | 0 => a
  | d + 1 => if hv h (a + d + 1) ≤ hv h (lst h a d) then a + d + 1 else lst h a d
theorem lst_ok (h : List Int) (a : Nat) : ∀ d, Lst h a (a + d) (lst h a d)
  | 0 => by
    refine ⟨Nat.le_refl _, by simp [lst], fun q h1 h2 => ?_, fun q h1 h2 => ?_⟩
    · have : q = a := by omega
      subst this; exact Int.le_refl _
    · simp [lst] at h1; omega
  | d + 1 => by
    have ih := lst_ok h a d
    unfold lst
    split
    · rename_i hle
      refine ⟨by omega, by omega, fun q h1 h2 => ?_, fun q h1 h2 => by omega⟩
      by_cases hq : q = a + d + 1
      · subst hq; exact Int.le_refl _
      · have := ih.le q h1 (by omega); omega
    · rename_i hle
      refine ⟨ih.lo, by have := ih.hi; omega, fun q h1 h2 => ?_, fun q h1 h2 => ?_⟩
      · by_cases hq : q = a + d + 1
        · subst hq; omega
        · exact ih.le q h1 (by omega)
      · by_cases hq : q = a + d + 1
        · subst hq; omega
        · exact ih.lt q h1 (by omega)
/-- windows move on, and so do their last least places -/
theorem Lst.mono {h : List Int} {a b a' b' p p' : Nat} (hp : Lst h a b p) (hp' : Lst h a' b' p') (ha : a ≤ a') (hb : b ≤ b') (hab : a' ≤ b) : p ≤ p' := by
  rcases Nat.lt_or_ge p' p with h1 | h1
  · have h2 := hp'.lt p h1 (by have := hp.hi; omega)
    have h3 := hp.le p' (by have := hp'.lo; omega) (by have := hp.hi; omega)
    omega
  · exact h1
end Go.Proofs.YtpkjiimcoepjpaaDoor
