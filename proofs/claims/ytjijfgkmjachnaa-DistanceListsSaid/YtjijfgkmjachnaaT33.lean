import Derived.Test.YtjijfgkmjachnaaT32
import Derived.Test.YtjijfgkmjachnaaT12
namespace Go.Proofs.Ytjijfgkmjachnaa
set_option linter.unusedVariables false
set_option linter.unusedSimpArgs false
open Go.RowKit

/-- a tree, flattened -/
def Fl (W : World) (t : Nd) (v : Value) : Prop :=
  ∃ gL gF gN cL cF cN, v = .agg #[.slice (some ⟨gL, 0, none⟩) t.size cL, .slice (some ⟨gF, 0, none⟩) t.size cF, .slice (some ⟨gN, 0, none⟩) t.size cN] ∧ Flat W (post t 0 0) t.size gL gF gN

theorem Flat.below {w W : World} {xs : List Ent} {n gL gF gN : Nat} (h : Flat w xs n gL gF gN) (hb : Below w.heap.size w W) : Flat W xs n gL gF gN :=
  h.keep (S := fun _ => False) (Keeps.of_below hb) id id id
theorem Fl.below {w W : World} {t : Nd} {v : Value} (h : Fl w t v) (hb : Below w.heap.size w W) : Fl W t v := by
  obtain ⟨gL, gF, gN, cL, cF, cN, e, hf⟩ := h
  exact ⟨gL, gF, gN, cL, cF, cN, e, hf.below hb⟩
/-- a block whose first cell is a slice is none of a flattened tree's -/
theorem Flat.ne {w : World} {t : Nd} {gL gF gN b n : Nat} {A : Option Addr} {c : Nat} (h : Flat w (post t 0 0) t.size gL gF gN) (hb : w.cell? ⟨b, 0, none⟩ = some (.slice A n c)) : b ≠ gL ∧ b ≠ gF ∧ b ≠ gN := by
  have hp := t.size_pos
  refine ⟨?_, ?_, ?_⟩
  · rintro rfl; have := h.lab0 0 hp; simp [hb] at this
  · rintro rfl; have := h.lef 0 hp; simp [hb] at this
  · rintro rfl; have := h.num 0 hp; simp [hb] at this
theorem Fl.set {w W : World} {t : Nd} {v : Value} {b n : Nat} {A : Option Addr} {c : Nat} (h : Fl w t v) (hb : w.cell? ⟨b, 0, none⟩ = some (.slice A n c)) (hk : Keeps (· = b) w W) : Fl W t v := by
  obtain ⟨gL, gF, gN, cL, cF, cN, e, hf⟩ := h
  obtain ⟨h1, h2, h3⟩ := hf.ne hb
  exact ⟨gL, gF, gN, cL, cF, cN, e, hf.keep hk h1.symm h2.symm h3.symm⟩
theorem flattenF (t : Nd) (A : Option Addr) (c : Nat) (w : World) (hR : RN w t A c) (hn : t.size ≤ 1000000) :
    Calls Try.prog 34 #[t.val A c] w fun e w' => (∃ v, e = .returned v ∧ Fl w' t v) ∧ Below w.heap.size w w' := by
  refine (flatten t A c w hR hn).mono ?_
  rintro e w' ⟨⟨gL, gF, gN, cL, cF, cN, rfl, hf, _⟩, hb⟩
  exact ⟨⟨_, rfl, gL, gF, gN, cL, cF, cN, rfl, hf⟩, hb⟩

theorem filler (x0 x1 x2 y0 y1 y2 : Value) (A : Option Addr) (n c : Nat) (w : World) :
    Calls Try.prog 41 #[.agg #[x0, x1, x2], .agg #[y0, y1, y2], .slice A n c] w fun e w' => e = .returned (.func (.func 46) #[] #[.pointer (some ⟨w.heap.size, 0, none⟩), .pointer (some ⟨w.heap.size + 1, 0, none⟩), .pointer (some ⟨w.heap.size + 2, 0, none⟩)]) ∧
      w' = ((w.alloc (.cells #[x0, x1, x2] 66)).alloc (.cells #[y0, y1, y2] 66)).alloc (.cells #[.slice A n c] 30) := by
  go_enter Try.func41, Try.ntmps41
  go_wp2_with fail
  go_ret
  exact ⟨rfl, rfl⟩
end Go.Proofs.Ytjijfgkmjachnaa
