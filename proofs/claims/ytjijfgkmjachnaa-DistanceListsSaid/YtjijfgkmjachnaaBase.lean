/- Shared words: trees as data, how they lie in memory, and small facts on worlds. -/
import Derived.Below
import Derived.WalkKit
import Derived.OwnWalk
import Derived.WalkSmall
import Derived.Lib.Hide
import Derived.Laws.NewBlocks
namespace Go.Proofs.Ytjijfgkmjachnaa
set_option linter.unusedVariables false
set_option linter.unusedSimpArgs false
open Go.RowKit

/-! ### trees -/
inductive Nd where
  | mk (kind : Int) (text : ByteArray) (pos fin : Int) (kids : List Nd)
namespace Nd
def kind : Nd → Int | .mk k _ _ _ _ => k
def text : Nd → ByteArray | .mk _ t _ _ _ => t
def pos : Nd → Int | .mk _ _ a _ _ => a
def fin : Nd → Int | .mk _ _ _ e _ => e
def kids : Nd → List Nd | .mk _ _ _ _ l => l
mutual
def size : Nd → Nat | .mk _ _ _ _ l => 1 + sizes l
def sizes : List Nd → Nat | [] => 0 | t :: ts => size t + sizes ts
end
theorem size_eq (t : Nd) : t.size = 1 + sizes t.kids := by cases t; simp [size, kids]
theorem sizes_nil : sizes [] = 0 := by simp [sizes]
theorem sizes_cons (t : Nd) (ts : List Nd) : sizes (t :: ts) = t.size + sizes ts := by simp [sizes]
theorem sizes_append (a b : List Nd) : sizes (a ++ b) = sizes a + sizes b := by
  induction a with
  | nil => simp [sizes_nil]
  | cons t ts ih => simp [sizes_cons, ih]; omega
theorem size_pos (t : Nd) : 0 < t.size := by rw [size_eq]; omega
theorem size_le_of_mem {t : Nd} {l : List Nd} (h : t ∈ l) : t.size ≤ sizes l := by
  induction l with
  | nil => cases h
  | cons u us ih =>
    rw [sizes_cons]
    rcases List.mem_cons.1 h with rfl | h
    · omega
    · have := ih h; omega
theorem size_kid {t k : Nd} (h : k ∈ t.kids) : k.size < t.size := by
  have := size_le_of_mem h; rw [size_eq t]; omega
theorem size_get (t : Nd) (i : Nat) (h : i < t.kids.length) : (t.kids[i]).size < t.size := size_kid (List.getElem_mem h)
/-- The five cells of a node whose kids lie at A. -/
def cells (t : Nd) (A : Option Addr) (c : Nat) : List Value := [.int .i64 t.kind, .string t.text, .int .i64 t.pos, .int .i64 t.fin, .slice A t.kids.length c]
def val (t : Nd) (A : Option Addr) (c : Nat) : Value := .agg #[.int .i64 t.kind, .string t.text, .int .i64 t.pos, .int .i64 t.fin, .slice A t.kids.length c]
end Nd

/-- The five cells of a node at b, o. -/
structure At5 (w : World) (b o : Nat) (t : Nd) (A : Option Addr) (c : Nat) : Prop where
  c0 : w.cell? ⟨b, o, none⟩ = some (.int .i64 t.kind)
  c1 : w.cell? ⟨b, o + 1, none⟩ = some (.string t.text)
  c2 : w.cell? ⟨b, o + 2, none⟩ = some (.int .i64 t.pos)
  c3 : w.cell? ⟨b, o + 3, none⟩ = some (.int .i64 t.fin)
  c4 : w.cell? ⟨b, o + 4, none⟩ = some (.slice A t.kids.length c)

/-- The kids of t lie at A: each node's cells, and its own kids. -/
inductive RN (w : World) : Nd → Option Addr → Nat → Prop where
  | mk (t : Nd) (b o : Nat) (c : Nat) (As : Nat → Option Addr) (cs : Nat → Nat) (hc : t.kids.length ≤ c) (hm : t.kids.length ≤ 9223372036854775807)
      (hcell : ∀ (i : Nat) (h : i < t.kids.length), At5 w b (o + i * 5) (t.kids[i]) (As i) (cs i))
      (hsub : ∀ (i : Nat) (h : i < t.kids.length), RN w (t.kids[i]) (As i) (cs i)) : RN w t (some ⟨b, o, none⟩) c
  | nil (t : Nd) (c : Nat) (A : Option Addr) (h : t.kids = []) : RN w t A c

theorem At5.lt {w : World} {b o : Nat} {t : Nd} {A : Option Addr} {c : Nat} (h : At5 w b o t A c) : b < w.heap.size := World.block_lt_of_cell? w _ h.c0
theorem At5.keep {w w1 : World} {b o : Nat} {t : Nd} {A : Option Addr} {c : Nat} (h : At5 w b o t A c) {B : Nat} (hb : Below B w w1) (hB : b < B) : At5 w1 b o t A c :=
  ⟨(hb.cell (p := ⟨b, _, none⟩) hB).trans h.c0, (hb.cell (p := ⟨b, _, none⟩) hB).trans h.c1, (hb.cell (p := ⟨b, _, none⟩) hB).trans h.c2, (hb.cell (p := ⟨b, _, none⟩) hB).trans h.c3, (hb.cell (p := ⟨b, _, none⟩) hB).trans h.c4⟩
theorem RN.keep {w w1 : World} (hb : Below w.heap.size w w1) {t : Nd} {A : Option Addr} {c : Nat} (h : RN w t A c) : RN w1 t A c := by
  induction h with
  | mk t b o c As cs hc hm hcell _ ih => exact .mk t b o c As cs hc hm (fun i hi => (hcell i hi).keep hb (hcell i hi).lt) ih
  | nil t c A h => exact .nil t c A h
theorem RN.len {w : World} {t : Nd} {A : Option Addr} {c : Nat} (h : RN w t A c) : t.kids.length ≤ 9223372036854775807 := by
  cases h with
  | mk _ _ _ _ _ _ _ hm => exact hm
  | nil _ _ _ h => rw [h]; simp
theorem RN.get {w : World} {t : Nd} {A : Option Addr} {c : Nat} (h : RN w t A c) (i : Nat) (hi : i < t.kids.length) :
    ∃ b o A' c', A = some ⟨b, o, none⟩ ∧ At5 w b (o + i * 5) (t.kids[i]) A' c' ∧ RN w (t.kids[i]) A' c' := by
  cases h with
  | mk _ b o _ As cs _ _ hcell hsub => exact ⟨b, o, As i, cs i, rfl, hcell i hi, hsub i hi⟩
  | nil _ _ _ h => rw [h] at hi; simp at hi
end Go.Proofs.Ytjijfgkmjachnaa
