/- Trees. -/
import Derived.Test.YtpkjiimcoepjpaaDoorT11
namespace Go.Proofs.YtpkjiimcoepjpaaDoor
set_option linter.unusedVariables false
set_option linter.unusedSimpArgs false
open Go.RowKit Go.Proofs.YtpkjiimcoepjpaaDoorW.PrintWords
open PFingerprintSymbols (S24 z24 rd_T24 k24 k24_mk)

/-! ### trees -/
inductive Nd where
  | mk (kind : Int) (text : ByteArray) (pos fin : Int) (kids : List Nd)
namespace Nd
def kind : Nd → Int | .mk k _ _ _ _ => k
def text : Nd → ByteArray | .mk _ t _ _ _ => t
def pos : Nd → Int | .mk _ _ a _ _ => a
def fin : Nd → Int | .mk _ _ _ e _ => e
def kids : Nd → List Nd | .mk _ _ _ _ l => l
mutual
def size : Nd → Nat | .mk _ _ _ _ l => 1 + sizes l
def sizes : List Nd → Nat | [] => 0 | t :: ts => size t + sizes ts
end
theorem size_eq (t : Nd) : t.size = 1 + sizes t.kids := by cases t; simp [size, kids]
theorem sizes_nil : sizes [] = 0 := by simp [sizes]
theorem sizes_cons (t : Nd) (ts : List Nd) : sizes (t :: ts) = t.size + sizes ts := by simp [sizes]
theorem sizes_append (a b : List Nd) : sizes (a ++ b) = sizes a + sizes b := by
  induction a with
  | nil => simp [sizes_nil]
  | cons t ts ih => simp [sizes_cons, ih]; omega
theorem size_pos (t : Nd) : 0 < t.size := by rw [size_eq]; omega
theorem size_le_of_mem {t : Nd} {l : List Nd} (h : t ∈ l) : t.size ≤ sizes l := by
  induction l with
  | nil => cases h
  | cons u us ih =>
    rw [sizes_cons]
    rcases List.mem_cons.1 h with rfl | h
    · omega
    · have := ih h; omega
theorem size_kid {t k : Nd} (h : k ∈ t.kids) : k.size < t.size := by
  have := size_le_of_mem h; rw [size_eq t]; omega
theorem size_get (t : Nd) (i : Nat) (h : i < t.kids.length) : (t.kids[i]).size < t.size := size_kid (List.getElem_mem h)
/-- The five cells of a node whose kids lie at A. -/
def cells (t : Nd) (A : Option Addr) (c : Nat) : List Value := [.int .i64 t.kind, .string t.text, .int .i64 t.pos, .int .i64 t.fin, .slice A t.kids.length c]
def val (t : Nd) (A : Option Addr) (c : Nat) : Value := .agg #[.int .i64 t.kind, .string t.text, .int .i64 t.pos, .int .i64 t.fin, .slice A t.kids.length c]
end Nd

/-- The five cells of a node at b, o. -/
structure At5 (w : World) (b o : Nat) (t : Nd) (A : Option Addr) (c : Nat) : Prop where
  c0 : w.cell? ⟨b, o, none⟩ = some (.int .i64 t.kind)
  c1 : w.cell? ⟨b, o + 1, none⟩ = some (.string t.text)
  c2 : w.cell? ⟨b, o + 2, none⟩ = some (.int .i64 t.pos)
  c3 : w.cell? ⟨b, o + 3, none⟩ = some (.int .i64 t.fin)
  c4 : w.cell? ⟨b, o + 4, none⟩ = some (.slice A t.kids.length c)

/-- The kids of t lie at A: each node's cells, and its own kids. -/
inductive RN (w : World) : Nd → Option Addr → Nat → Prop where
  | mk (t : Nd) (b o : Nat) (c : Nat) (As : Nat → Option Addr) (cs : Nat → Nat) (hc : t.kids.length ≤ c) (hm : t.kids.length ≤ 9223372036854775807)
      (hcell : ∀ (i : Nat) (h : i < t.kids.length), At5 w b (o + i * 5) (t.kids[i]) (As i) (cs i))
      (hsub : ∀ (i : Nat) (h : i < t.kids.length), RN w (t.kids[i]) (As i) (cs i)) : RN w t (some ⟨b, o, none⟩) c
  | nil (t : Nd) (c : Nat) (A : Option Addr) (h : t.kids = []) : RN w t A c

theorem At5.lt {w : World} {b o : Nat} {t : Nd} {A : Option Addr} {c : Nat} (h : At5 w b o t A c) : b < w.heap.size := World.block_lt_of_cell? w _ h.c0
theorem At5.keep {w w1 : World} {b o : Nat} {t : Nd} {A : Option Addr} {c : Nat} (h : At5 w b o t A c) {B : Nat} (hb : Below B w w1) (hB : b < B) : At5 w1 b o t A c :=
  ⟨(hb.cell (p := ⟨b, _, none⟩) hB).trans h.c0, (hb.cell (p := ⟨b, _, none⟩) hB).trans h.c1, (hb.cell (p := ⟨b, _, none⟩) hB).trans h.c2, (hb.cell (p := ⟨b, _, none⟩) hB).trans h.c3, (hb.cell (p := ⟨b, _, none⟩) hB).trans h.c4⟩
theorem RN.keep {w w1 : World} (hb : Below w.heap.size w w1) {t : Nd} {A : Option Addr} {c : Nat} (h : RN w t A c) : RN w1 t A c := by
  induction h with
  | mk t b o c As cs hc hm hcell _ ih => exact .mk t b o c As cs hc hm (fun i hi => (hcell i hi).keep hb (hcell i hi).lt) ih
  | nil t c A h => exact .nil t c A h
theorem RN.len {w : World} {t : Nd} {A : Option Addr} {c : Nat} (h : RN w t A c) : t.kids.length ≤ 9223372036854775807 := by
  cases h with
  | mk _ _ _ _ _ _ _ hm => exact hm
  | nil _ _ _ h => rw [h]; simp
theorem RN.get {w : World} {t : Nd} {A : Option Addr} {c : Nat} (h : RN w t A c) (i : Nat) (hi : i < t.kids.length) :
    ∃ b o A' c', A = some ⟨b, o, none⟩ ∧ At5 w b (o + i * 5) (t.kids[i]) A' c' ∧ RN w (t.kids[i]) A' c' := by
  cases h with
  | mk _ b o _ As cs _ _ hcell hsub => exact ⟨b, o, As i, cs i, rfl, hcell i hi, hsub i hi⟩
  | nil _ _ _ h => rw [h] at hi; simp at hi
def cells5 (t : Nd) (A : Option Addr) (c : Nat) : List Value := [.int .i64 t.kind, .string t.text, .int .i64 t.pos, .int .i64 t.fin, .slice A t.kids.length c]
theorem At5.cell {w : World} {b o : Nat} {t : Nd} {A : Option Addr} {c : Nat} (h : At5 w b o t A c) (j : Nat) (hj : j < 5) : w.cell? ⟨b, o + j, none⟩ = (cells5 t A c)[j]? := by
  obtain ⟨h0, h1, h2, h3, h4⟩ := h
  match j, hj with
  | 0, _ => exact h0
  | 1, _ => exact h1
  | 2, _ => exact h2
  | 3, _ => exact h3
  | 4, _ => exact h4
theorem At5.of {W : World} {b : Nat} {t : Nd} {A : Option Addr} {c : Nat} (h : W.heap[b]? = some (.cells (cells5 t A c).toArray 24 (0, 0))) : At5 W b 0 t A c := by
  have hc : ∀ o v, (cells5 t A c)[o]? = some v → W.cell? ⟨b, o, none⟩ = some v := fun o v e => by
    unfold World.cell?; rw [h]; simpa using e
  exact ⟨hc _ _ rfl, hc _ _ rfl, hc _ _ rfl, hc _ _ rfl, hc _ _ rfl⟩

theorem sizes_take_succ (l : List Nd) (k : Nat) (h : k < l.length) : Nd.sizes (l.take (k + 1)) = Nd.sizes (l.take k) + (l[k]).size := by
  rw [List.take_succ_eq_append_getElem h, Nd.sizes_append]; simp [Nd.sizes_cons, Nd.sizes_nil]
theorem sizes_take_le (l : List Nd) (k : Nat) : Nd.sizes (l.take k) ≤ Nd.sizes l := by
  conv => rhs; rw [← List.take_append_drop k l]
  rw [Nd.sizes_append]; omega

def toSN : Nat → Nd → S24
  | 0, t => ⟨t.kind, t.text, t.pos, t.fin, []⟩
  | n + 1, t => ⟨t.kind, t.text, t.pos, t.fin, t.kids.map (toSN n)⟩
theorem toSN_stable (n : Nat) : ∀ (m : Nat) (t : Nd), t.size ≤ n → t.size ≤ m → toSN n t = toSN m t := by
  induction n with
  | zero => intro m t h; have := t.size_pos; omega
  | succ n ih =>
    intro m t h h2
    cases m with
    | zero => have := t.size_pos; omega
    | succ m =>
      simp only [toSN]
      congr 1
      refine List.map_congr_left fun k hk => ?_
      have := Nd.size_kid hk
      exact ih m k (by omega) (by omega)
def toS (t : Nd) : S24 := toSN t.size t
theorem toS_eq (t : Nd) : toS t = ⟨t.kind, t.text, t.pos, t.fin, t.kids.map toS⟩ := by
  unfold toS
  have hp := t.size_pos
  obtain ⟨n, hn⟩ : ∃ n, t.size = n + 1 := ⟨t.size - 1, by omega⟩
  rw [hn]
  simp only [toSN]
  congr 1
  refine List.map_congr_left fun k hk => ?_
  have := Nd.size_kid hk
  exact toSN_stable _ _ k (by omega) (Nat.le_refl _)
theorem kidsN_le {w : World} {t : Nd} {A : Option Addr} {c : Nat} (h : RN w t A c) : t.kids.length ≤ c := by
  rcases h with ⟨_, b, o, _, As, cs, hc, hm, hcell, hsub⟩ | ⟨_, _, _, h⟩
  · exact hc
  · rw [h]; exact Nat.zero_le _
theorem kK {w : World} {t : Nd} {A : Option Addr} {c : Nat} (h2 : t.kids.length ≤ c) (h1 : Kd.C k24 w A t.kids.length (t.kids.map toS)) : k24.K w (toS t) (cells5 t A c) := by
  rw [toS_eq]
  have h3 := k24_mk w ⟨t.kind, t.text, t.pos, t.fin, t.kids.map toS⟩ (A4 := A) (c4 := c) (by simpa using h2) (by simpa using h1)
  simp only [List.length_map] at h3
  exact h3
theorem kc {w : World} {t : Nd} {A : Option Addr} {c : Nat} (h : RN w t A c) : Kd.C k24 w A t.kids.length (t.kids.map toS) := by
  induction h with
  | mk t b o c As cs hc hm hcell hsub ih =>
    refine ⟨by rw [List.length_map], hm, fun _ => ⟨⟨b, o, none⟩, rfl, fun j p hp => ?_⟩⟩
    rw [List.getElem?_map] at hp
    obtain ⟨k, hk, rfl⟩ := Option.map_eq_some_iff.1 hp
    obtain ⟨hj, rfl⟩ := List.getElem?_eq_some_iff.1 hk
    refine ⟨cells5 t.kids[j] (As j) (cs j), rfl, ?_, fun i u hu => ?_⟩
    · exact kK (kidsN_le (hsub j hj)) (ih j hj)
    · have hi : i < 5 := (List.getElem?_eq_some_iff.1 hu).1
      have h1 := (hcell j hj).cell i hi
      rw [Go.WideShapes.add_plain, ← Nat.add_assoc]
      exact h1.trans hu
  | nil t c A h =>
    rw [h]
    exact ⟨rfl, by simp, fun h => by simp at h⟩

end Go.Proofs.YtpkjiimcoepjpaaDoor
