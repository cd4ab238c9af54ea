/- Opening of the arguments. -/
import Derived.Test.YtpkjiimcoepjpaaDoorT23
import Derived.Test.YtpkjiimcoepjpaaDoorRows
import Derived.ProofKit
import Derived.OpenShut
import Derived.ChangeOld
import Derived.SizedLaws
import Derived.Deep.SlicePairs
namespace Go.Proofs.YtpkjiimcoepjpaaDoor
set_option linter.unusedVariables false
set_option linter.unusedSimpArgs false
open Go.ChangeShapes Go.WideShapes Go.ChangeAt Go.RowKit
open PFingerprintSymbols (S48)

def asN (l : List Nd) : Nd := .mk 0 ByteArray.empty 0 0 l
inductive OkN : Nd → Prop where
  | mk (t : Nd) (hk : (Lit.int .i64 t.kind).wf = true) (ht : t.text.size ≤ maxLen) (hs : ∀ k ∈ t.kids, OkN k) : OkN t

theorem cellsOf24 : Tryd.prog.cellsOf 24 = 5 := by kernel_rfl
theorem cellsOf3 : Tryd.prog.cellsOf 3 = 1 := by kernel_rfl
theorem cellsOf9 : Tryd.prog.cellsOf 9 = 1 := by kernel_rfl
theorem cellsOf22 : Tryd.prog.cellsOf 22 = 1 := by kernel_rfl

section
variable {H : Type} {enc : TypeId × Value → H} {w : World} {base : Nat} {sp : Nat → Bool} {hd : Bool}

/-- The nodes of a slice, by what each of them is. -/
theorem open_nodes_of {fuel : Nat} (ih : ∀ m, m < fuel → ∀ (cs : List Value) (x : DataW H × List MemPlace), DataW.trod enc Tryd.prog w base sp hd m 24 cs = some x → ∃ (t : Nd) (A : Option Addr) (c : Nat), cs = cells5 t A c ∧ RN w t A c ∧ OkN t)
    {cs : List Value} {x : DataW H × List MemPlace} (h : DataW.trod enc Tryd.prog w base sp hd fuel 22 cs = some x) :
    ∃ (l : List Nd) (A : Option Addr) (c : Nat), cs = [.slice A l.length c] ∧ RN w (asN l) A c ∧ (∀ t ∈ l, OkN t) ∧ l.length ≤ c := by
  rcases DataW.trod_slice Tryd.underlying22 h with ⟨h4, _⟩ | ⟨a, len, cap, elems, rest, n, hn, h4, _, hb, hle, hm, hlen, hel, _, _⟩
  · exact ⟨[], none, 0, h4, .nil _ _ _ rfl, fun t ht => absurd ht (by simp), Nat.le_refl _⟩
  · have each : ∀ i, ∃ p : Nd × Option Addr × Nat, i < len → (∀ j, j < 5 → w.cell? (a.add (i * 5 + j)) = (cells5 p.1 p.2.1 p.2.2)[j]?) ∧ RN w p.1 p.2.1 p.2.2 ∧ OkN p.1 := by
      intro i
      by_cases hi : i < len
      · have g := hel i hi
        rw [List.getElem?_eq_getElem (by omega), cellsOf24] at g
        obtain ⟨cs', h1, h2⟩ := Option.bind_eq_some_iff.1 g
        obtain ⟨_, _, hc⟩ := World.cells?_some h1
        obtain ⟨t, A, c, e, hr, ho⟩ := ih n (by omega) _ _ h2
        refine ⟨(t, A, c), fun _ => ⟨fun j hj => ?_, hr, ho⟩⟩
        have := hc j hj
        rw [e] at this
        rw [← this]
        congr 1
        obtain ⟨ab, ao, asp⟩ := a
        cases asp with
        | none => rw [add_plain, add_plain, add_plain, Nat.add_assoc]
        | some s => unfold Addr.add; split <;> split <;> split <;> simp_all <;> omega
      · exact ⟨(.mk 0 ByteArray.empty 0 0 [], none, 0), fun h => absurd h hi⟩
    obtain ⟨f, hf⟩ := Classical.axiomOfChoice each
    obtain ⟨l, hl⟩ : ∃ l : List Nd, l = (List.range len).map fun i => (f i).1 := ⟨_, rfl⟩
    have hll : l.length = len := by rw [hl]; simp
    have hget : ∀ i (h : i < l.length), l[i] = (f i).1 := fun i h => by subst hl; simp
    refine ⟨l, some a, cap, by rw [hll]; exact h4, ?_, ?_, by omega⟩
    · by_cases h0 : l = []
      · exact .nil _ _ _ h0
      · have hpos : 0 < len := by rw [← hll]; exact List.length_pos_iff.2 h0
        have hsp : a.spot = none := by
          have := (hf 0 hpos).1 0 (by omega)
          have := World.cell?_spot this
          simpa [Addr.add] using this
        obtain ⟨b, o, spot⟩ := a
        obtain rfl : spot = none := hsp
        refine .mk (asN l) b o cap (fun i => (f i).2.1) (fun i => (f i).2.2) (by show l.length ≤ cap; omega) (by show l.length ≤ _; unfold maxLen at hm; omega) (fun i hi => ?_) (fun i hi => ?_)
        · have hi' : i < len := by rw [← hll]; exact hi
          have hc := (hf i hi').1
          have e : (asN l).kids[i] = (f i).1 := hget i hi
          rw [e]
          have e5 : ∀ j, (⟨b, o, none⟩ : Addr).add (i * 5 + j) = ⟨b, o + i * 5 + j, none⟩ := fun j => by rw [add_plain, Nat.add_assoc]
          refine ⟨?_, ?_, ?_, ?_, ?_⟩
          · have := hc 0 (by omega); rw [e5] at this; exact this
          · have := hc 1 (by omega); rw [e5] at this; exact this
          · have := hc 2 (by omega); rw [e5] at this; exact this
          · have := hc 3 (by omega); rw [e5] at this; exact this
          · have := hc 4 (by omega); rw [e5] at this; exact this
        · have hi' : i < len := by rw [← hll]; exact hi
          have e : (asN l).kids[i] = (f i).1 := hget i hi
          rw [e]
          exact (hf i hi').2.1
    · intro t ht
      obtain ⟨i, hi, rfl⟩ := List.mem_iff_getElem.1 ht
      rw [hget i hi]
      exact (hf i (by omega)).2.2

set_option maxRecDepth 100000 in
theorem open_node (fuel : Nat) : ∀ (cs : List Value) (x : DataW H × List MemPlace), DataW.trod enc Tryd.prog w base sp hd fuel 24 cs = some x → ∃ (t : Nd) (A : Option Addr) (c : Nat), cs = cells5 t A c ∧ RN w t A c ∧ OkN t := by
  induction fuel using Nat.strongRecOn with
  | _ fuel ih =>
    intro cs x h
    obtain ⟨xs, m, rfl, rfl, hl, hlen, hf⟩ := DataW.trod_struct Tryd.underlying24 h
    rw [cellsOf24] at hl
    match xs, hlen, cs, hl with
    | [y0, y1, y2, y3, y4], _, [v0, v1, v2, v3, v4], _ =>
      have g0 := hf 0 _ rfl
      have g1 := hf 1 _ rfl
      have g2 := hf 2 _ rfl
      have g3 := hf 3 _ rfl
      have g4 := hf 4 _ rfl
      simp [cellsOf3, cellsOf9, cellsOf22] at g0 g1 g2 g3 g4
      obtain ⟨k, e0, _, wk⟩ := DataW.trod_int Tryd.underlying3 g0
      obtain ⟨s, e1, _, ws⟩ := DataW.trod_string Tryd.underlying9 g1
      obtain ⟨p, e2, _, _⟩ := DataW.trod_int Tryd.underlying3 g2
      obtain ⟨q, e3, _, _⟩ := DataW.trod_int Tryd.underlying3 g3
      obtain ⟨l, A, c, e4, hr, ho, hc⟩ := open_nodes_of (fun m' hm' => ih m' (by omega)) g4
      simp at e0 e1 e2 e3 e4
      subst e0 e1 e2 e3 e4
      refine ⟨.mk k s p q l, A, c, rfl, ?_, .mk _ wk ws ho⟩
      rcases hr with ⟨_, b, o, _, As, cs, hc, hm, hcell, hsub⟩ | ⟨_, _, _, h⟩
      · exact .mk _ _ _ _ As cs hc hm hcell hsub
      · exact .nil _ _ _ h
theorem open_nodes {fuel : Nat} {cs : List Value} {x : DataW H × List MemPlace} (h : DataW.trod enc Tryd.prog w base sp hd fuel 22 cs = some x) :
    ∃ (l : List Nd) (A : Option Addr) (c : Nat), cs = [.slice A l.length c] ∧ RN w (asN l) A c ∧ (∀ t ∈ l, OkN t) ∧ l.length ≤ c := open_nodes_of (fun m _ => open_node m) h

set_option maxRecDepth 100000 in
/-- A node among the arguments. -/
theorem arg_node {r : Reach} {b0 : Nat} {v : Value} {d : DataW H} {ps : List MemPlace} (hval : Value.okWide Tryd.prog w r b0 24 v) (h : DataW.Trod enc Tryd.prog w base sp hd 24 v d ps) :
    ∃ (t : Nd) (A : Option Addr) (c : Nat), v = t.val A c ∧ RN w t A c ∧ OkN t := by
  obtain ⟨cs, rfl, _⟩ := okWide_struct Tryd.underlying24 hval
  obtain ⟨fuel, hf⟩ := h
  obtain ⟨t, A, c, e, hr, ho⟩ := open_node fuel _ _ hf
  refine ⟨t, A, c, ?_, hr, ho⟩
  have : cs = (cells5 t A c).toArray := by
    have e' : cs.toList = cells5 t A c := by simpa [Value.cells] using e
    rw [← e']
  rw [this]
  rfl
set_option maxRecDepth 100000 in
theorem arg_nodes {r : Reach} {b0 : Nat} {v : Value} {d : DataW H} {ps : List MemPlace} (hval : Value.okWide Tryd.prog w r b0 22 v) (h : DataW.Trod enc Tryd.prog w base sp hd 22 v d ps) :
    ∃ (l : List Nd) (A : Option Addr) (c : Nat), v = .slice A l.length c ∧ RN w (asN l) A c ∧ (∀ t ∈ l, OkN t) ∧ l.length ≤ c := by
  obtain ⟨a, len, cap, rfl⟩ := okWide_slice Tryd.underlying22 hval
  obtain ⟨fuel, hf⟩ := h
  obtain ⟨l, A, c, e, hr, ho, hc⟩ := open_nodes hf
  simp [Value.cells] at e
  obtain ⟨rfl, rfl, rfl⟩ := e
  exact ⟨l, _, _, rfl, hr, ho, hc⟩

set_option maxRecDepth 100000 in
/-- A row of numbers among the arguments. -/
theorem arg_ints {r : Reach} {b0 : Nat} {v : Value} {d : DataW H} {ps : List MemPlace} (hval : Value.okWide Tryd.prog w r b0 25 v) (h : DataW.Trod enc Tryd.prog w base sp hd 25 v d ps) :
    ∃ (l : List Int) (A : Option Addr) (c : Nat), v = .slice A l.length c ∧ InR w A c l ∧ (∀ x ∈ l, (Lit.int .i64 x).wf = true) := by
  obtain ⟨a, len, cap, rfl⟩ := okWide_slice Tryd.underlying25 hval
  obtain ⟨fuel, hf⟩ := h
  rcases open_ints Tryd.underlying25 Tryd.underlying3 cellsOf3 hf with ⟨h1, _⟩ | ⟨a', len', cap', zs, h1, _, hle, hm, hz, _, hcell, hwf⟩
  · simp [Value.cells] at h1
    obtain ⟨rfl, rfl, rfl⟩ := h1
    exact ⟨[], none, 0, rfl, ⟨Nat.le_refl _, by simp, fun h => by simp at h⟩, fun x hx => by simp at hx⟩
  · simp [Value.cells] at h1
    obtain ⟨rfl, rfl, rfl⟩ := h1
    have hlz : len ≤ zs.length := by rw [hz]; split <;> omega
    have hlen : (zs.take len).length = len := by rw [List.length_take]; omega
    refine ⟨zs.take len, some a', cap, by rw [hlen], ⟨by omega, by unfold maxLen at hm; omega, fun hp => ?_⟩, fun x hx => hwf x (List.mem_of_mem_take hx)⟩
    have hsp : a'.spot = none := by
      have := World.cell?_spot (hcell 0 (by omega))
      simpa [Addr.add] using this
    obtain ⟨b, o, spot⟩ := a'
    obtain rfl : spot = none := hsp
    refine ⟨b, o, rfl, fun i hi => ?_⟩
    have := hcell i (by omega)
    rw [add_plain] at this
    rw [this, List.getElem_take, List.getD, List.getElem?_eq_getElem (by omega)]
    rfl
theorem cellsOf48 : Tryd.prog.cellsOf 48 = 2 := by kernel_rfl
set_option maxRecDepth 100000 in
/-- A row of marks among the arguments. -/
theorem arg_marks {r : Reach} {b0 : Nat} {v : Value} {d : DataW H} {ps : List MemPlace} (hval : Value.okWide Tryd.prog w r b0 28 v) (h : DataW.Trod enc Tryd.prog w base sp hd 28 v d ps) :
    ∃ (l : List S48) (A : Option Addr) (c : Nat), v = .slice A l.length c ∧ MkI w A c l ∧ (∀ x ∈ l, (Lit.int .i64 x.f0).wf = true) ∧ (∀ x ∈ l, (Lit.int .i64 x.f1).wf = true) := by
  obtain ⟨a, len, cap, rfl⟩ := okWide_slice Tryd.underlying28 hval
  obtain ⟨fuel, hf⟩ := h
  rcases Go.Deep.open_slice_pairs Tryd.underlying28 Tryd.underlying48 cellsOf48 rfl rfl cellsOf3 cellsOf3 hf with ⟨h1, _⟩ | ⟨a', len', cap', m, n, V0, V1, D0, D1, P0, P1, h1, _, hle, hm, hmm, _, hx⟩
  · simp [Value.cells] at h1
    obtain ⟨rfl, rfl, rfl⟩ := h1
    exact ⟨[], none, 0, rfl, ⟨Nat.le_refl _, by simp, fun h => by simp at h⟩, fun x hx => by simp at hx, fun x hx => by simp at hx⟩
  · simp [Value.cells] at h1
    obtain ⟨rfl, rfl, rfl⟩ := h1
    have hlm : len ≤ m := by rw [hmm]; split <;> omega
    have each : ∀ i, ∃ s : S48, i < m → w.cell? (a'.add (i * 2)) = some (.int .i64 s.f0) ∧ w.cell? (a'.add (i * 2 + 1)) = some (.int .i64 s.f1) ∧ (Lit.int .i64 s.f0).wf = true ∧ (Lit.int .i64 s.f1).wf = true := by
      intro i
      by_cases hi : i < m
      · obtain ⟨c0, c1, t0, t1⟩ := hx i hi
        obtain ⟨x0, e0, _, w0⟩ := DataW.trod_int Tryd.underlying3 t0
        obtain ⟨x1, e1, _, w1⟩ := DataW.trod_int Tryd.underlying3 t1
        simp at e0 e1
        exact ⟨⟨x0, x1⟩, fun _ => ⟨by rw [c0, e0], by rw [c1, e1], w0, w1⟩⟩
      · exact ⟨⟨0, 0⟩, fun h => absurd h hi⟩
    obtain ⟨f, hfn⟩ := Classical.axiomOfChoice each
    have hlen : ((List.range len).map f).length = len := by simp
    refine ⟨(List.range len).map f, some a', cap, by rw [hlen], ⟨by omega, by unfold maxLen at hm; omega, fun hp => ?_⟩, fun x hx => ?_, fun x hx => ?_⟩
    · have hsp : a'.spot = none := by
        have := World.cell?_spot (hfn 0 (by omega)).1
        simpa [Addr.add] using this
      obtain ⟨b, o, spot⟩ := a'
      obtain rfl : spot = none := hsp
      refine ⟨b, o, rfl, fun i hi => ?_⟩
      obtain ⟨c0, c1, _, _⟩ := hfn i (by omega)
      rw [add_plain] at c0 c1
      simp only [List.getElem_map, List.getElem_range]
      exact ⟨c0, c1⟩
    · obtain ⟨i, hi, rfl⟩ := List.mem_map.1 hx
      exact (hfn i (by have := List.mem_range.1 hi; omega)).2.2.1
    · obtain ⟨i, hi, rfl⟩ := List.mem_map.1 hx
      exact (hfn i (by have := List.mem_range.1 hi; omega)).2.2.2
end
end Go.Proofs.YtpkjiimcoepjpaaDoor
