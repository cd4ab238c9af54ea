import Derived.Test.YtjijfgkmjachnaaT13
import Derived.Laws.EntriesVeiled
namespace Go.Proofs.Ytjijfgkmjachnaa
set_option linter.unusedVariables false
set_option linter.unusedSimpArgs false
open Go.RowKit

theorem labC_get (xs : List Ent) (i : Nat) (h : i < xs.length) : (labC xs)[i * 2]? = some (.int .i64 (nd xs i).kind) ∧ (labC xs)[i * 2 + 1]? = some (.string (nd xs i).text) := by
  induction xs generalizing i with
  | nil => simp at h
  | cons e es ih =>
    cases i with
    | zero => simp [labC, nd, ent]
    | succ i =>
      have := ih i (by simpa using h)
      have e1 : nd (e :: es) (i + 1) = nd es i := by simp [nd, ent]
      rw [e1]
      have e2 : labC (e :: es) = .int .i64 e.1.kind :: .string e.1.text :: labC es := rfl
      rw [e2, show (i + 1) * 2 = i * 2 + 1 + 1 by omega]
      simpa using this
theorem lefC_get (xs : List Ent) (i : Nat) (h : i < xs.length) : (lefC xs)[i]? = some (.int .i64 (lf xs i : Nat)) := by
  simp [lefC, lf, ent, h]
theorem numC_get (xs : List Ent) (i : Nat) (h : i < xs.length) : (numC xs)[i]? = some (.int .i64 (nm xs i : Nat)) := by
  simp [numC, nm, ent, h]

theorem own_some {w : World} {base : Nat} {e : TypeId} {size n : Nat} {v : Value} {xs : List Value} (h : w.ownsRow base e size v n xs) (hn : 0 < n) :
    ∃ g c, v = .slice (some ⟨g, 0, none⟩) n c ∧ base ≤ g ∧ g < w.heap.size ∧ n ≤ c ∧ ∀ j u, xs[j]? = some u → w.cell? ⟨g, j, none⟩ = some u := by
  rcases h.2 with ⟨_, rfl⟩ | ⟨g, cap, cur, hv, hg, hh, hc, hm, hs, ht⟩
  · omega
  · refine ⟨g, cap, hv, hg, hlt hh, hc, fun j u hj => ?_⟩
    have hjl : j < n * size := by rw [← h.1]; exact (List.getElem?_eq_some_iff.1 hj).1
    rw [← ht] at hj
    rw [List.getElem?_take] at hj
    rw [if_pos hjl] at hj
    simp only [World.cell?, hh]
    simpa using hj

theorem heap5 (w : World) (a b c d e : Obj) : (((((w.alloc a).alloc b).alloc c).alloc d).alloc e).heap[w.heap.size + 1]? = some b ∧ (((((w.alloc a).alloc b).alloc c).alloc d).alloc e).heap[w.heap.size + 1 + 1]? = some c ∧
    (((((w.alloc a).alloc b).alloc c).alloc d).alloc e).heap[w.heap.size + 1 + 1 + 1]? = some d ∧ (((((w.alloc a).alloc b).alloc c).alloc d).alloc e).heap[w.heap.size + 1 + 1 + 1 + 1]? = some e := by
  refine ⟨?_, ?_, ?_, ?_⟩
  all_goals
    show (((((w.heap.push a).push b).push c).push d).push e)[_]? = _
    simp only [Array.getElem?_push, Array.size_push]
    simp

set_option maxRecDepth 100000 in
set_option maxHeartbeats 1000000 in
theorem flatten (t : Nd) (A : Option Addr) (c : Nat) (w : World) (hR : RN w t A c) (hn : t.size ≤ 1000000) :
    Calls Try.prog 34 #[t.val A c] w fun e w' => (∃ gL gF gN cL cF cN, e = .returned (.agg #[.slice (some ⟨gL, 0, none⟩) t.size cL, .slice (some ⟨gF, 0, none⟩) t.size cF, .slice (some ⟨gN, 0, none⟩) t.size cN]) ∧
      Flat w' (post t 0 0) t.size gL gF gN ∧ (w.heap.size ≤ gL ∧ gL < w'.heap.size) ∧ (w.heap.size ≤ gF ∧ gF < w'.heap.size) ∧ (w.heap.size ≤ gN ∧ gN < w'.heap.size)) ∧ Below w.heap.size w w' := by
  have hpos := t.size_pos
  unfold Nd.val
  go_enter Try.func34, Try.ntmps34
  go_wp2_with fail
  refine (walk w (w.heap.size + 1 + 1 + 1) (w.heap.size + 1 + 1) (w.heap.size + 1 + 1 + 1 + 1) t.size t A c [] 0 (.slice none 0 0) (.slice none 0 0) (.slice none 0 0) _ (Nat.le_refl _) hR ?hb ?hst (by simp; omega) (by omega)).mono ?_
  case hb => exact (((((Below.refl _ _).alloc (Nat.le_refl _) _).alloc (by simp) _).alloc (by simp; omega) _).alloc (by simp; omega) _).alloc (by simp; omega) _
  case hst =>
    refine ⟨?_, ?_, ?_, ⟨by simp [labC], .inl ⟨rfl, rfl⟩⟩, ⟨by simp [lefC], .inl ⟨rfl, rfl⟩⟩, ⟨by simp [numC], .inl ⟨rfl, rfl⟩⟩, .inl rfl, by simp [Value.ownBlock], by simp [Value.ownBlock], by omega, by omega, by omega⟩
    · exact (heap5 w _ _ _ _ _).2.2.1
    · exact (heap5 w _ _ _ _ _).2.1
    · exact (heap5 w _ _ _ _ _).2.2.2
  rintro e w' ⟨rfl, vL, vF, vN, hS, hK, _⟩
  rw [List.nil_append] at hS
  have hpl := post_len t 0 0
  have h1 := hS.oL
  have h2 := hS.oF
  have h3 := hS.oN
  simp only [List.length_nil] at h1 h2 h3 hS
  rw [hpl] at h1 h2 h3
  obtain ⟨gL, cL, rfl, l1, l2, l3, l4⟩ := own_some h1 hpos
  obtain ⟨gF, cF, rfl, f1, f2, f3, f4⟩ := own_some h2 hpos
  obtain ⟨gN, cN, rfl, n1, n2, n3, n4⟩ := own_some h3 hpos
  have hF : Flat w' (post t 0 0) t.size gL gF gN := ⟨fun i hi => l4 _ _ (labC_get _ i (by omega)).1, fun i hi => l4 _ _ (labC_get _ i (by omega)).2, fun i hi => f4 _ _ (lefC_get _ i (by omega)), fun i hi => n4 _ _ (numC_get _ i (by omega))⟩
  have d0 : w'.cell? ⟨w.heap.size + 1 + 1, 0, none⟩ = some (.slice (some ⟨gL, 0, none⟩) t.size cL) := by simp [World.cell?, hS.fbx]
  have d1 : w'.cell? ⟨w.heap.size + 1 + 1, 1, none⟩ = some (.slice (some ⟨gF, 0, none⟩) t.size cF) := by simp [World.cell?, hS.fbx]
  have d2 : w'.cell? ⟨w.heap.size + 1 + 1, 2, none⟩ = some (.slice (some ⟨gN, 0, none⟩) t.size cN) := by simp [World.cell?, hS.fbx]
  have hbox : w'.heap[w.heap.size + 1]? = some (.cells #[.slice none 0 0, .slice none 0 0, .slice none 0 0] 66 (0, 0)) := by
    rw [hK.block _ (by simp) (by simp [wr8, rb, Value.ownBlock])]
    exact (heap5 w _ _ _ _ _).1
  have g0 : w'.cell? ⟨w.heap.size + 1, 0, none⟩ = some (.slice none 0 0) := by simp [World.cell?, hbox]
  have g1 : w'.cell? ⟨w.heap.size + 1, 1, none⟩ = some (.slice none 0 0) := by simp [World.cell?, hbox]
  have g2 : w'.cell? ⟨w.heap.size + 1, 2, none⟩ = some (.slice none 0 0) := by simp [World.cell?, hbox]
  have e0 : w'.frozen? ⟨w.heap.size + 1, 0, none⟩ = false := by simp [World.frozen?, hbox]
  have e1 : w'.frozen? ⟨w.heap.size + 1, 1, none⟩ = false := by simp [World.frozen?, hbox]
  have e2 : w'.frozen? ⟨w.heap.size + 1, 2, none⟩ = false := by simp [World.frozen?, hbox]
  have hbl : Below w.heap.size w w' := (((((Below.refl w.heap.size w).alloc (Nat.le_refl _) _).alloc (by simp) _).alloc (by simp; omega) _).alloc (by simp; omega) _).alloc (by simp; omega) _ |>.trans (hK.below (by simp; omega) (fun k hk => by rcases hk with rfl | rfl | h | h | h; omega; omega; simp [Value.ownBlock] at h; simp [Value.ownBlock] at h; simp [Value.ownBlock] at h))
  have nL : gL ≠ w.heap.size + 1 := by obtain ⟨_, cur, hc⟩ := own_block_at h1 (b := gL) rfl; exact heap_ne_type hc hbox (by decide)
  have nF : gF ≠ w.heap.size + 1 := by obtain ⟨_, cur, hc⟩ := own_block_at h2 (b := gF) rfl; exact heap_ne_type hc hbox (by decide)
  have nN : gN ≠ w.heap.size + 1 := by obtain ⟨_, cur, hc⟩ := own_block_at h3 (b := gN) rfl; exact heap_ne_type hc hbox (by decide)
  clear hK hS h1 h2 h3 hbox l4 f4 n4 hpl
  go_wp2_with fail
  refine bodyPost_ret (v := .agg #[.slice (some ⟨gL, 0, none⟩) t.size cL, .slice (some ⟨gF, 0, none⟩) t.size cF, .slice (some ⟨gN, 0, none⟩) t.size cN]) (by simp [results, Try.results34, go_sem, g0, g1, g2]) rfl ⟨⟨gL, gF, gN, cL, cF, cN, rfl, ?_, ?_, ?_, ?_⟩, ?_⟩
  · exact hF.keep (Keeps.setCell (S := fun b => b = w.heap.size + 1) (Keeps.setCell (S := fun b => b = w.heap.size + 1) (Keeps.setCell (S := fun b => b = w.heap.size + 1) (Keeps.refl _ w') (p := ⟨w.heap.size + 1, 0, none⟩) (.inl rfl) _) (p := ⟨w.heap.size + 1, 1, none⟩) (.inl rfl) _) (p := ⟨w.heap.size + 1, 2, none⟩) (.inl rfl) _) nL nF nN
  · simp [World.setCell]; omega
  · simp [World.setCell]; omega
  · simp [World.setCell]; omega
  · exact ((hbl.setCell (p := ⟨w.heap.size + 1, 0, none⟩) (by simp) _).setCell (p := ⟨w.heap.size + 1, 1, none⟩) (by simp) _).setCell (p := ⟨w.heap.size + 1, 2, none⟩) (by simp) _
end Go.Proofs.Ytjijfgkmjachnaa
