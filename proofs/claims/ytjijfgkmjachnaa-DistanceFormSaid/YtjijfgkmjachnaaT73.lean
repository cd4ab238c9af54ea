/- The reference's table, walked. -/
import Derived.Test.YtjijfgkmjachnaaC2
import Derived.Deep.AppendLies
namespace Go.Proofs.Ytjijfgkmjachnaa
set_option linter.unusedVariables false
set_option linter.unusedSimpArgs false
open Go.RowKit

/-- the rows of a table that grows -/
structure Rws (w : World) (base g : Nat) (bs : Nat → Nat) (k m : Nat) : Prop where
  inner : ∀ i j, i < k → j < m → w.cell? ⟨bs i, j, none⟩ = some (.int .i64 0)
  free : ∀ i j, i < k → j < m → w.frozen? ⟨bs i, j, none⟩ = false
  inj : ∀ i j, i < k → j < k → bs i = bs j → i = j
  ne : ∀ i, i < k → bs i ≠ g
  lo : ∀ i, i < k → base ≤ bs i ∧ bs i < w.heap.size
def rowsV (bs : Nat → Nat) (m k : Nat) : List Value := (List.range k).map fun i => .slice (some ⟨bs i, 0, none⟩) m m
theorem rowsV_succ (bs : Nat → Nat) (m k : Nat) : rowsV bs m (k + 1) = rowsV bs m k ++ [.slice (some ⟨bs k, 0, none⟩) m m] := by
  unfold rowsV; rw [List.range_succ, List.map_append]; rfl
theorem rowsV_congr (bs bs' : Nat → Nat) (m k : Nat) (h : ∀ i, i < k → bs i = bs' i) : rowsV bs m k = rowsV bs' m k := by
  unfold rowsV
  exact List.map_congr_left fun i hi => by rw [h i (by simpa using hi)]
theorem rowsV_get (bs : Nat → Nat) (m k i : Nat) (h : i < k) : (rowsV bs m k)[i]? = some (.slice (some ⟨bs i, 0, none⟩) m m) := by
  unfold rowsV; simp [h]
theorem inf34' : (Try.prog.info? 34).map (fun i => (i.zero, i.size, i.bytes)) = some (some (.slice none 0 0), 1, 24) := by kernel_rfl

theorem pw_own2 {w w1 : World} {base : Nat} {e : TypeId} {size n : Nat} {v : Value} {xs : List Value} (h : w.ownsRow base e size v n xs) (hb : Below w.heap.size w w1) : w1.ownsRow base e size v n xs :=
  h.kept (row := none) ⟨hb.os, hb.tape, hb.output, hb.size, fun k hk _ => hb.block k hk⟩ (by cases hv : v.ownBlock <;> simp)

set_option maxRecDepth 100000 in
set_option maxHeartbeats 2000000 in
theorem refTable (rows cols : Nat) (w : World) (h0 : 0 < rows) (h1 : rows ≤ 1000000) (h2 : cols ≤ 1000000) :
    Calls Try.prog 32 #[.int .i64 rows, .int .i64 cols] w fun e w' => (∃ g cap bs, e = .returned (.slice (some ⟨g, 0, none⟩) rows cap) ∧ Tab w' w.heap.size g bs rows cols (fun _ _ => 0)) ∧ Below w.heap.size w w' := by
  have mk2 := run_make_row' (P := Try.prog) 34 3 (.int .i64 0) 8 Try.underlying34 inf3 rfl .i64 .i64 cols (by omega) (by omega)
  obtain ⟨i34, hi34, hz0, hz1, hz2⟩ := info_parts inf34'
  go_enter Try.func32, Try.ntmps32
  go_wp2_with fail
  go_loopw [5, 6] (fun v i wr => ∃ (k g cap : Nat) (bs : Nat → Nat), i = .int .i64 k ∧ v = .slice (some ⟨g, 0, none⟩) k cap ∧ k ≤ rows ∧ Hid (wr.ownsRow w.heap.size 34 1 (.slice (some ⟨g, 0, none⟩) k cap) k (rowsV bs cols k) ∧ Rws wr w.heap.size g bs k cols ∧ Below w.heap.size w wr)) (fun _ i _ => rows - (intOf i).toNat)
  case atStart =>
    refine ⟨0, w.heap.size, 0, fun _ => 0, rfl, rfl, Nat.zero_le _, Lib.hid ⟨?_, ⟨fun i j h => by omega, fun i j h => by omega, fun i j h => by omega, fun i h => by omega, fun i h => by omega⟩, (Below.refl _ _).alloc (Nat.le_refl _) _⟩⟩
    exact World.ownsRow_lit w #[] 0 (Nat.le_refl _) (Nat.zero_le _) rfl
  case round =>
    obtain ⟨k, g, cap, bs, rfl, rfl, hk, H⟩ := hrel
    by_cases hlk : k < rows
    · obtain ⟨w2, hw2⟩ : ∃ w2, (wr.alloc (.cells (madeCells #[.int .i64 0] cols) 3)).alloc (.cells #[.slice (some ⟨wr.heap.size, 0, none⟩) cols cols] 34) = w2 := ⟨_, rfl⟩
      have hs1 : (wr.alloc (.cells (madeCells #[.int .i64 0] cols) 3)).heap.size = wr.heap.size + 1 := by simp
      have hs2 : w2.heap.size = wr.heap.size + 2 := by rw [← hw2]; simp
      have hb2 : Below wr.heap.size wr w2 := by rw [← hw2]; exact ((Below.refl _ _).alloc (Nat.le_refl _) _).alloc (by simp) _
      have hn2 : w2.heap[wr.heap.size + 1]? = some (.cells #[.slice (some ⟨wr.heap.size, 0, none⟩) cols cols] 34 (0, 0)) := by
        rw [← hw2, ← hs1]; exact heap_alloc_new _ _
      have hr2 : (∀ j, j < cols → w2.cell? ⟨wr.heap.size, j, none⟩ = some (.int .i64 0)) ∧ ∀ j, w2.frozen? ⟨wr.heap.size, j, none⟩ = false := by
        rw [← hw2]
        refine ⟨fun j hj => ?_, fun j => ?_⟩
        · rw [cell_alloc_old _ _ _ (by simp), cell_new, madeCells_get _ _ _ hj]
        · rw [free_alloc _ _ _ (by simp)]; exact free_new ..
      have ho2 := pw_own2 H.out.1 hb2
      have hbb := H.out.2.2
      have hsz := hbb.size
      have hgl := H.out.1.lt g rfl
      have HN := Lib.hid (And.intro hb2 (And.intro hn2 hr2))
      have HO2 := Lib.hid ho2
      have HSZ := Lib.hid hs2
      clear hb2 hn2 hr2 ho2 hs2 hs1 hbb
      go_wp2_with (at_builtin; refine wpList_append_lies _ rfl _ _ 30 rfl w.heap.size 34 i34 _ 1 24 Try.underlying30 hi34 hz0 hz1 hz2 rfl (by decide) (.slice (some ⟨g, 0, none⟩) k cap) k (rowsV bs cols k) (by rfl) ?hown ⟨wr.heap.size + 1, 0, none⟩ 1 1 [.slice (some ⟨wr.heap.size, 0, none⟩) cols cols] (by rfl) rfl ?hnews (by simp [Value.oneCell']) (by omega) ?h63 ?hby ?hbase w2.heap.size rfl ?_)
      case hown => exact HO2.out
      case hnews =>
        intro j u hu
        have hj : j = 0 := by have := (List.getElem?_eq_some_iff.1 hu).1; simp at this; exact this
        subst hj
        rw [Go.WideShapes.add_plain]
        have := HN.out.2.1
        simp [World.cell?, this] at hu ⊢
        exact hu
      case h63 => unfold maxLen; omega
      case hby => omega
      case hbase => have := HSZ.out; omega
      intro g' cap' w4 hown4 hgrow hat hglt
      have HX := Lib.hid (And.intro hown4 (And.intro hgrow hat))
      clear hown4 hgrow hat
      go_wp2_with fail
      go_roundw
      case rel =>
        obtain ⟨hown4, hgrow, hat⟩ := HX.out
        obtain ⟨_, hR, hbw⟩ := H.out
        obtain ⟨hb2, hn2, hr2a, hr2b⟩ := HN.out
        have hs2 := HSZ.out
        have hb24 : ∀ q, q < w2.heap.size → q ≠ g → w4.heap[q]? = w2.heap[q]? := fun q hq hne => hgrow.block q hq (fun e => by injection e with e; exact hne e)
        have old : ∀ i, i < k → w4.heap[bs i]? = wr.heap[bs i]? := fun i hi => (hb24 _ (by have := (hR.lo i hi).2; omega) (hR.ne i hi)).trans (hb2.block _ (hR.lo i hi).2)
        have new : w4.heap[wr.heap.size]? = w2.heap[wr.heap.size]? := hb24 _ (by omega) (by omega)
        have hg' : g' = g ∨ g' = wr.heap.size + 2 := hat.imp (fun h => by injection h with h; exact h.symm) (fun h => by omega)
        have h4s := hgrow.size
        refine ⟨k + 1, g', cap', fun i => if i < k then bs i else wr.heap.size, by go_num, rfl, by omega, Lib.hid ⟨?_, ⟨fun i j hi hj => ?_, fun i j hi hj => ?_, fun i j hi hj he => ?_, fun i hi => ?_, fun i hi => ?_⟩, (hbw.trans (hb2.mono hbw.size)).grown hgrow (by omega) (fun q hq => (H.out.1.lt q hq).1)⟩⟩
        · rw [rowsV_succ, if_neg (Nat.lt_irrefl _), rowsV_congr _ bs _ _ (fun i hi => by rw [if_pos hi])]
          simpa using hown4
        · by_cases h : i < k
          · rw [if_pos h, World.cell?_of_block (w := wr) (old i h)]; exact hR.inner i j h hj
          · rw [if_neg h, World.cell?_of_block (w := w2) new]; exact hr2a j hj
        · by_cases h : i < k
          · rw [if_pos h, World.frozen?_of_block (w := wr) (old i h)]; exact hR.free i j h hj
          · rw [if_neg h, World.frozen?_of_block (w := w2) new]; exact hr2b j
        · by_cases h : i < k <;> by_cases h' : j < k
          · rw [if_pos h, if_pos h'] at he; exact hR.inj i j h h' he
          · rw [if_pos h, if_neg h'] at he; have := (hR.lo i h).2; omega
          · rw [if_neg h, if_pos h'] at he; have := (hR.lo j h').2; omega
          · omega
        · by_cases h : i < k
          · rw [if_pos h]; have := hR.ne i h; have := (hR.lo i h).2; omega
          · rw [if_neg h]; omega
        · by_cases h : i < k
          · rw [if_pos h]; have := hR.lo i h; omega
          · rw [if_neg h]; omega
      case measure => simp [intOf]; omega
    · obtain rfl : k = rows := by omega
      go_wp2_with fail
      go_ret
      obtain ⟨ho, hR, hbw⟩ := H.out
      refine ⟨⟨g, cap, bs, rfl, ⟨fun i hi => ?_, hR.inner, hR.free, hR.inj, hR.ne, hR.lo, ho.lt g rfl⟩⟩, hbw⟩
      rw [ho.cellAt i (by omega)]
      exact rowsV_get bs cols k i hi
end Go.Proofs.Ytjijfgkmjachnaa
