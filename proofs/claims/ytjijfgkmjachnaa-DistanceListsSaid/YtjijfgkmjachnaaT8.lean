import Derived.Test.YtjijfgkmjachnaaT7
import Derived.Deep.OwnRows
namespace Go.Proofs.Ytjijfgkmjachnaa
set_option linter.unusedVariables false
set_option linter.unusedSimpArgs false
open Go.RowKit

theorem inf3 : (Try.prog.info? 3).map (fun i => (i.zero, i.size, i.bytes)) = some (some (.int .i64 0), 1, 8) := by kernel_rfl
theorem inf34 : (Try.prog.info? 34).map (fun i => (i.zero, i.size, i.bytes)) = some (some (.slice none 0 0), 1, 24) := by kernel_rfl

/-- A table of whole numbers of the call's own: its rows are blocks of their own. -/
structure Tab (w : World) (base g : Nat) (bs : Nat → Nat) (n m : Nat) (T : Nat → Nat → Int) : Prop where
  outer : ∀ i, i < n → w.cell? ⟨g, i, none⟩ = some (.slice (some ⟨bs i, 0, none⟩) m m)
  inner : ∀ i j, i < n → j < m → w.cell? ⟨bs i, j, none⟩ = some (.int .i64 (T i j))
  free : ∀ i j, i < n → j < m → w.frozen? ⟨bs i, j, none⟩ = false
  inj : ∀ i j, i < n → j < n → bs i = bs j → i = j
  ne : ∀ i, i < n → bs i ≠ g
  lo : ∀ i, i < n → base ≤ bs i ∧ bs i < w.heap.size
  glo : base ≤ g ∧ g < w.heap.size

theorem cell_new (w : World) (cs : Array Value) (t : TypeId) (j : Nat) : (w.alloc (.cells cs t)).cell? ⟨w.heap.size, j, none⟩ = cs[j]? := by
  unfold World.cell?; rw [heap_alloc_new w (.cells cs t)]; rfl
theorem free_new (w : World) (cs : Array Value) (t : TypeId) (j : Nat) : (w.alloc (.cells cs t)).frozen? ⟨w.heap.size, j, none⟩ = false := by
  unfold World.frozen?; rw [heap_alloc_new w (.cells cs t)]; simp
theorem madeCells_get (z : Value) (n j : Nat) (h : j < n) : (madeCells #[z] n)[j]? = some z := by
  simp [madeCells, h, Nat.mod_one]
theorem free_alloc (w : World) (o : Obj) (a : Addr) (h : a.block < w.heap.size) : (w.alloc o).frozen? a = w.frozen? a := World.frozen?_of_block (Below.heap_alloc w o _ h)
theorem cell_alloc_old (w : World) (o : Obj) (a : Addr) (h : a.block < w.heap.size) : (w.alloc o).cell? a = w.cell? a := World.cell?_of_block (Below.heap_alloc w o _ h)
theorem cell_set_other (w : World) (a b : Addr) (v : Value) (h : b.block ≠ a.block) : (w.setCell a v).cell? b = w.cell? b := World.cell?_of_block (Below.heap_setCell w a v _ h)
theorem free_set (w : World) (a b : Addr) (v : Value) : (w.setCell a v).frozen? b = w.frozen? b := World.frozen?_setCell ..

theorem tableMake (rows cols : Nat) (w : World) (h1 : rows ≤ 1000000000) (h2 : cols ≤ 1000000000) :
    Calls Try.prog 36 #[.int .i64 rows, .int .i64 cols] w fun e w' => e = .returned (.slice (some ⟨w.heap.size, 0, none⟩) rows rows) ∧ Tab w' w.heap.size w.heap.size (fun i => w.heap.size + 1 + i) rows cols (fun _ _ => 0) ∧ Below w.heap.size w w' ∧ w'.heap.size = w.heap.size + 1 + rows := by
  have mk1 := run_make_row' (P := Try.prog) 30 34 (.slice none 0 0) 24 Try.underlying30 inf34 rfl .i64 .i64 rows (by omega) (by omega)
  have mk2 := run_make_row' (P := Try.prog) 34 3 (.int .i64 0) 8 Try.underlying34 inf3 rfl .i64 .i64 cols (by omega) (by omega)
  go_enter Try.func36, Try.ntmps36
  go_wp2_with fail
  go_loopw [6, 11] (fun _ i wr => ∃ k : Nat, k ≤ rows ∧ i = .int .i64 k ∧ Below w.heap.size w wr ∧ wr.heap.size = w.heap.size + 1 + k ∧
      (∀ i, i < rows → wr.cell? ⟨w.heap.size, i, none⟩ = some (if i < k then .slice (some ⟨w.heap.size + 1 + i, 0, none⟩) cols cols else .slice none 0 0)) ∧
      (∀ i, i < rows → wr.frozen? ⟨w.heap.size, i, none⟩ = false) ∧
      (∀ i j, i < k → j < cols → wr.cell? ⟨w.heap.size + 1 + i, j, none⟩ = some (.int .i64 0)) ∧ (∀ i j, i < k → j < cols → wr.frozen? ⟨w.heap.size + 1 + i, j, none⟩ = false)) (fun _ i _ => rows - (intOf i).toNat)
  case atStart =>
    refine ⟨0, Nat.zero_le _, rfl, (Below.refl _ _).alloc (Nat.le_refl _) _, by simp, fun i hi => ?_, fun i hi => free_new .., fun i j hi => by omega, fun i j hi => by omega⟩
    rw [cell_new, madeCells_get _ _ _ hi]; simp
  case round =>
    obtain ⟨k, hk, rfl, hbw, hsz, ho, hf, hi, hif⟩ := hrel
    by_cases hlk : k < rows
    · have c1 := ho k hlk
      have c2 := hf k hlk
      rw [if_neg (by omega)] at c1
      have HO := Lib.hid ho
      have HF := Lib.hid hf
      have HI := Lib.hid hi
      have HJ := Lib.hid hif
      have HZ := Lib.hid hsz
      have hgt : w.heap.size < wr.heap.size := by omega
      clear ho hf hi hif hsz
      have c3 : (wr.alloc (.cells (madeCells #[.int .i64 0] cols) 3)).cell? ⟨w.heap.size, k, none⟩ = some (.slice none 0 0) := by rw [cell_alloc_old _ _ _ hgt]; exact c1
      have c4 : (wr.alloc (.cells (madeCells #[.int .i64 0] cols) 3)).frozen? ⟨w.heap.size, k, none⟩ = false := by rw [free_alloc _ _ _ hgt]; exact c2
      go_wp2_with fail
      go_roundw
      case rel =>
        have hz := HZ.out
        have hzs : (wr.setCell ⟨w.heap.size, k, none⟩ (.slice (some ⟨wr.heap.size, 0, none⟩) cols cols)).heap.size = wr.heap.size := by simp [World.setCell]
        generalize hW : wr.setCell ⟨w.heap.size, k, none⟩ (.slice (some ⟨wr.heap.size, 0, none⟩) cols cols) = V at *
        have hbV : Below w.heap.size w V := by rw [← hW]; exact hbw.setCell (p := ⟨w.heap.size, k, none⟩) (Nat.le_refl _) _
        refine ⟨k + 1, hlk, by go_num, hbV.alloc (by omega) _, by simp [hzs]; omega, fun i hi => ?_, fun i hi => ?_, fun i j hi hj => ?_, fun i j hi hj => ?_⟩
        · rw [cell_alloc_old _ _ _ (by simp; omega), ← hW]
          by_cases hik : i = k
          · subst hik
            rw [World.cell?_setCell_same' _ _ _ (by rw [c1]; rfl), if_pos (by omega), hz]
          · rw [World.cell?_setCell_other wr ⟨w.heap.size, k, none⟩ ⟨w.heap.size, i, none⟩ _ (fun h => by injection h with _ h2; omega), HO.out i hi]
            congr 1
            by_cases h : i < k
            · rw [if_pos h, if_pos (by omega)]
            · rw [if_neg h, if_neg (by omega)]
        · rw [free_alloc _ _ _ (by simp; omega), ← hW, free_set]; exact HF.out i hi
        · by_cases hik : i = k
          · subst hik
            have := cell_new V (madeCells #[.int .i64 0] cols) 3 j
            rw [hzs, hz] at this
            rw [this, madeCells_get _ _ _ hj]
          · rw [cell_alloc_old _ _ _ (by simp; omega), ← hW, cell_set_other _ _ _ _ (by simp; omega)]
            exact HI.out i j (by omega) hj
        · by_cases hik : i = k
          · subst hik
            have := free_new V (madeCells #[.int .i64 0] cols) 3 j
            rw [hzs, hz] at this
            exact this
          · rw [free_alloc _ _ _ (by simp; omega), ← hW, free_set]
            exact HJ.out i j (by omega) hj
      case measure => simp [intOf]; omega
    · obtain rfl : k = rows := by omega
      have HO := Lib.hid ho
      have HF := Lib.hid hf
      have HI := Lib.hid hi
      have HJ := Lib.hid hif
      have HZ := Lib.hid hsz
      clear ho hf hi hif hsz
      go_wp2_with fail
      go_ret
      have hz := HZ.out
      refine ⟨rfl, ⟨fun i hi => ?_, HI.out, HJ.out, fun i j _ _ h => by omega, fun i _ => by omega, fun i hi => by omega, by omega⟩, hbw, hz⟩
      have := HO.out i hi
      rw [if_pos hi] at this
      exact this
end Go.Proofs.Ytjijfgkmjachnaa
