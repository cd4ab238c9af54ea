/- symbol, walked. -/
import Derived.Test.YtpkjiimcoepjpaaDoorT10
namespace Go.Proofs.YtpkjiimcoepjpaaDoor
set_option linter.unusedVariables false
set_option linter.unusedSimpArgs false
open Go.RowKit Go.Proofs.YtpkjiimcoepjpaaDoorW.PrintWords

/-- one byte more -/
def stepS (s : Int) (c : UInt8) : Int := Go.bits .xor .u32 s (((c.toNat : Nat) : Int) % 4294967296) * 16777619 % 4294967296
theorem stepS_bd (l : List UInt8) : ∀ s : Int, 0 ≤ s → s < 4294967296 → 0 ≤ l.foldl stepS s ∧ l.foldl stepS s < 4294967296 := by
  induction l with
  | nil => intro s h0 h1; exact ⟨h0, h1⟩
  | cons c l ih => intro s _ _; exact ih _ (Int.emod_nonneg _ (by decide)) (Int.emod_lt_of_pos _ (by decide))
def symS (l : List UInt8) : Int := l.foldl stepS 2166136261

set_option maxRecDepth 100000 in
set_option maxHeartbeats 4000000 in
theorem symbolW (kind pos fin : Int) (text : ByteArray) (A : Option Addr) (nk ck : Nat) (it : ByteArray) (hs1 : it.size + 1 ≤ 9223372036854775807) (hs2 : it.size + 1 + text.size ≤ 9223372036854775807) (w : World)
    (HI : ∀ W, Below w.heap.size w W → Calls Tryd.prog 43 #[.int .i64 kind] W fun e w' => e = .returned (.string it) ∧ Below W.heap.size W w') :
    Calls Tryd.prog 32 #[.agg #[.int .i64 kind, .string text, .int .i64 pos, .int .i64 fin, .slice A nk ck]] w fun e w' => e = .returned (.int .i64 (symS (sbytes it text).data.toList)) ∧ Below w.heap.size w w' := by
  obtain ⟨w1, hw1⟩ : ∃ w1, w.alloc (.cells #[.int .i64 kind, .string text, .int .i64 pos, .int .i64 fin, .slice A nk ck] 24) = w1 := ⟨_, rfl⟩
  have hh : w1.heap[w.heap.size]? = some (.cells #[.int .i64 kind, .string text, .int .i64 pos, .int .i64 fin, .slice A nk ck] 24 (0, 0)) := by rw [← hw1]; exact heap_alloc_new _ _
  have hb1 : Below w.heap.size w w1 := by rw [← hw1]; exact (Below.refl _ _).alloc (Nat.le_refl _) _
  have HIT := Lib.hid HI
  have HB1 := Lib.hid hb1
  have HH := Lib.hid hh
  clear HI hh hb1
  go_enter Tryd.func32, Tryd.ntmps32
  go_wp2_with fail
  refine region2 kind it text hs1 hs2 w1 w.heap.size (by simp [World.cell?, HH.out]) (by simp [World.cell?, HH.out]) (fun W hW => HIT.out W (HB1.out.trans (hW.mono HB1.out.size))) _ (by rfl) (by rfl) _ w1 (Below.refl _ _) ?_
  intro f W q cap e7 e8 e9 hc hbel
  simp only [ds2, setAll, List.setIfInBounds_toArray, List.set_cons_zero, List.set_cons_succ, Nat.zero_add, Nat.reduceAdd]
  rw [e7, e8, e9]
  have HC := Lib.hid hc
  have HW := Lib.hid (HB1.out.trans (hbel.mono HB1.out.size))
  have hsz : (sbytes it text).size ≤ 9223372036854775807 := by unfold sbytes; rw [ByteArray.size_append, ByteArray.size_append]; exact hs2
  obtain ⟨S, hS⟩ : ∃ S, sbytes it text = S := ⟨_, rfl⟩
  rw [hS] at HC hsz ⊢
  have HS := Lib.hid hS
  clear hS e7 e8 e9 hc hbel hw1
  go_wp2_with fail
  go_loopw [3, 15] (fun s c wr => ∃ i : Nat, c = .int .i64 (i : Nat) ∧ i ≤ S.size ∧ s = .int .u32 ((S.data.toList.take i).foldl stepS 2166136261) ∧ wr = W) (fun _ c _ => S.size - (intOf c).toNat)
  case atStart => exact ⟨0, rfl, Nat.zero_le _, rfl, rfl⟩
  case round =>
    obtain ⟨i, rfl, hi, rfl, rfl⟩ := hrel
    by_cases hlt : i < S.size
    · have c0 := HC.out i hlt
      have hiI : (i : Int) < (S.size : Int) := by omega
      go_wp2_with fail
      go_roundw
      case rel =>
        refine ⟨i + 1, by go_num, by omega, ?_, trivial⟩
        rw [List.take_succ_eq_append_getElem (by rw [Array.length_toList]; exact hlt), List.foldl_append]
        rfl
      case measure => simp [intOf]; omega
    · obtain rfl : i = S.size := by omega
      rw [List.take_of_length_le (by rw [Array.length_toList]; exact Nat.le_refl _)]
      have hbd := stepS_bd S.data.toList 2166136261 (by decide) (by decide)
      obtain ⟨R, hR⟩ : ∃ R, S.data.toList.foldl stepS 2166136261 = R := ⟨_, rfl⟩
      rw [hR] at hbd ⊢
      have HR := Lib.hid hR
      clear hR
      go_wp2_with fail
      go_ret
      refine ⟨?_, HW.out⟩
      show Ending.returned (.int .i64 R) = _
      rw [HS.out, ← HR.out]
      rfl
end Go.Proofs.YtpkjiimcoepjpaaDoor
