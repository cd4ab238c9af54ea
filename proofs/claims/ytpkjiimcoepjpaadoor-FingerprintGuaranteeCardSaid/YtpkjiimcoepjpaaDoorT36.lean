/- Plain: two lists with a common run share a mark; marks as keys of a map. -/
import Derived.Test.YtpkjiimcoepjpaaDoorT32
import Derived.DeepKeys4
import Derived.WideKeyPair
import Derived.Maps.RangeWalk
namespace Go.Proofs.YtpkjiimcoepjpaaDoor
set_option linter.unusedVariables false
set_option linter.unusedSimpArgs false
open Go.RowKit Go.Proofs.YtpkjiimcoepjpaaDoorW.PrintWords Go.Proofs.YtpkjiimcoepjpaaDoorW.PrintMore Go.Maps
open PFingerprintSymbols (S48)

/-! ### plain -/
theorem lst_shift {h g : List Int} (s a : Nat) : ∀ d, (∀ q, a ≤ q → q ≤ a + d → hv h (s + q) = hv g q) → lst h (s + a) d = s + lst g a d
  | 0, _ => rfl
  | d + 1, H => by
    have ih := lst_shift s a d (fun q h1 h2 => H q h1 (by omega))
    have hb := lst_ok g a d
    unfold lst
    rw [ih, show s + a + d + 1 = s + (a + d + 1) by omega, H (a + d + 1) (by omega) (by omega), H (lst g a d) hb.lo (by have := hb.hi; omega)]
    split <;> omega
theorem runs_hv (l : List Int) (k i : Nat) (h : i + k ≤ l.length) : hv (runs l k) i = hashS ((l.drop i).take k) := by
  unfold hv
  rw [List.getD_eq_getElem?_getD, List.getElem?_eq_getElem (by rw [runs_len]; omega)]
  exact runs_get l k i (by rw [runs_len]; omega)
theorem runs_mid (b cm a : List Int) (k q : Nat) (h : q + k ≤ cm.length) : hv (runs (b ++ cm ++ a) k) (b.length + q) = hv (runs cm k) q := by
  rw [runs_hv _ _ _ (by simp; omega), runs_hv _ _ _ h]
  congr 1
  rw [List.append_assoc, List.drop_append, List.drop_eq_nil_of_le (by omega), List.nil_append, Nat.add_sub_cancel_left, List.drop_append, List.take_append, List.length_drop]
  rw [show k - (cm.length - q) = 0 by omega, List.take_zero, List.append_nil]
/-- the mark of the common run -/
def comM (cm : List Int) (K W : Nat) : S48 := ⟨hv (runs cm K) (lst (runs cm K) 0 (W - 1)), ((lst (runs cm K) 0 (W - 1) : Nat) : Int)⟩
theorem comM_in (b cm a : List Int) (K W : Nat) (hK : 1 ≤ K) (hK2 : K ≤ 64) (hW : 1 ≤ W) (hW2 : W ≤ 64) (hc : W + K ≤ cm.length + 1) (hl : (b ++ cm ++ a).length ≤ 2000) :
    ∃ m ∈ winV (hashesV (b ++ cm ++ a) (K : Nat)) (W : Nat), m.f0 = (comM cm K W).f0 ∧ m.f1 - (b.length : Int) = (comM cm K W).f1 ∧ 0 ≤ (comM cm K W).f1 ∧ (comM cm K W).f1 ≤ (cm.length : Int) - (K : Int) := by
  have hh : hashesV (b ++ cm ++ a) (K : Nat) = runs (b ++ cm ++ a) K := by unfold hashesV; rw [if_pos ⟨by omega, by omega, by omega⟩, Int.toNat_natCast]
  have hn : (runs (b ++ cm ++ a) K).length = (b ++ cm ++ a).length + 1 - K := runs_len _ _
  have hlen : (b ++ cm ++ a).length = b.length + cm.length + a.length := by simp; omega
  rw [hh]
  obtain ⟨h, hh2⟩ : ∃ h, runs (b ++ cm ++ a) K = h := ⟨_, rfl⟩
  have hsh : ∀ q, q + K ≤ cm.length → hv h (b.length + q) = hv (runs cm K) q := fun q hq => by rw [← hh2]; exact runs_mid b cm a K q hq
  rw [hh2] at hn
  rw [hh2]
  have hlo := lst_ok (runs cm K) 0 (W - 1)
  have hl1 := lst_shift (h := h) (g := runs cm K) b.length 0 (W - 1) (fun q _ hq => hsh q (by omega))
  have hat : atW h W (b.length + W - 1) = b.length + lst (runs cm K) 0 (W - 1) := by
    unfold atW
    rw [show b.length + W - 1 + 1 - W = b.length + 0 by omega, show b.length + W - 1 - (b.length + 0) = W - 1 by omega]
    exact hl1
  obtain ⟨_, h2, _⟩ := outP_spec h hW h.length
  have hin : b.length + lst (runs cm K) 0 (W - 1) ∈ outP h W h.length := (h2 _).2 ⟨b.length + W - 1, by omega, by omega, hat⟩
  have hhi := hlo.hi
  refine ⟨mkS h (b.length + lst (runs cm K) 0 (W - 1)), ?_, ?_, ?_, ?_, ?_⟩
  · unfold winV
    rw [if_pos ⟨by omega, by omega, by omega⟩, Int.toNat_natCast, Nat.min_eq_left (by omega)]
    exact List.mem_map.2 ⟨_, hin, rfl⟩
  · show hv h _ = _
    rw [hsh _ (by omega)]; rfl
  · show ((b.length + lst (runs cm K) 0 (W - 1) : Nat) : Int) - (b.length : Int) = ((lst (runs cm K) 0 (W - 1) : Nat) : Int)
    omega
  · show 0 ≤ ((lst (runs cm K) 0 (W - 1) : Nat) : Int)
    omega
  · show ((lst (runs cm K) 0 (W - 1) : Nat) : Int) ≤ _
    omega

/-! ### a mark as a key -/
def markKey (x y : Int) : Lit := .string (keyBytes [.int .i64 x, .int .i64 y])
theorem laidOutD : laidOutB Tryd.prog = true := by kernel_rfl
theorem keyed48 : Keyed Tryd.prog 48 := Keyed.of_law (deep_law_laid laidOutD (m := 2) (by omega) (of_decide_eq_true (by kernel_rfl)) (by kernel_rfl) (by rw [Tryd.underlying48]))
theorem cells48 : Tryd.prog.cellsOf 48 = 2 := by kernel_rfl
theorem keyT48 : Tryd.prog.keyType 48 = true := by kernel_rfl
theorem keyOf48 (x y : Int) (hx : (Lit.int .i64 x).wf = true) (hy : (Lit.int .i64 y).wf = true) : keyOf Tryd.prog 48 (.agg #[.int .i64 x, .int .i64 y]) = some (markKey x y) := by
  obtain ⟨m, hm⟩ : ∃ m, Tryd.prog.types.size = m + 1 := ⟨Tryd.prog.types.size - 1, by have : 48 < Tryd.prog.types.size := of_decide_eq_true (by kernel_rfl); omega⟩
  have c3 : Tryd.prog.cellsOf 3 = 1 := by kernel_rfl
  unfold keyOf markKey
  simp only [Tryd.underlying48]
  rw [if_pos (by simp [keyT48, Value.formed, Tryd.underlying48, cells48]), hm]
  unfold Program.keyLits
  simp only [Tryd.underlying48, Value.cells]
  simp [Program.keyLits, Tryd.underlying3, hx, hy, c3, cells48]
theorem klI {d : Nat} {v : Value} {l : List Lit} (h : Tryd.prog.keyLits d 3 [v] = some l) : ∃ x, v = .int .i64 x ∧ l = [.int .i64 x] ∧ (Lit.int .i64 x).wf = true := by
  cases d with
  | zero => simp [Program.keyLits] at h
  | succ d =>
    unfold Program.keyLits at h
    simp only [Tryd.underlying3] at h
    cases v
    case int q n =>
      simp only [Option.ite_none_right_eq_some, Option.some.injEq] at h
      obtain ⟨⟨rfl, hw⟩, rfl⟩ := h
      exact ⟨n, rfl, rfl, hw⟩
    all_goals cases h
theorem keyOf48_inv {v : Value} {kl : Lit} (h : keyOf Tryd.prog 48 v = some kl) : ∃ p : Int × Int, v = .agg #[.int .i64 p.1, .int .i64 p.2] ∧ kl = markKey p.1 p.2 ∧ (Lit.int .i64 p.1).wf = true ∧ (Lit.int .i64 p.2).wf = true := by
  obtain ⟨m, hm⟩ : ∃ m, Tryd.prog.types.size = m + 1 := ⟨Tryd.prog.types.size - 1, by have : 48 < Tryd.prog.types.size := of_decide_eq_true (by kernel_rfl); omega⟩
  have c3 : Tryd.prog.cellsOf 3 = 1 := by kernel_rfl
  unfold keyOf at h
  simp only [Tryd.underlying48] at h
  split at h
  · rename_i hf
    rw [hm] at h
    unfold Program.keyLits at h
    simp only [Tryd.underlying48] at h
    obtain ⟨ls, hls, rfl⟩ := Option.map_eq_some_iff.1 h
    clear h
    cases v <;> simp [Value.formed, Tryd.underlying48, cells48, keyT48] at hf
    rename_i cs
    rcases cs with ⟨l⟩
    have hl : l.length = 2 := by simpa using hf
    rcases l with _ | ⟨c0, _ | ⟨c1, _ | ⟨c2, l⟩⟩⟩
    · simp at hl
    · simp at hl
    · have e : (Value.agg ({ toList := [c0, c1] } : Array Value)).cells.toList = [c0, c1] := rfl
      rw [e] at hls
      split at hls
      · simp only [List.mapM_cons, List.mapM_nil, bind, pure, c3, Option.map_eq_some_iff, Option.bind_eq_some_iff, Option.some.injEq, List.drop_zero, List.drop_succ_cons, List.take_succ_cons, List.take_zero] at hls
        obtain ⟨a, ⟨l0, h0, l1, ⟨l2, h2, _, rfl, rfl⟩, rfl⟩, rfl⟩ := hls
        obtain ⟨x, rfl, rfl, hx⟩ := klI h0
        obtain ⟨y, rfl, rfl, hy⟩ := klI h2
        exact ⟨(x, y), rfl, rfl, hx, hy⟩
      · cases hls
    · simp at hl
  · cases h
end Go.Proofs.YtpkjiimcoepjpaaDoor
