/- The reference's values: decimal, Sum. -/
import Derived.Test.YtpkjiimcoepjpaaDoorC7
import Derived.Laws.BitsLemmas
import Derived.Lib.ItoaNum
namespace Go.Proofs.YtpkjiimcoepjpaaDoor
set_option linter.unusedVariables false
set_option linter.unusedSimpArgs false
open Go.RowKit Go.Proofs.YtpkjiimcoepjpaaDoorW.PrintWords Go.Proofs.YtpkjiimcoepjpaaDoorW.PrintMore
open PFingerprintSymbols (assessorref43_Sum.f assessorref43_Sum.l0 assessorref43_Sum.calls assessorref43_decimal.f assessorref43_decimal.calls assessorref43_decimal.mono)

/-! ### decimal -/
theorem decDigits_len (u : Nat) : (Lib.decDigits u).length ≤ u / 5 + 1 := by
  induction u using Nat.strongRecOn with
  | _ u ih =>
    unfold Lib.decDigits
    split
    · simp
    · rw [List.length_append]
      have := ih (u / 10) (by omega)
      simp
      omega
theorem digit_eq (d : Nat) (hd : d < 10) : (⟨#[48, 49, 50, 51, 52, 53, 54, 55, 56, 57]⟩ : ByteArray).extract d (d + 1) = ⟨[UInt8.ofNat (48 + d)].toArray⟩ := by
  have : d = 0 ∨ d = 1 ∨ d = 2 ∨ d = 3 ∨ d = 4 ∨ d = 5 ∨ d = 6 ∨ d = 7 ∨ d = 8 ∨ d = 9 := by omega
  rcases this with rfl | rfl | rfl | rfl | rfl | rfl | rfl | rfl | rfl | rfl <;> rfl
theorem ba_append (a b : List UInt8) : ((⟨a.toArray⟩ : ByteArray) ++ (⟨b.toArray⟩ : ByteArray)) = ⟨(a ++ b).toArray⟩ := by
  apply ByteArray.ext
  rw [ByteArray.data_append]
  simp
theorem dec_ev (u : Nat) (hu : u < 9223372036854775808) : Ev (fun k => assessorref43_decimal.f k ((u : Nat) : Int)) ⟨(Lib.decDigits u).toArray⟩ := by
  induction u using Nat.strongRecOn with
  | _ u ih =>
    have hmod : Int.tmod ((u : Nat) : Int) 10 = ((u % 10 : Nat) : Int) := by rw [Int.tmod_eq_emod_of_nonneg (by omega)]; omega
    have hdiv : Int.tdiv ((u : Nat) : Int) 10 = ((u / 10 : Nat) : Int) := by rw [Int.tdiv_eq_ediv_of_nonneg (by omega)]; omega
    have hdig : (⟨#[48, 49, 50, 51, 52, 53, 54, 55, 56, 57]⟩ : ByteArray).extract (((u % 10 : Nat) : Int)).toNat ((((u % 10 : Nat) : Int) + 1)).toNat = ⟨[UInt8.ofNat (48 + u % 10)].toArray⟩ := by
      rw [show (((u % 10 : Nat) : Int)).toNat = u % 10 by omega, show ((((u % 10 : Nat) : Int) + 1)).toNat = u % 10 + 1 by omega]
      exact digit_eq _ (Nat.mod_lt _ (by decide))
    by_cases h10 : u < 10
    · refine Ev.step (f := fun _ => some ⟨(Lib.decDigits u).toArray⟩) (fun k => ?_) (Ev.now _)
      simp only [assessorref43_decimal.f]
      rw [if_neg (by omega), if_neg (by omega), hmod, w64in _ (by omega), if_pos (by omega), if_pos (by omega), if_pos (by omega), if_pos (by omega), hdig, Nat.mod_eq_of_lt h10]
      unfold Lib.decDigits
      rw [dif_pos h10]
    · have ih2 := ih (u / 10) (by omega) (by omega)
      refine Ev.step (fun k => ?_) (Ev.bind ih2 (f := fun k (t : ByteArray) => if t.size + (⟨[UInt8.ofNat (48 + u % 10)].toArray⟩ : ByteArray).size ≤ 9223372036854775807 then some (t ++ (⟨[UInt8.ofNat (48 + u % 10)].toArray⟩ : ByteArray)) else none) ?_)
      · simp only [assessorref43_decimal.f]
        rw [if_neg (by omega), if_neg (by omega), hmod, w64in _ (by omega), if_pos (by omega), if_pos (by omega), if_pos (by omega), if_neg (by omega), hdig, hdiv, w64in _ (by omega)]
      · refine Ev.congr (f := fun _ => some ⟨(Lib.decDigits u).toArray⟩) (fun k => ?_) (Ev.now _)
        have hl := decDigits_len (u / 10)
        rw [if_pos (by show (Lib.decDigits (u / 10)).toArray.size + 1 ≤ _; simp; omega), ba_append]
        conv => rhs; rw [Lib.decDigits, dif_neg h10]
theorem dec_f (n : Int) (h0 : -9223372036854775808 ≤ n) (h1 : n ≤ 9223372036854775807) : ∃ k, assessorref43_decimal.f k n = some (itB n) := by
  have H : Ev (fun k => assessorref43_decimal.f k n) (itB n) := by
    by_cases hm : n = -9223372036854775808
    · subst hm
      refine Ev.step (f := fun _ => some (itB (-9223372036854775808))) (fun k => ?_) (Ev.now _)
      simp only [assessorref43_decimal.f]
      rw [if_pos trivial]
      exact congrArg some (by kernel_rfl)
    by_cases hn : n < 0
    · have h2 := dec_ev n.natAbs (by omega)
      refine Ev.step (fun k => ?_) (Ev.bind h2 (f := fun k (t : ByteArray) => if 1 + t.size ≤ 9223372036854775807 then some ((⟨#[45]⟩ : ByteArray) ++ t) else none) ?_)
      · simp only [assessorref43_decimal.f]
        rw [if_neg hm, if_pos hn, w64in _ (by omega), show -n = ((n.natAbs : Nat) : Int) by omega]
      · refine Ev.congr (f := fun _ => some (itB n)) (fun k => ?_) (Ev.now _)
        have hl := decDigits_len n.natAbs
        rw [if_pos (by show 1 + (Lib.decDigits n.natAbs).toArray.size ≤ _; simp; omega)]
        have := ba_append [45] (Lib.decDigits n.natAbs)
        unfold itB Lib.itoa
        rw [if_pos hn]
        exact congrArg some this
    · have h2 := dec_ev n.toNat (by omega)
      rw [show ((n.toNat : Nat) : Int) = n by omega] at h2
      unfold itB Lib.itoa
      rw [if_neg hn]
      exact h2
  exact H.rounds
theorem decimalW (n : Int) (h0 : -9223372036854775808 ≤ n) (h1 : n ≤ 9223372036854775807) (w : World) : Calls Tryd.prog 34 #[.int .i64 n] w fun e w' => e = .returned (.string (itB n)) ∧ Drawn0 w w' := by
  obtain ⟨k, hk⟩ := dec_f n h0 h1
  exact assessorref43_decimal.calls k n _ w hk

/-! ### Sum -/
theorem xor_eq (s : Int) (c : Nat) (h0 : 0 ≤ s) (h1 : s < 4294967296) (hc : c < 256) : Go.bits .xor .i64 s (wrap64 ((c : Nat) : Int)) = Go.bits .xor .u32 s (((c : Nat) : Int) % 4294967296) ∧ 0 ≤ Go.bits .xor .u32 s (((c : Nat) : Int) % 4294967296) ∧ Go.bits .xor .u32 s (((c : Nat) : Int) % 4294967296) < 4294967296 := by
  obtain ⟨a, rfl⟩ := Int.eq_ofNat_of_zero_le h0
  have ha : a < 2 ^ 32 := by omega
  have hx : a ^^^ c < 2 ^ 32 := Nat.xor_lt_two_pow ha (by omega)
  have e1 : Go.bits .xor .i64 ((a : Nat) : Int) ((c : Nat) : Int) = ((a ^^^ c : Nat) : Int) := by
    simp only [Go.bits, BitVec.ofInt_natCast, BitVec.toNat_xor, BitVec.toNat_ofNat]
    rw [Nat.mod_eq_of_lt (show a < 2 ^ IntKind.i64.bits by simp [IntKind.bits]; omega), Nat.mod_eq_of_lt (show c < 2 ^ IntKind.i64.bits by simp [IntKind.bits]; omega)]
    exact IntWalk.i64_in _ (by omega)
  have e2 : Go.bits .xor .u32 ((a : Nat) : Int) ((c : Nat) : Int) = ((a ^^^ c : Nat) : Int) := by
    simp only [Go.bits, BitVec.ofInt_natCast, BitVec.toNat_xor, BitVec.toNat_ofNat]
    rw [Nat.mod_eq_of_lt (show a < 2 ^ IntKind.u32.bits by simp [IntKind.bits]; omega), Nat.mod_eq_of_lt (show c < 2 ^ IntKind.u32.bits by simp [IntKind.bits]; omega)]
    exact IntWalk.u32_in _ (by omega)
  rw [w64in _ (by omega), show ((c : Nat) : Int) % 4294967296 = ((c : Nat) : Int) by omega, e1, e2]
  exact ⟨rfl, by omega, by omega⟩
theorem bt_get (s : ByteArray) (i : Nat) (h : i < s.size) : bt s ((i : Nat) : Int) = ((s.data.toList[i]'(by simpa using h)).toNat : Int) := by
  unfold bt
  rw [Int.toNat_natCast, dif_pos h]
  rfl
theorem sum_ev (s : ByteArray) (hs : s.size ≤ 9223372036854775807) (m : Nat) : ∀ (i : Nat) (h : Int), s.size - i = m → i ≤ s.size → 0 ≤ h → h < 4294967296 →
    Ev (fun k => assessorref43_Sum.l0 k s h ((i : Nat) : Int)) ((s.data.toList.drop i).foldl stepS h) := by
  induction m with
  | zero =>
    intro i h hm hi h0 h1
    have hsz : s.data.toList.length = s.size := by simp
    obtain rfl : i = s.size := by omega
    rw [List.drop_eq_nil_of_le (by omega)]
    refine Ev.step (f := fun _ => some h) (fun k => ?_) (Ev.now _)
    simp only [assessorref43_Sum.l0]
    rw [if_neg (by omega)]
  | succ m ih =>
    intro i h hm hi h0 h1
    have hsz : s.data.toList.length = s.size := by simp
    have hi2 : i < s.size := by omega
    have hx := xor_eq h (s.data.toList[i]'(by omega)).toNat h0 h1 (UInt8.toNat_lt _)
    rw [List.drop_eq_getElem_cons (by omega), List.foldl_cons]
    refine Ev.step (fun k => ?_) (ih (i + 1) (stepS h (s.data.toList[i]'(by omega))) (by omega) (by omega) (Int.emod_nonneg _ (by decide)) (Int.emod_lt_of_pos _ (by decide)))
    simp only [assessorref43_Sum.l0]
    rw [if_pos (by omega), if_pos (by omega), bt_get s i hi2, hx.1, w64in (_ * 16777619) (by omega), Int.tmod_eq_emod_of_nonneg (by omega), w64in _ (by omega)]
    rfl
theorem sumW (s : ByteArray) (hs : s.size ≤ 9223372036854775807) (w : World) : Calls Tryd.prog 33 #[.string s] w fun e w' => e = .returned (.int .i64 (symS s.data.toList)) ∧ Drawn0 w w' := by
  have H := sum_ev s hs _ 0 2166136261 rfl (Nat.zero_le _) (by decide) (by decide)
  obtain ⟨k, hk⟩ := H.rounds
  exact assessorref43_Sum.calls k s _ w hk
end Go.Proofs.YtpkjiimcoepjpaaDoor
