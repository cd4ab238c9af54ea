/- The reference's Marks, walked. -/
import Derived.Test.YtpkjiimcoepjpaaDoorT44
import Derived.Test.YtpkjiimcoepjpaaDoorT32
namespace Go.Proofs.YtpkjiimcoepjpaaDoor
set_option linter.unusedVariables false
set_option linter.unusedSimpArgs false
open Go.RowKit Go.Proofs.YtpkjiimcoepjpaaDoorW.PrintWords
open PFingerprintSymbols (S48)

theorem mkI_nil (w : World) (A : Option Addr) (c : Nat) : MkI w A c [] := ⟨Nat.zero_le _, by simp, fun h => by simp at h⟩
def MarksRes (base : Nat) (l : List S48) (x : Int) (e : Ending) (w' : World) : Prop := ∃ A c, e = .returned (.tuple #[.slice A l.length c, .int .i64 x]) ∧ MkI w' A c l

set_option maxRecDepth 100000 in
set_option maxHeartbeats 4000000 in
theorem RefMarksW (t : Nd) (A : Option Addr) (c : Nat) (k wd : Int) (w : World) (hs : t.size ≤ 1000000) (hall : AllK P64 t) (hR : RN w t A c) :
    Calls Tryd.prog 13 #[t.val A c, .int .i64 k, .int .i64 wd] w fun e w' => MarksRes w.heap.size (marksV t k wd) (marksC t k wd) e w' ∧ Below w.heap.size w w' := by
  have HSY := Lib.hid (fun W (hW : Below w.heap.size w W) => RefSymbolsW w t.size t A c W (Nat.le_refl _) hs hall hR hW)
  unfold Nd.val at HSY ⊢
  obtain ⟨w1, hw1⟩ : ∃ w1, w.alloc (.cells #[.int .i64 t.kind, .string t.text, .int .i64 t.pos, .int .i64 t.fin, .slice A t.kids.length c] 24) = w1 := ⟨_, rfl⟩
  have hh : w1.heap[w.heap.size]? = some (.cells (cells5 t A c).toArray 24 (0, 0)) := by rw [← hw1]; exact heap_alloc_new _ _
  have hb1 : Below w.heap.size w w1 := by rw [← hw1]; exact (Below.refl _ _).alloc (Nat.le_refl _) _
  have HB1 := Lib.hid hb1
  have HH := Lib.hid (show ∀ W, Below w1.heap.size w1 W → At5 W w.heap.size 0 t A c from fun W h => At5.of ((h.block _ (hltW hh)).trans hh))
  clear hh hb1 hall hR
  by_cases hw : 1 ≤ wd ∧ wd ≤ 64
  · obtain ⟨hwa, hwb⟩ := hw
    have d1 : decide (wd < 1) = false := decide_eq_false (by omega)
    have d2 : decide (wd > 64) = false := decide_eq_false (by omega)
    obtain ⟨d3, d4, d5, d6, d7⟩ := HH.out w1 (Below.refl _ _)
    go_enter Tryd.func13, Tryd.ntmps13
    go_wp2_with fail
    refine (HSY.out w1 HB1.out).mono ?_
    rintro e w4 ⟨⟨g, cap, rfl, hown⟩, hb4⟩
    have H4 := Lib.hid hb4
    obtain ⟨A2, c2, hv2, hin2⟩ := hown.inR
    have hcall := RefHashesW (syms t) A2 c2 k w4 hin2
    rw [← hv2] at hcall
    have HC := Lib.hid hcall
    clear d3 d4 d5 d6 d7 hown hb4 hv2 hin2 hcall hw1
    go_wp2_with fail
    refine HC.out.mono ?_
    rintro e w5 ⟨⟨A5, c5, rfl, i5⟩, hb5⟩
    have H5 := Lib.hid (HB1.out.trans ((H4.out.trans (hb5.mono H4.out.size)).mono HB1.out.size))
    have HC6 := Lib.hid (RefWinnowW' (hashesV (syms t) k) A5 c5 wd w5 i5)
    clear hb5 i5 HC
    by_cases hc : hashesC (syms t) k = 0
    · have hk : 1 ≤ k ∧ k ≤ 64 := by
        unfold hashesC at hc
        split at hc
        · assumption
        · omega
      have hm1 : marksC t k wd = winC (hashesV (syms t) k) wd := by unfold marksC; rw [if_pos ⟨hk, hwa, hwb⟩, if_pos hc]
      have hm2 : marksV t k wd = winV (hashesV (syms t) k) wd := by unfold marksV; rw [if_pos ⟨hk, hwa, hwb⟩, if_pos hc]
      have HM := Lib.hid (And.intro hm1 hm2)
      rw [hc]
      clear hm1 hm2 hc hk
      go_wp2_with fail
      refine HC6.out.mono ?_
      rintro e w7 ⟨⟨A7, c7, rfl, i7⟩, hb7⟩
      go_wp2_with fail
      go_ret2
      rw [HM.out.1, HM.out.2]
      exact ⟨⟨A7, c7, rfl, i7⟩, H5.out.trans (hb7.mono H5.out.size)⟩
    · have hm1 : marksC t k wd = hashesC (syms t) k := by
        unfold marksC
        by_cases hk : 1 ≤ k ∧ k ≤ 64
        · rw [if_pos ⟨hk, hwa, hwb⟩, if_neg hc]
        · rw [if_neg (fun h => hk h.1)]
          unfold hashesC
          rw [if_neg hk]
      have hm2 : marksV t k wd = [] := by
        unfold marksV
        by_cases hk : 1 ≤ k ∧ k ≤ 64
        · rw [if_pos ⟨hk, hwa, hwb⟩, if_neg hc]
        · rw [if_neg (fun h => hk h.1)]
      have HM := Lib.hid (And.intro hm1 hm2)
      have hd : (hashesC (syms t) k != 0) = true := by rw [bne_iff_ne]; exact hc
      obtain ⟨ec, hec⟩ : ∃ ec, hashesC (syms t) k = ec := ⟨_, rfl⟩
      rw [hec] at HM hd ⊢
      clear hm1 hm2 hc hec
      go_wp2_with fail
      go_ret2
      rw [HM.out.1, HM.out.2]
      exact ⟨⟨_, _, rfl, mkI_nil _ _ _⟩, H5.out.alloc H5.out.size _⟩
  · have hm1 : marksC t k wd = 2 := by unfold marksC; rw [if_neg (fun h => hw h.2)]
    have hm2 : marksV t k wd = [] := by unfold marksV; rw [if_neg (fun h => hw h.2)]
    have HM := Lib.hid (And.intro hm1 hm2)
    clear hm1 hm2
    by_cases h1 : wd < 1
    · have d1 : decide (wd < 1) = true := decide_eq_true h1
      go_enter Tryd.func13, Tryd.ntmps13
      go_wp2_with fail
      go_ret2
      rw [HM.out.1, HM.out.2]
      exact ⟨⟨_, _, rfl, mkI_nil _ _ _⟩, HB1.out.alloc HB1.out.size _⟩
    · have d1 : decide (wd < 1) = false := decide_eq_false h1
      have d2 : decide (wd > 64) = true := decide_eq_true (by omega)
      go_enter Tryd.func13, Tryd.ntmps13
      go_wp2_with fail
      go_ret2
      rw [HM.out.1, HM.out.2]
      exact ⟨⟨_, _, rfl, mkI_nil _ _ _⟩, HB1.out.alloc HB1.out.size _⟩
end Go.Proofs.YtpkjiimcoepjpaaDoor
