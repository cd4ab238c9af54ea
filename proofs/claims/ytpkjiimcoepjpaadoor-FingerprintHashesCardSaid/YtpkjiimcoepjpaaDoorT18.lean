/- Winnow, Marks walked. -/
import Derived.Test.YtpkjiimcoepjpaaDoorT13
import Derived.Test.YtpkjiimcoepjpaaDoorT17
namespace Go.Proofs.YtpkjiimcoepjpaaDoor
set_option linter.unusedVariables false
set_option linter.unusedSimpArgs false
open Go.RowKit Go.Proofs.YtpkjiimcoepjpaaDoorW.PrintWords
open PFingerprintSymbols (S48 k48 fingerprint_Winnow.calls)

/-- a row of marks of some call's own -/
def MkR (w : World) (v : Value) (l : List S48) : Prop := ∃ base, Kd.R k48 48 w base (fun _ => True) v l
theorem MkR.reads {w : World} {v : Value} {l : List S48} (h : MkR w v l) : ∃ A c, v = .slice A l.length c ∧ l.length ≤ c ∧ Kd.C k48 w A l.length l := by
  obtain ⟨base, h⟩ := h
  exact Kd.R_reads h
theorem MkR.below {w w1 : World} {v : Value} {l : List S48} (h : MkR w v l) (hb : Below w.heap.size w w1) : MkR w1 v l := by
  obtain ⟨base, h⟩ := h
  exact ⟨base, Kd.R_below h hb⟩
theorem WinnowW (l : List Int) (A : Option Addr) (c : Nat) (k : Int) (w : World) (h : InR w A c l) :
    Calls Tryd.prog 24 #[.slice A l.length c, .int .i64 k] w fun e w' => (∃ v, e = .returned (.tuple #[v, .int .i64 (winC l k)]) ∧ MkR w' v (winV l k)) ∧ Below w.heap.size w w' := by
  obtain ⟨K, hK⟩ := winnow_f l k
  refine (fingerprint_Winnow.calls K A c l k _ _ w h.C h.1 hK).mono ?_
  rintro e w' ⟨v, rfl, h1, h2⟩
  exact ⟨⟨v, rfl, _, h1⟩, h2⟩
theorem OwR.inR {w : World} {base : Nat} {v : Value} {l : List Int} (h : OwR w base v l) : ∃ A c, v = .slice A l.length c ∧ InR w A c l := by
  unfold OwR at h
  rcases h.2 with ⟨hv, h0⟩ | ⟨g, cap, cur, hv, hb, hg, hnc, hcm, hcs, htake⟩
  · have : l = [] := List.eq_nil_of_length_eq_zero h0
    subst this
    exact ⟨none, 0, hv, Nat.le_refl _, by simp, fun h => by simp at h⟩
  · subst hv
    refine ⟨_, cap, rfl, hnc, by unfold maxLen at hcm; omega, fun hp => ⟨g, 0, rfl, fun i hi => ?_⟩⟩
    have hc := h.cellAt i (by omega)
    rw [Nat.zero_add, hc]
    unfold ints
    rw [List.getElem?_map, List.getElem?_eq_getElem hi]; rfl

theorem rangedT (n : Int) (h : 1 ≤ n ∧ n ≤ 64) (W : World) : Calls Tryd.prog 31 #[.int .i64 n] W fun e w' => e = .returned (.bool true) ∧ Drawn0 W w' := by
  have := rangedW n W
  rw [decide_eq_true h] at this
  exact this
theorem rangedF (n : Int) (h : ¬ (1 ≤ n ∧ n ≤ 64)) (W : World) : Calls Tryd.prog 31 #[.int .i64 n] W fun e w' => e = .returned (.bool false) ∧ Drawn0 W w' := by
  have := rangedW n W
  rw [decide_eq_false h] at this
  exact this
/-- what Marks answers -/
def marksC (t : Nd) (k w : Int) : Int := if (1 ≤ k ∧ k ≤ 64) ∧ 1 ≤ w ∧ w ≤ 64 then (if hashesC (syms t) k = 0 then winC (hashesV (syms t) k) w else hashesC (syms t) k) else 2
def marksV (t : Nd) (k w : Int) : List S48 := if (1 ≤ k ∧ k ≤ 64) ∧ 1 ≤ w ∧ w ≤ 64 then (if hashesC (syms t) k = 0 then winV (hashesV (syms t) k) w else []) else []
theorem MkR.nil (w : World) : MkR w (.slice none 0 0) [] := ⟨0, Kd.R_nil k48 48 w 0 _⟩

set_option maxRecDepth 100000 in
set_option maxHeartbeats 4000000 in
theorem MarksW (P : Int → Prop) (t : Nd) (A : Option Addr) (c : Nat) (k wd : Int) (w : World) (HI : ItOk P w) (hs : t.size ≤ 1000000) (hall : AllK P t) (hR : RN w t A c) :
    Calls Tryd.prog 12 #[t.val A c, .int .i64 k, .int .i64 wd] w fun e w' => (∃ v, e = .returned (.tuple #[v, .int .i64 (marksC t k wd)]) ∧ MkR w' v (marksV t k wd)) ∧ Below w.heap.size w w' := by
  have HRG := Lib.hid (fun n W => rangedW n W)
  have HSY := Lib.hid (fun W (hW : Below w.heap.size w W) => SymbolsW P w HI t.size t A c W (Nat.le_refl _) hs hall hR hW)
  unfold Nd.val at HSY ⊢
  obtain ⟨w1, hw1⟩ : ∃ w1, w.alloc (.cells #[.int .i64 t.kind, .string t.text, .int .i64 t.pos, .int .i64 t.fin, .slice A t.kids.length c] 24) = w1 := ⟨_, rfl⟩
  have hh : w1.heap[w.heap.size]? = some (.cells (cells5 t A c).toArray 24 (0, 0)) := by rw [← hw1]; exact heap_alloc_new _ _
  have hb1 : Below w.heap.size w w1 := by rw [← hw1]; exact (Below.refl _ _).alloc (Nat.le_refl _) _
  have HB1 := Lib.hid hb1
  have HH := Lib.hid (show ∀ W, Below w1.heap.size w1 W → At5 W w.heap.size 0 t A c from fun W h => At5.of ((h.block _ (hltW hh)).trans hh))
  clear hh hb1 HI hall hR
  by_cases hk : 1 ≤ k ∧ k ≤ 64
  · have HR1 := Lib.hid (fun W => rangedT k hk W)
    by_cases hw : 1 ≤ wd ∧ wd ≤ 64
    · have HR2 := Lib.hid (fun W => rangedT wd hw W)
      go_enter Tryd.func12, Tryd.ntmps12
      go_wp2_with fail
      refine (HR1.out w1).mono ?_
      rintro e w2 ⟨rfl, hb2⟩
      have H2 := Lib.hid hb2.below
      clear hb2
      go_wp2_with fail
      refine (HR2.out w2).mono ?_
      rintro e w3 ⟨rfl, hb3⟩
      have H3 := Lib.hid (H2.out.trans (hb3.below.mono H2.out.size))
      obtain ⟨d0, d1, d2, d3, d4⟩ := HH.out w3 H3.out
      clear hb3 hw1
      go_wp2_with fail
      refine (HSY.out w3 (HB1.out.trans (H3.out.mono HB1.out.size))).mono ?_
      rintro e w4 ⟨⟨g, cap, rfl, hown⟩, hb4⟩
      have H4 := Lib.hid (H3.out.trans (hb4.mono H3.out.size))
      obtain ⟨A2, c2, hv2, hin2⟩ := hown.inR
      have hcall := HashesW (syms t) A2 c2 k w4 hin2
      rw [← hv2] at hcall
      have HC := Lib.hid hcall
      clear d0 d1 d2 d3 d4 hown hb4 hv2 hin2 hcall
      go_wp2_with fail
      refine HC.out.mono ?_
      rintro e w5 ⟨⟨v5, rfl, hown5⟩, hb5⟩
      have H5 := Lib.hid (H4.out.trans (hb5.mono H4.out.size))
      obtain ⟨A6, c6, hv6, hin6⟩ := hown5.inR
      have hcall := WinnowW (hashesV (syms t) k) A6 c6 wd w5 hin6
      rw [← hv6] at hcall
      have HC6 := Lib.hid hcall
      have HTOP := Lib.hid (HB1.out.trans (H5.out.mono HB1.out.size))
      clear hown5 hb5 hv6 hin6 hcall HC
      by_cases hc : hashesC (syms t) k = 0
      · have hm1 : marksC t k wd = winC (hashesV (syms t) k) wd := by unfold marksC; rw [if_pos ⟨hk, hw⟩, if_pos hc]
        have hm2 : marksV t k wd = winV (hashesV (syms t) k) wd := by unfold marksV; rw [if_pos ⟨hk, hw⟩, if_pos hc]
        have HM := Lib.hid (And.intro hm1 hm2)
        rw [hc]
        clear hm1 hm2 hc
        go_wp2_with fail
        refine HC6.out.mono ?_
        rintro e w7 ⟨⟨v7, rfl, hm⟩, hb7⟩
        go_wp2_with fail
        go_ret2
        have hz := HTOP.out.size
        refine ⟨⟨v7, by rw [HM.out.1]; rfl, ?_⟩, HTOP.out.trans (hb7.mono hz)⟩
        rw [HM.out.2]
        exact hm
      · have hm1 : marksC t k wd = hashesC (syms t) k := by unfold marksC; rw [if_pos ⟨hk, hw⟩, if_neg hc]
        have hm2 : marksV t k wd = [] := by unfold marksV; rw [if_pos ⟨hk, hw⟩, if_neg hc]
        have HM := Lib.hid (And.intro hm1 hm2)
        have hd : (hashesC (syms t) k != 0) = true := by rw [bne_iff_ne]; exact hc
        obtain ⟨ec, hec⟩ : ∃ ec, hashesC (syms t) k = ec := ⟨_, rfl⟩
        rw [hec] at HM hd ⊢
        clear hm1 hm2 hc hec
        go_wp2_with fail
        go_ret2
        exact ⟨⟨.slice none 0 0, by rw [HM.out.1]; rfl, by rw [HM.out.2]; exact MkR.nil _⟩, HTOP.out⟩
    · have hm1 : marksC t k wd = 2 := by unfold marksC; rw [if_neg (fun h => hw h.2)]
      have hm2 : marksV t k wd = [] := by unfold marksV; rw [if_neg (fun h => hw h.2)]
      have HM := Lib.hid (And.intro hm1 hm2)
      have HR2 := Lib.hid (fun W => rangedF wd hw W)
      clear hm1 hm2
      go_enter Tryd.func12, Tryd.ntmps12
      go_wp2_with fail
      refine (HR1.out w1).mono ?_
      rintro e w2 ⟨rfl, hb2⟩
      have H2 := Lib.hid hb2.below
      clear hb2
      go_wp2_with fail
      refine (HR2.out w2).mono ?_
      rintro e w3 ⟨rfl, hb3⟩
      have H3 := Lib.hid (HB1.out.trans ((H2.out.trans (hb3.below.mono H2.out.size)).mono HB1.out.size))
      clear hb3 hw1
      go_wp2_with fail
      go_ret2
      exact ⟨⟨.slice none 0 0, by rw [HM.out.1]; rfl, by rw [HM.out.2]; exact MkR.nil _⟩, H3.out⟩
  · have hm1 : marksC t k wd = 2 := by unfold marksC; rw [if_neg (fun h => hk h.1)]
    have hm2 : marksV t k wd = [] := by unfold marksV; rw [if_neg (fun h => hk h.1)]
    have HM := Lib.hid (And.intro hm1 hm2)
    have HR1 := Lib.hid (fun W => rangedF k hk W)
    clear hm1 hm2
    go_enter Tryd.func12, Tryd.ntmps12
    go_wp2_with fail
    refine (HR1.out w1).mono ?_
    rintro e w2 ⟨rfl, hb2⟩
    have H3 := Lib.hid (HB1.out.trans (hb2.below.mono HB1.out.size))
    clear hb2 hw1
    go_wp2_with fail
    go_ret2
    exact ⟨⟨.slice none 0 0, by rw [HM.out.1]; rfl, by rw [HM.out.2]; exact MkR.nil _⟩, H3.out⟩
end Go.Proofs.YtpkjiimcoepjpaaDoor
