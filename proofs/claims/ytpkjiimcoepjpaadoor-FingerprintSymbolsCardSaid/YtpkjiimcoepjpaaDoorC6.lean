/- Seat 43, texts merged: Winnow, Marks, Shared walked. Lemmas for the laws of chapter 43; no conditions of their own beyond what each states. -/
import Derived.Test.YtpkjiimcoepjpaaDoorC1
import Derived.Test.YtpkjiimcoepjpaaDoorC4
import Derived.Test.YtpkjiimcoepjpaaDoorC2
import Derived.Test.YtpkjiimcoepjpaaDoorC5
import Derived.Test.YtpkjiimcoepjpaaDoorShelf
import Derived.Shelf.SlIterI.Sorted
import Derived.Shelf.SlIterI.Collect
import Derived.Shelf.SlIterI.Keys
import Derived.Maps.OwnSet
import Derived.Maps.OwnOps
namespace Go.Proofs.YtpkjiimcoepjpaaDoor
set_option linter.unusedVariables false
set_option linter.unusedSimpArgs false
open Go.RowKit Go.Proofs.YtpkjiimcoepjpaaDoorW.PrintWords Go.Proofs.YtpkjiimcoepjpaaDoorW.PrintMore
open PFingerprintSymbols (S48 rd_T48 fingerprint_Winnow.f fingerprint_Winnow.l0 fingerprint_Winnow.l1 fingerprint_Winnow.j2)

def ni (Q : List Nat) : List Int := Q.map fun (p : Nat) => (p : Int)
theorem ni_len (Q : List Nat) : ((ni Q).length : Int) = (Q.length : Nat) := by unfold ni; rw [List.length_map]
theorem rd_ni (Q : List Nat) (i : Nat) (h : i < Q.length) : rd (ni Q) (i : Nat) = (Q[i] : Nat) := by
  unfold rd ni; rw [Int.toNat_natCast, List.getD_eq_getElem?_getD, List.getElem?_map, List.getElem?_eq_getElem h]; rfl
theorem rd_hv (h : List Int) (i : Nat) : rd h (i : Nat) = hv h i := by unfold rd hv; rw [Int.toNat_natCast]
def mkS (h : List Int) (p : Nat) : S48 := ⟨hv h p, (p : Nat)⟩

/-- the pops -/
theorem evPop (h : List Int) (w : Int) (out : List S48) (i : Nat) (hn : h.length ≤ 2048) (R : List S48 × Int) (n : Nat) : ∀ (Q : List Nat), Q.length = n → Q.length ≤ 4096 → (∀ p ∈ Q, p < h.length) →
    Ev (fun k => fingerprint_Winnow.j2 k h w out (ni (popQ h (hv h i) Q)) ((i : Nat) : Int) h ((h.length : Nat) : Int) ((i : Nat) : Int)) R →
    Ev (fun k => fingerprint_Winnow.l1 k h w out (ni Q) ((i : Nat) : Int) (hv h i) h ((h.length : Nat) : Int) ((i : Nat) : Int)) R := by
  induction n with
  | zero =>
    intro Q hQ hq hm H
    have hQ := List.eq_nil_of_length_eq_zero hQ
    subst hQ
    rw [popQ_nil] at H
    refine Ev.step (fun k => ?_) H
    simp only [fingerprint_Winnow.l1]
    rw [if_neg (by simp [ni])]
  | succ n ih =>
    intro Q hQ hq hm H
    obtain ⟨Q', p, rfl⟩ : ∃ Q' p, Q = Q' ++ [p] := ⟨Q.dropLast, Q.getLast (by intro e; rw [e] at hQ; simp at hQ), (List.dropLast_concat_getLast _).symm⟩
    have hl : (Q' ++ [p]).length = Q'.length + 1 := by simp
    have hp := hm p (by simp)
    have hw1 : wrap64 (((Q' ++ [p]).length : Int) - 1) = ((Q'.length : Nat) : Int) := by rw [w64in _ (by omega)]; omega
    have hr : rd (ni (Q' ++ [p])) ((Q'.length : Nat) : Int) = (p : Nat) := by
      rw [rd_ni _ _ (by omega)]; simp
    have ht : (ni (Q' ++ [p])).take Q'.length = ni Q' := by unfold ni; rw [List.map_append, List.take_left' (by simp)]
    by_cases hx : hv h i ≤ hv h p
    · rw [popQ_hit _ _ _ _ hx] at H
      refine Ev.step (fun k => ?_) (ih Q' (by omega) (by omega) (fun q hq => hm q (by simp [hq])) H)
      simp only [fingerprint_Winnow.l1]
      rw [ni_len, hw1, if_pos (by omega), if_pos (by omega), if_pos (by omega), hr, if_pos (by omega), if_pos (by omega), rd_hv, if_pos hx, if_pos (by omega), Int.toNat_natCast, ht]
    · rw [popQ_stop _ _ _ _ hx] at H
      refine Ev.step (fun k => ?_) H
      simp only [fingerprint_Winnow.l1]
      rw [ni_len, hw1, if_pos (by omega), if_pos (by omega), if_pos (by omega), hr, if_pos (by omega), if_pos (by omega), rd_hv, if_neg hx]

def outStep (w i q : Nat) (O : List Nat) : List Nat := if w ≤ i + 1 ∧ O.getLast? ≠ some q then O ++ [q] else O
/-- behind the pops -/
theorem evJ (h : List Int) (w i : Nat) (O Q0 : List Nat) (hn : h.length ≤ 2048) (hw : 1 ≤ w) (hwn : w ≤ h.length) (hi : i < h.length) (hQl : Q0.length ≤ 4096) (hOlen : O.length ≤ 4096) (R : List S48 × Int) (p : Nat) (Q1 : List Nat) (hQ1 : Q0 ++ [i] = p :: Q1)
    (q : Nat) (Q2 : List Nat) (hQ2 : (if (p : Int) ≤ (i : Int) - (w : Int) then Q1 else p :: Q1) = q :: Q2) (hq : q < h.length)
    (H : Ev (fun k => fingerprint_Winnow.l0 k h ((w : Nat) : Int) ((outStep w i q O).map (mkS h)) (ni (q :: Q2)) h ((h.length : Nat) : Int) ((i + 1 : Nat) : Int)) R) :
    Ev (fun k => fingerprint_Winnow.j2 k h ((w : Nat) : Int) (O.map (mkS h)) (ni Q0) ((i : Nat) : Int) h ((h.length : Nat) : Int) ((i : Nat) : Int)) R := by
  refine Ev.step (fun k => ?_) H
  have hy : ni Q0 ++ [((i : Nat) : Int)] = ni (p :: Q1) := by rw [← hQ1]; unfold ni; rw [List.map_append]; rfl
  have hp0 : rd (ni (p :: Q1)) 0 = (p : Nat) := rd_ni (p :: Q1) 0 (by simp)
  have hq0 : rd (ni (q :: Q2)) 0 = (q : Nat) := rd_ni (q :: Q2) 0 (by simp)
  have hwr : wrap64 (((i : Nat) : Int) + 1) = ((i + 1 : Nat) : Int) := by rw [w64in _ (by omega)]; omega
  have hd : (ni (p :: Q1)).drop (Int.toNat 1) = ni Q1 := by unfold ni; simp
  simp only [fingerprint_Winnow.j2, Option.bind_some]
  rw [if_pos (by unfold ni; rw [List.length_map]; omega), hy, if_pos (by rw [ni_len]; simp), hp0, w64in ((i : Int) - (w : Int)) (by omega)]
  unfold outStep
  by_cases hpw : (p : Int) ≤ (i : Int) - (w : Int)
  · rw [if_pos hpw] at hQ2
    rw [if_pos hpw, if_pos (by rw [ni_len]; simp; omega), hd, hQ2, if_pos (by rw [ni_len]; simp), hq0]
    by_cases hwi : w ≤ i + 1
    · rw [if_pos (by rw [w64in _ (by omega)]; omega)]
      rcases List.eq_nil_or_concat O with hO | ⟨O', z, hO⟩
      · subst hO
        rw [if_pos (by simp), if_pos (by omega), if_pos (by omega), if_pos (by simp), rd_hv, hwr]
        rw [if_pos ⟨hwi, by simp⟩]
        rfl
      · rw [List.concat_eq_append] at hO
        have hOl : ((O.map (mkS h)).length : Int) = ((O'.length + 1 : Nat) : Int) := by rw [hO]; simp
        have hw2 : wrap64 (((O.map (mkS h)).length : Int) - 1) = ((O'.length : Nat) : Int) := by rw [hOl, w64in _ (by have := hOlen; rw [hO] at this; simp at this; omega)]; omega
        have hz : (rd_T48 (O.map (mkS h)) ((O'.length : Nat) : Int)).f1 = (z : Nat) := by
          unfold rd_T48
          rw [Int.toNat_natCast, List.getD_eq_getElem?_getD, List.getElem?_map, hO]
          simp [mkS]
        have hgl : O.getLast? = some z := by rw [hO]; simp
        rw [hw2, hOl, if_neg (by omega), if_pos (by omega), if_pos (by omega), hz, hgl]
        by_cases hzq : z = q
        · rw [if_pos (by omega), hwr, if_neg (by rintro ⟨_, h2⟩; exact h2 (by rw [hzq]))]
        · rw [if_neg (by omega), if_pos (by omega), if_pos (by omega), if_pos (by rw [List.length_map]; omega), rd_hv, hwr, if_pos ⟨hwi, by intro e; injection e with e; exact hzq e⟩]
          rw [List.map_append]; rfl
    · rw [if_neg (by rw [w64in _ (by omega)]; omega), hwr, if_neg (by rintro ⟨h1, _⟩; exact hwi h1)]
  · rw [if_neg hpw] at hQ2
    obtain ⟨e1, e2⟩ := List.cons.inj hQ2
    subst e1
    subst e2
    rw [if_neg hpw]
    by_cases hwi : w ≤ i + 1
    · rw [if_pos (by rw [w64in _ (by omega)]; omega)]
      rcases List.eq_nil_or_concat O with hO | ⟨O', z, hO⟩
      · subst hO
        rw [if_pos (by simp), if_pos (by omega), if_pos (by omega), if_pos (by simp), rd_hv, hwr]
        rw [if_pos ⟨hwi, by simp⟩]
        rfl
      · rw [List.concat_eq_append] at hO
        have hOl : ((O.map (mkS h)).length : Int) = ((O'.length + 1 : Nat) : Int) := by rw [hO]; simp
        have hw2 : wrap64 (((O.map (mkS h)).length : Int) - 1) = ((O'.length : Nat) : Int) := by rw [hOl, w64in _ (by have := hOlen; rw [hO] at this; simp at this; omega)]; omega
        have hz : (rd_T48 (O.map (mkS h)) ((O'.length : Nat) : Int)).f1 = (z : Nat) := by
          unfold rd_T48
          rw [Int.toNat_natCast, List.getD_eq_getElem?_getD, List.getElem?_map, hO]
          simp [mkS]
        have hgl : O.getLast? = some z := by rw [hO]; simp
        rw [hw2, hOl, if_neg (by omega), if_pos (by omega), if_pos (by omega), hz, hgl]
        by_cases hzq : z = p
        · rw [if_pos (by omega), hwr, if_neg (by rintro ⟨_, h2⟩; exact h2 (by rw [hzq]))]
        · rw [if_neg (by omega), if_pos (by omega), if_pos (by omega), if_pos (by rw [List.length_map]; omega), rd_hv, hwr, if_pos ⟨hwi, by intro e; injection e with e; exact hzq e⟩]
          rw [List.map_append]; rfl
    · rw [if_neg (by rw [w64in _ (by omega)]; omega), hwr, if_neg (by rintro ⟨h1, _⟩; exact hwi h1)]

theorem winQ_len (h : List Int) (a i : Nat) : (winQ h a i).length ≤ i := by
  unfold winQ; exact Nat.le_trans (List.length_filter_le _ _) (by simp)
theorem popQ_len (h : List Int) (x : Int) (Q : List Nat) : (popQ h x Q).length ≤ Q.length := by
  unfold popQ; rw [List.length_reverse]
  exact Nat.le_trans (List.dropWhile_sublist _).length_le (by simp)
theorem outP_len (h : List Int) (w : Nat) : ∀ i, (outP h w i).length ≤ i
  | 0 => Nat.le_refl _
  | i + 1 => by
    unfold outP
    have := outP_len h w i
    split <;> simp <;> omega
theorem evW (h : List Int) (w : Nat) (hn : h.length ≤ 2048) (hw : 1 ≤ w) (hwn : w ≤ h.length) (m : Nat) : ∀ i, h.length - i = m → i ≤ h.length →
    Ev (fun k => fingerprint_Winnow.l0 k h ((w : Nat) : Int) ((outP h w i).map (mkS h)) (ni (winQ h (i - w) i)) h ((h.length : Nat) : Int) ((i : Nat) : Int)) ((outP h w h.length).map (mkS h), 0) := by
  induction m with
  | zero =>
    intro i hm hi
    obtain rfl : i = h.length := by omega
    refine Ev.step (f := fun _ => some ((outP h w h.length).map (mkS h), (0 : Int))) (fun k => ?_) (Ev.now _)
    simp only [fingerprint_Winnow.l0]
    rw [if_neg (by omega)]
  | succ m ih =>
    intro i hm hi
    have hi2 : i < h.length := by omega
    have hpush := winQ_push h (i - w) i (by omega)
    have hql := winQ_len h (i - w) i
    have hpl := popQ_len h (hv h i) (winQ h (i - w) i)
    have hol := outP_len h w i
    obtain ⟨p, Q1, hQ1⟩ : ∃ p Q1, winQ h (i - w) (i + 1) = p :: Q1 := by
      cases hc : winQ h (i - w) (i + 1) with
      | nil => rw [← hpush] at hc; simp at hc
      | cons p Q1 => exact ⟨p, Q1, rfl⟩
    have hpa : i - w ≤ p := (winQ_mem.1 (show p ∈ winQ h (i - w) (i + 1) by rw [hQ1]; simp)).2.1
    have hmove : winQ h (i + 1 - w) (i + 1) = if (p : Int) ≤ (i : Int) - (w : Int) then Q1 else p :: Q1 := by
      by_cases hwi : w ≤ i
      · rw [show i + 1 - w = i - w + 1 by omega, winQ_drop hQ1]
        by_cases hp : p = i - w
        · rw [if_pos hp, if_pos (by omega)]
        · rw [if_neg hp, if_neg (by omega)]
      · rw [if_neg (by omega), ← hQ1]
        congr 1
        omega
    obtain ⟨q, Q2, hQ2⟩ : ∃ q Q2, winQ h (i + 1 - w) (i + 1) = q :: Q2 := by
      cases hc : winQ h (i + 1 - w) (i + 1) with
      | nil => have := winQ_last (h := h) (a := i + 1 - w) (i := i) (by omega); rw [hc] at this; simp at this
      | cons q Q2 => exact ⟨q, Q2, rfl⟩
    have hq : q = atW h w i := (winQ_head hQ2).uniq (atW_ok h hw)
    have hqi := (winQ_head hQ2).hi
    have hout : outStep w i q (outP h w i) = outP h w (i + 1) := by rw [hq]; rfl
    have H := ih (i + 1) (by omega) (by omega)
    rw [hQ2, ← hout] at H
    refine Ev.step (fun k => ?_) (evPop h _ _ i hn _ _ (winQ h (i - w) i) rfl (by omega) (fun r hr => by have := (winQ_mem.1 hr).1; omega)
      (evJ h w i (outP h w i) _ hn hw hwn hi2 (by omega) (by omega) _ p Q1 (by rw [hpush, hQ1]) q Q2 (by rw [← hmove, hQ2]) (by omega) H))
    simp only [fingerprint_Winnow.l0]
    rw [if_pos (by omega), if_pos (by omega), if_pos (by omega), rd_hv]
/-- what Winnow answers -/
def winV (h : List Int) (w : Int) : List S48 := if 1 ≤ w ∧ w ≤ 64 ∧ h.length ≤ 2048 then (outP h (min w.toNat h.length) h.length).map (mkS h) else []
def winC (h : List Int) (w : Int) : Int := if 1 ≤ w ∧ w ≤ 64 then (if h.length > 2048 then 8 else 0) else 2
theorem winnow_f (h : List Int) (w : Int) : ∃ k, fingerprint_Winnow.f k h w = some (winV h w, winC h w) := by
  unfold fingerprint_Winnow.f winV winC
  by_cases hw : 1 ≤ w ∧ w ≤ 64
  · by_cases hn : h.length ≤ 2048
    · rw [if_pos ⟨hw.1, hw.2, hn⟩, if_pos hw, if_neg (by omega)]
      by_cases h0 : h.length = 0
      · refine ⟨1, ?_⟩
        simp only [ranged_f, Option.bind_some]
        rw [decide_eq_true hw, if_pos rfl, if_neg (by omega)]
        simp only [fingerprint_Winnow.l0]
        rw [if_neg (by omega), h0]; rfl
      · have hmn : mn w ((h.length : Nat) : Int) = ((min w.toNat h.length : Nat) : Int) := by unfold mn; split <;> omega
        obtain ⟨k, hk⟩ := (evW h (min w.toNat h.length) hn (by omega) (by omega) _ 0 rfl (Nat.zero_le _)).rounds
        refine ⟨k, ?_⟩
        simp only [ranged_f, Option.bind_some]
        rw [decide_eq_true hw, if_pos rfl, if_neg (by omega), hmn]
        exact hk
    · rw [if_neg (by omega), if_pos hw, if_pos (by omega)]
      refine ⟨0, ?_⟩
      simp only [ranged_f, Option.bind_some]
      rw [decide_eq_true hw, if_pos rfl, if_pos (by omega)]
  · rw [if_neg (by omega), if_neg hw]
    refine ⟨0, ?_⟩
    simp only [ranged_f, Option.bind_some]
    rw [decide_eq_false hw, if_neg (by simp)]
end Go.Proofs.YtpkjiimcoepjpaaDoor

namespace Go.Proofs.YtpkjiimcoepjpaaDoor
set_option linter.unusedVariables false
set_option linter.unusedSimpArgs false
open Go.RowKit Go.Proofs.YtpkjiimcoepjpaaDoorW.PrintWords
open PFingerprintSymbols (S48 k48 fingerprint_Winnow.calls)

/-- a row of marks of some call's own -/
def MkR (w : World) (v : Value) (l : List S48) : Prop := ∃ base, Kd.R k48 48 w base (fun _ => True) v l
theorem MkR.reads {w : World} {v : Value} {l : List S48} (h : MkR w v l) : ∃ A c, v = .slice A l.length c ∧ l.length ≤ c ∧ Kd.C k48 w A l.length l := by
  obtain ⟨base, h⟩ := h
  exact Kd.R_reads h
theorem MkR.below {w w1 : World} {v : Value} {l : List S48} (h : MkR w v l) (hb : Below w.heap.size w w1) : MkR w1 v l := by
  obtain ⟨base, h⟩ := h
  exact ⟨base, Kd.R_below h hb⟩
theorem WinnowW (l : List Int) (A : Option Addr) (c : Nat) (k : Int) (w : World) (h : InR w A c l) :
    Calls Tryd.prog 24 #[.slice A l.length c, .int .i64 k] w fun e w' => (∃ v, e = .returned (.tuple #[v, .int .i64 (winC l k)]) ∧ MkR w' v (winV l k)) ∧ Below w.heap.size w w' := by
  obtain ⟨K, hK⟩ := winnow_f l k
  refine (fingerprint_Winnow.calls K A c l k _ _ w h.C h.1 hK).mono ?_
  rintro e w' ⟨v, rfl, h1, h2⟩
  exact ⟨⟨v, rfl, _, h1⟩, h2⟩
theorem OwR.inR {w : World} {base : Nat} {v : Value} {l : List Int} (h : OwR w base v l) : ∃ A c, v = .slice A l.length c ∧ InR w A c l := by
  unfold OwR at h
  rcases h.2 with ⟨hv, h0⟩ | ⟨g, cap, cur, hv, hb, hg, hnc, hcm, hcs, htake⟩
  · have : l = [] := List.eq_nil_of_length_eq_zero h0
    subst this
    exact ⟨none, 0, hv, Nat.le_refl _, by simp, fun h => by simp at h⟩
  · subst hv
    refine ⟨_, cap, rfl, hnc, by unfold maxLen at hcm; omega, fun hp => ⟨g, 0, rfl, fun i hi => ?_⟩⟩
    have hc := h.cellAt i (by omega)
    rw [Nat.zero_add, hc]
    unfold ints
    rw [List.getElem?_map, List.getElem?_eq_getElem hi]; rfl

theorem rangedT (n : Int) (h : 1 ≤ n ∧ n ≤ 64) (W : World) : Calls Tryd.prog 31 #[.int .i64 n] W fun e w' => e = .returned (.bool true) ∧ Drawn0 W w' := by
  have := rangedW n W
  rw [decide_eq_true h] at this
  exact this
theorem rangedF (n : Int) (h : ¬ (1 ≤ n ∧ n ≤ 64)) (W : World) : Calls Tryd.prog 31 #[.int .i64 n] W fun e w' => e = .returned (.bool false) ∧ Drawn0 W w' := by
  have := rangedW n W
  rw [decide_eq_false h] at this
  exact this
/-- what Marks answers -/
def marksC (t : Nd) (k w : Int) : Int := if (1 ≤ k ∧ k ≤ 64) ∧ 1 ≤ w ∧ w ≤ 64 then (if hashesC (syms t) k = 0 then winC (hashesV (syms t) k) w else hashesC (syms t) k) else 2
def marksV (t : Nd) (k w : Int) : List S48 := if (1 ≤ k ∧ k ≤ 64) ∧ 1 ≤ w ∧ w ≤ 64 then (if hashesC (syms t) k = 0 then winV (hashesV (syms t) k) w else []) else []
theorem MkR.nil (w : World) : MkR w (.slice none 0 0) [] := ⟨0, Kd.R_nil k48 48 w 0 _⟩

set_option maxRecDepth 100000 in
set_option maxHeartbeats 4000000 in
theorem MarksW (P : Int → Prop) (t : Nd) (A : Option Addr) (c : Nat) (k wd : Int) (w : World) (HI : ItOk P w) (hs : t.size ≤ 1000000) (hall : AllK P t) (hR : RN w t A c) :
    Calls Tryd.prog 12 #[t.val A c, .int .i64 k, .int .i64 wd] w fun e w' => (∃ v, e = .returned (.tuple #[v, .int .i64 (marksC t k wd)]) ∧ MkR w' v (marksV t k wd)) ∧ Below w.heap.size w w' := by
  have HRG := Lib.hid (fun n W => rangedW n W)
  have HSY := Lib.hid (fun W (hW : Below w.heap.size w W) => SymbolsW P w HI t.size t A c W (Nat.le_refl _) hs hall hR hW)
  unfold Nd.val at HSY ⊢
  obtain ⟨w1, hw1⟩ : ∃ w1, w.alloc (.cells #[.int .i64 t.kind, .string t.text, .int .i64 t.pos, .int .i64 t.fin, .slice A t.kids.length c] 24) = w1 := ⟨_, rfl⟩
  have hh : w1.heap[w.heap.size]? = some (.cells (cells5 t A c).toArray 24 (0, 0)) := by rw [← hw1]; exact heap_alloc_new _ _
  have hb1 : Below w.heap.size w w1 := by rw [← hw1]; exact (Below.refl _ _).alloc (Nat.le_refl _) _
  have HB1 := Lib.hid hb1
  have HH := Lib.hid (show ∀ W, Below w1.heap.size w1 W → At5 W w.heap.size 0 t A c from fun W h => At5.of ((h.block _ (hltW hh)).trans hh))
  clear hh hb1 HI hall hR
  by_cases hk : 1 ≤ k ∧ k ≤ 64
  · have HR1 := Lib.hid (fun W => rangedT k hk W)
    by_cases hw : 1 ≤ wd ∧ wd ≤ 64
    · have HR2 := Lib.hid (fun W => rangedT wd hw W)
      go_enter Tryd.func12, Tryd.ntmps12
      go_wp2_with fail
      refine (HR1.out w1).mono ?_
      rintro e w2 ⟨rfl, hb2⟩
      have H2 := Lib.hid hb2.below
      clear hb2
      go_wp2_with fail
      refine (HR2.out w2).mono ?_
      rintro e w3 ⟨rfl, hb3⟩
      have H3 := Lib.hid (H2.out.trans (hb3.below.mono H2.out.size))
      obtain ⟨d0, d1, d2, d3, d4⟩ := HH.out w3 H3.out
      clear hb3 hw1
      go_wp2_with fail
      refine (HSY.out w3 (HB1.out.trans (H3.out.mono HB1.out.size))).mono ?_
      rintro e w4 ⟨⟨g, cap, rfl, hown⟩, hb4⟩
      have H4 := Lib.hid (H3.out.trans (hb4.mono H3.out.size))
      obtain ⟨A2, c2, hv2, hin2⟩ := hown.inR
      have hcall := HashesW (syms t) A2 c2 k w4 hin2
      rw [← hv2] at hcall
      have HC := Lib.hid hcall
      clear d0 d1 d2 d3 d4 hown hb4 hv2 hin2 hcall
      go_wp2_with fail
      refine HC.out.mono ?_
      rintro e w5 ⟨⟨v5, rfl, hown5⟩, hb5⟩
      have H5 := Lib.hid (H4.out.trans (hb5.mono H4.out.size))
      obtain ⟨A6, c6, hv6, hin6⟩ := hown5.inR
      have hcall := WinnowW (hashesV (syms t) k) A6 c6 wd w5 hin6
      rw [← hv6] at hcall
      have HC6 := Lib.hid hcall
      have HTOP := Lib.hid (HB1.out.trans (H5.out.mono HB1.out.size))
      clear hown5 hb5 hv6 hin6 hcall HC
      by_cases hc : hashesC (syms t) k = 0
      · have hm1 : marksC t k wd = winC (hashesV (syms t) k) wd := by unfold marksC; rw [if_pos ⟨hk, hw⟩, if_pos hc]
        have hm2 : marksV t k wd = winV (hashesV (syms t) k) wd := by unfold marksV; rw [if_pos ⟨hk, hw⟩, if_pos hc]
        have HM := Lib.hid (And.intro hm1 hm2)
        rw [hc]
        clear hm1 hm2 hc
        go_wp2_with fail
        refine HC6.out.mono ?_
        rintro e w7 ⟨⟨v7, rfl, hm⟩, hb7⟩
        go_wp2_with fail
        go_ret2
        have hz := HTOP.out.size
        refine ⟨⟨v7, by rw [HM.out.1]; rfl, ?_⟩, HTOP.out.trans (hb7.mono hz)⟩
        rw [HM.out.2]
        exact hm
      · have hm1 : marksC t k wd = hashesC (syms t) k := by unfold marksC; rw [if_pos ⟨hk, hw⟩, if_neg hc]
        have hm2 : marksV t k wd = [] := by unfold marksV; rw [if_pos ⟨hk, hw⟩, if_neg hc]
        have HM := Lib.hid (And.intro hm1 hm2)
        have hd : (hashesC (syms t) k != 0) = true := by rw [bne_iff_ne]; exact hc
        obtain ⟨ec, hec⟩ : ∃ ec, hashesC (syms t) k = ec := ⟨_, rfl⟩
        rw [hec] at HM hd ⊢
        clear hm1 hm2 hc hec
        go_wp2_with fail
        go_ret2
        exact ⟨⟨.slice none 0 0, by rw [HM.out.1]; rfl, by rw [HM.out.2]; exact MkR.nil _⟩, HTOP.out⟩
    · have hm1 : marksC t k wd = 2 := by unfold marksC; rw [if_neg (fun h => hw h.2)]
      have hm2 : marksV t k wd = [] := by unfold marksV; rw [if_neg (fun h => hw h.2)]
      have HM := Lib.hid (And.intro hm1 hm2)
      have HR2 := Lib.hid (fun W => rangedF wd hw W)
      clear hm1 hm2
      go_enter Tryd.func12, Tryd.ntmps12
      go_wp2_with fail
      refine (HR1.out w1).mono ?_
      rintro e w2 ⟨rfl, hb2⟩
      have H2 := Lib.hid hb2.below
      clear hb2
      go_wp2_with fail
      refine (HR2.out w2).mono ?_
      rintro e w3 ⟨rfl, hb3⟩
      have H3 := Lib.hid (HB1.out.trans ((H2.out.trans (hb3.below.mono H2.out.size)).mono HB1.out.size))
      clear hb3 hw1
      go_wp2_with fail
      go_ret2
      exact ⟨⟨.slice none 0 0, by rw [HM.out.1]; rfl, by rw [HM.out.2]; exact MkR.nil _⟩, H3.out⟩
  · have hm1 : marksC t k wd = 2 := by unfold marksC; rw [if_neg (fun h => hk h.1)]
    have hm2 : marksV t k wd = [] := by unfold marksV; rw [if_neg (fun h => hk h.1)]
    have HM := Lib.hid (And.intro hm1 hm2)
    have HR1 := Lib.hid (fun W => rangedF k hk W)
    clear hm1 hm2
    go_enter Tryd.func12, Tryd.ntmps12
    go_wp2_with fail
    refine (HR1.out w1).mono ?_
    rintro e w2 ⟨rfl, hb2⟩
    have H3 := Lib.hid (HB1.out.trans (hb2.below.mono HB1.out.size))
    clear hb2 hw1
    go_wp2_with fail
    go_ret2
    exact ⟨⟨.slice none 0 0, by rw [HM.out.1]; rfl, by rw [HM.out.2]; exact MkR.nil _⟩, H3.out⟩
end Go.Proofs.YtpkjiimcoepjpaaDoor

namespace Go.Proofs.YtpkjiimcoepjpaaDoor
set_option linter.unusedVariables false
set_option linter.unusedSimpArgs false
open Go.RowKit Go.Shelf Go.Maps Go.Sort

theorem sortsIn (m : Nat) : AnyZI.SortsIn Tryd.prog Tryd.laysSorted_ren Fence.wide m :=
  ⟨fun blk off cap ss W hH hblk hsz => callsIn_wide.2 (Tryd.slices_Sort_int blk off cap ss W hH hblk hsz),
   fun p cap W => callsIn_wide.2 (Tryd.slices_Sort_int_none p cap W)⟩
theorem keys_any (mb : Option Nat) (w : World) :
    Calls Tryd.prog 40 #[.map mb] w fun e w' => e = .returned (.func (.func 48) #[] #[.pointer (some ⟨w.heap.size, 0, none⟩)]) ∧ w' = w.alloc (.cells #[.map mb] 64) :=
  (callsIn_wide (n := 5)).1 (AnyZI.keys_in Tryd.laysKeys Fence.wide 5 trivial rfl mb w)
theorem sorted_keys {H : Type} (Bm b nn : Nat) (D0 : DataW H) {R : Value → Option (DataW H × List MemPlace)} (w : World) (hBm : Bm < w.heap.size)
    (hm : w.cell? ⟨Bm, 0, none⟩ = some (.map (some b))) (hown : w.ownsMap Tryd.prog 3 R b nn D0) (hmax : Maps.size D0 ≤ 1000000) :
    Calls Tryd.prog 39 #[.func (.func 48) #[] #[.pointer (some ⟨Bm, 0, none⟩)]] w fun e w' => ∃ (v : Value) (ss : List Int), e = .returned v ∧ ss.Perm (intKeys D0) ∧
      w'.ownsRow w.heap.size 3 1 v ss.length ((ss.mergeSort (fun x y => decide (x ≤ y))).map encZ) ∧ Below w.heap.size w w' := by
  have hseq := AnyZI.keys_gives Tryd.laysKeys1 Fence.wide 2 trivial rfl (by omega) Bm b nn D0 w hBm hm hown
  have cS := AnyZI.sorted_in Tryd.laysSorted Fence.wide 5 trivial trivial trivial trivial rfl (by omega) (sortsIn _) (enters_of Tryd.func47 (by kernel_rfl) rfl) 48 #[.pointer (some ⟨Bm, 0, none⟩)] trivial (enters_of Tryd.func48 (by kernel_rfl) rfl) _ _ (by simp only [maxLen]; omega) (by omega) _ hseq
  refine ((callsIn_wide (n := 5)).1 cS).mono ?_
  rintro e w' ⟨v, ss, h1, h2, h3, h4, h5⟩
  exact ⟨v, ss, h1, h2, h3, h5⟩
end Go.Proofs.YtpkjiimcoepjpaaDoor

namespace Go.Proofs.YtpkjiimcoepjpaaDoor
set_option linter.unusedVariables false
set_option linter.unusedSimpArgs false
open Go.RowKit Go.Shelf Go.Maps Go.Sort

/-- a set of numbers as a map to true -/
def SetM {H : Type} (D : DataW H) (S : Int → Prop) : Prop :=
  (∀ x : Int, has D (.int .i64 x) = true ↔ S x) ∧ ∀ x : Int, S x → ∀ zd, D.atKey (.int .i64 x) zd = .lit (.bool true)
theorem setM_nil {H : Type} : SetM (.map [] : DataW H) (fun _ => False) :=
  ⟨fun x => ⟨fun h => by simp [has, DataW.atKey] at h, fun h => h.elim⟩, fun x h => h.elim⟩
theorem setM_put {H : Type} {D : DataW H} {S : Int → Prop} (h : SetM D S) (hD : IsMap D) (y : Int) : SetM (D.put (.int .i64 y) (.lit (.bool true))) (fun x => S x ∨ x = y) := by
  obtain ⟨h1, h2⟩ := h
  refine ⟨fun x => ?_, fun x hx zd => ?_⟩
  · by_cases hxy : x = y
    · subst hxy
      rw [has_put_same hD (by simp [WideAt.IsKeyLit])]
      exact ⟨fun _ => .inr rfl, fun _ => rfl⟩
    · rw [has_put_other (by simpa using hxy), h1]
      exact ⟨fun h => .inl h, fun h => h.resolve_right hxy⟩
  · by_cases hxy : x = y
    · subst hxy
      rw [atKey_put_same hD (by simp [WideAt.IsKeyLit])]
    · rw [atKey_put_other (by simp; exact hxy)]
      exact h2 x (hx.resolve_right hxy) zd
open PFingerprintSymbols (S48 k48 k48_mk k48_openM)
/-- a row of marks, read -/
def MkI (w : World) (A : Option Addr) (c : Nat) (l : List S48) : Prop :=
  l.length ≤ c ∧ l.length ≤ 9223372036854775807 ∧ (0 < l.length → ∃ b o, A = some ⟨b, o, none⟩ ∧ ∀ i (h : i < l.length), w.cell? ⟨b, o + i * 2, none⟩ = some (.int .i64 l[i].f0) ∧ w.cell? ⟨b, o + i * 2 + 1, none⟩ = some (.int .i64 l[i].f1))
theorem MkI.below {w w1 : World} {A : Option Addr} {c : Nat} {l : List S48} (h : MkI w A c l) (hb : Below w.heap.size w w1) : MkI w1 A c l :=
  ⟨h.1, h.2.1, fun hp => by
    obtain ⟨b, o, e, hc⟩ := h.2.2 hp
    exact ⟨b, o, e, fun i hi => ⟨(hb.cell (p := ⟨b, _, none⟩) (World.block_lt_of_cell? w _ (hc i hi).1)).trans (hc i hi).1, (hb.cell (p := ⟨b, _, none⟩) (World.block_lt_of_cell? w _ (hc i hi).2)).trans (hc i hi).2⟩⟩⟩
theorem MkR.mkI {w : World} {v : Value} {l : List S48} (h : MkR w v l) : ∃ A c, v = .slice A l.length c ∧ MkI w A c l := by
  obtain ⟨base, _, inner, ho, hr⟩ := h
  rcases ho.2 with ⟨hv, h0⟩ | ⟨g, cap, cur, hv, hb, hg, hnc, hcm, hcs, htake⟩
  · have : l = [] := List.eq_nil_of_length_eq_zero h0
    subst this
    exact ⟨none, 0, hv, Nat.le_refl _, by simp, fun h => by simp at h⟩
  · subst hv
    refine ⟨_, cap, rfl, hnc, by unfold maxLen at hcm; omega, fun hp => ⟨g, 0, rfl, fun i hi => ?_⟩⟩
    have h1 := hr.2 i l[i] (List.getElem?_eq_getElem hi)
    have h2 := k48_openM h1
    have hc0 := ho.cellAt (i * 2) (by show i * 2 < l.length * 2; omega)
    have hc1 := ho.cellAt (i * 2 + 1) (by show i * 2 + 1 < l.length * 2; omega)
    have e0 : inner[i * 2]? = some (.int .i64 l[i].f0) := by
      have := congrArg (fun x : List Value => x[0]?) h2
      simpa [List.getElem?_take, List.getElem?_drop, show k48.sz = 2 from rfl] using this
    have e1 : inner[i * 2 + 1]? = some (.int .i64 l[i].f1) := by
      have := congrArg (fun x : List Value => x[1]?) h2
      simpa [List.getElem?_take, List.getElem?_drop, show k48.sz = 2 from rfl] using this
    rw [Nat.zero_add]
    exact ⟨hc0.trans e0, hc1.trans e1⟩

theorem take_ex (a : List S48) (i : Nat) (h : i < a.length) (z : Int) : (∃ m ∈ a.take (i + 1), m.f0 = z) ↔ (∃ m ∈ a.take i, m.f0 = z) ∨ z = a[i].f0 := by
  rw [List.take_succ_eq_append_getElem h]
  constructor
  · rintro ⟨m, hm, e⟩
    rcases List.mem_append.1 hm with hm | hm
    · exact .inl ⟨m, hm, e⟩
    · obtain rfl : m = a[i] := by simpa using hm
      exact .inr e.symm
  · rintro (⟨m, hm, e⟩ | e)
    · exact ⟨m, List.mem_append.2 (.inl hm), e⟩
    · exact ⟨a[i], List.mem_append.2 (.inr (by simp)), e.symm⟩
/-- what both lists' hashes have in common -/
def Both (a b : List S48) (x : Int) : Prop := (∃ m ∈ a, m.f0 = x) ∧ ∃ m ∈ b, m.f0 = x

theorem keys_mem {H : Type} {w : World} {k : TypeId} {R : Value → Option (DataW H × List MemPlace)} {b n : Nat} {D0 : DataW H} (hown : w.ownsMap Tryd.prog k R b n D0) (K : Keyed Tryd.prog k) (hk : Tryd.prog.underlying k = some (.int .i64)) :
    (intKeys D0).Nodup ∧ ∀ x, x ∈ intKeys D0 ↔ has D0 (.int .i64 x) = true := by
  obtain ⟨es, hD, hp, _⟩ := hown.entries K
  obtain ⟨es', hD', hko⟩ := hown.keysOf
  obtain rfl : es = es' := by rw [hD] at hD'; simpa using hD'
  subst hD
  have hk : ∀ p ∈ es, ∃ x, p.1 = .int .i64 x := fun p hp => by obtain ⟨v, hv⟩ := hko p hp; obtain ⟨x, _, hx, _⟩ := Maps.keyOf_i64 hk hv; exact ⟨x, hx⟩
  constructor
  · show (es.map fun p => Go.intOf p.1).Nodup
    refine List.pairwise_map.2 (hp.imp_of_mem fun {p q} hp' hq' hne e => hne ?_)
    obtain ⟨a, ha⟩ := hk p hp'
    obtain ⟨b, hb⟩ := hk q hq'
    rw [ha, hb] at e ⊢
    exact congrArg _ e
  · intro x
    rw [has_eq, List.any_eq_true]
    show x ∈ es.map (fun p => Go.intOf p.1) ↔ _
    rw [List.mem_map]
    constructor
    · rintro ⟨p, hp', rfl⟩
      obtain ⟨a, ha⟩ := hk p hp'
      exact ⟨p, hp', by rw [ha]; simp [Lit.sameKey, Go.intOf]⟩
    · rintro ⟨p, hp', hs⟩
      obtain ⟨a, ha⟩ := hk p hp'
      rw [ha] at hs
      exact ⟨p, hp', by rw [ha]; simpa [Lit.sameKey, Go.intOf] using hs⟩
/-- a sorted list of different numbers -/
theorem sort_up {ss ks : List Int} (hp : ss.Perm ks) (hn : ks.Nodup) : (ss.mergeSort (fun x y => decide (x ≤ y))).Pairwise (· < ·) ∧ ∀ x, x ∈ ss.mergeSort (fun x y => decide (x ≤ y)) ↔ x ∈ ks := by
  have tr : ∀ a b c : Int, decide (a ≤ b) = true → decide (b ≤ c) = true → decide (a ≤ c) = true := fun a b c h1 h2 => by simp only [decide_eq_true_eq] at *; omega
  have hto : ∀ a b : Int, (decide (a ≤ b) || decide (b ≤ a)) = true := fun a b => by simp only [Bool.or_eq_true, decide_eq_true_eq]; omega
  have hperm := List.mergeSort_perm ss (fun x y => decide (x ≤ y))
  have hs := List.pairwise_mergeSort tr hto ss
  refine ⟨?_, fun x => by rw [hperm.mem_iff, hp.mem_iff]⟩
  have hn3 := (hperm.trans hp).nodup_iff.2 hn
  refine (hs.and hn3).imp ?_
  rintro a b ⟨h1, h2⟩
  simp only [decide_eq_true_eq] at h1
  omega
theorem zeroB (w : World) : (zeroValue 4).run Tryd.prog w = .ok (.bool false) w := by kernel_rfl
theorem plain_bool {v : Value} {x : Bool} {ps : List MemPlace} (h : plainElem (H := Nat) Tryd.prog 4 v = some (.lit (.bool x), ps)) : v = .bool x := by
  cases v <;> simp [plainElem, Tryd.underlying4] at h
  simp [h]
theorem look_in {w : World} {b n : Nat} {D : DataW Nat} {S : Int → Prop} (h : w.ownsMap Tryd.prog 3 (plainElem Tryd.prog 4) b n D) (hs : SetM D S) {x : Int} (hkey : keyOf Tryd.prog 3 (.int .i64 x) = some (.int .i64 x)) :
    ∃ v : Bool, (Instr.lookup 64 (.map (some b)) (.int .i64 x) false).run Tryd.prog w = .ok (.bool v) w ∧ (v = true ↔ S x) := by
  obtain ⟨v, ps, hrun, hv⟩ := h.lookup (int_keyed Tryd.underlying3) Tryd.underlying64 (zeroB w) (plainElem_bool Tryd.underlying4 false) hkey
  by_cases hx : S x
  · rw [hs.2 x hx] at hv
    refine ⟨true, ?_, by simp [hx]⟩
    rw [hrun, plain_bool hv]
  · have hf : has D (.int .i64 x) = false := by
      cases hh : has D (.int .i64 x) with
      | false => rfl
      | true => exact absurd ((hs.1 x).1 hh) hx
    rw [atKey_of_not_has hf] at hv
    refine ⟨false, ?_, by simp [hx]⟩
    rw [hrun, plain_bool hv]

set_option maxRecDepth 100000 in
set_option maxHeartbeats 4000000 in
theorem SharedW (a b : List S48) (A B : Option Addr) (cA cB : Nat) (w : World) (hA : MkI w A cA a) (hB : MkI w B cB b) (la : a.length ≤ 100000) (lb : b.length ≤ 100000) (wa : ∀ m ∈ a, (Lit.int .i64 m.f0).wf = true) (wb : ∀ m ∈ b, (Lit.int .i64 m.f0).wf = true) :
    Calls Tryd.prog 26 #[.slice A a.length cA, .slice B b.length cB] w fun e w' => (∃ v L, e = .returned v ∧ OwR w' w.heap.size v L ∧ L.Pairwise (· < ·) ∧ ∀ x, x ∈ L ↔ Both a b x) ∧ Below w.heap.size w w' := by
  have HA := Lib.hid hA
  have HB := Lib.hid hB
  have HWA := Lib.hid wa
  have HWB := Lib.hid wb
  have hmm := @run_makeMap Tryd.prog
  clear hA hB wa wb
  go_enter Tryd.func26, Tryd.ntmps26
  go_wp2_with fail
  obtain ⟨w1, hw1⟩ : ∃ w1, (w.alloc (.map #[] 0)).alloc (.map #[] 0) = w1 := ⟨_, rfl⟩
  have hb1 : Below w.heap.size w w1 := by rw [← hw1]; exact ((Below.refl _ _).alloc (Nat.le_refl _) _).alloc (by simp) _
  have hs1 : w1.heap.size = w.heap.size + 2 := by rw [← hw1]; simp
  have ho1 : w1.ownsMap Tryd.prog 3 (plainElem (H := Nat) Tryd.prog 4) w.heap.size 0 (.map []) := by rw [← hw1]; exact (World.ownsMap_made w _ _ _).alloc _
  have ho2 : w1.ownsMap Tryd.prog 3 (plainElem (H := Nat) Tryd.prog 4) (w.heap.size + 1) 0 (.map []) := by
    rw [← hw1]
    have := World.ownsMap_made (H := Nat) (P := Tryd.prog) (w.alloc (.map #[] 0)) 3 (plainElem Tryd.prog 4)
    simpa using this
  rw [hw1]
  have H1 := Lib.hid (And.intro ho1 (And.intro ho2 (And.intro hb1 hs1)))
  clear hw1 hb1 hs1 ho1 ho2
  go_loopw [15] (fun c wr => ∃ (i : Nat) (D : DataW Nat), c = .int .i64 (i : Nat) ∧ i ≤ a.length ∧ Hid (wr.ownsMap Tryd.prog 3 (plainElem Tryd.prog 4) w.heap.size i D ∧ wr.ownsMap Tryd.prog 3 (plainElem (H := Nat) Tryd.prog 4) (w.heap.size + 1) 0 (.map []) ∧ SetM D (fun x => ∃ m ∈ a.take i, m.f0 = x) ∧ Below w.heap.size w wr)) (fun c _ => a.length - (Go.RowKit.intOf c).toNat)
  case atStart => exact ⟨0, .map [], rfl, Nat.zero_le _, Lib.hid ⟨H1.out.1, H1.out.2.1, ⟨fun x => by simpa using (setM_nil (H := Nat)).1 x, fun x hx => by simp at hx⟩, H1.out.2.2.1⟩⟩
  case round =>
    clear H1
    obtain ⟨i, D, rfl, hi, H⟩ := hrel
    by_cases hlt : i < a.length
    · obtain ⟨b', o', rfl, hc⟩ := (HA.out.below H.out.2.2.2).2.2 (by omega)
      obtain ⟨c0, c1⟩ := hc i hlt
      have hiI : (i : Int) < (a.length : Int) := by omega
      obtain ⟨x, hx⟩ : ∃ x, a[i].f0 = x := ⟨_, rfl⟩
      obtain ⟨y, hy⟩ : ∃ y, a[i].f1 = y := ⟨_, rfl⟩
      have hwf : (Lit.int .i64 x).wf = true := by rw [← hx]; exact HWA.out _ (List.getElem_mem _)
      rw [hx] at c0
      rw [hy] at c1
      have hkey : keyOf Tryd.prog 3 (.int .i64 x) = some (.int .i64 x) := keyOf_int_mk Tryd.underlying3 hwf
      have HKEY := Lib.hid hkey
      have HX := Lib.hid hx
      have HMAP := Lib.hid (H.out.1.alloc (.cells #[.int .i64 x, .int .i64 y] 48))
      clear hc hwf hkey hx hy
      go_wp2_with (first
        | (at_mapUpdate; refine wpList_mapUpdate_own _ rfl _ _ _ 64 rfl 3 4 (int_keyed Tryd.underlying3) Tryd.underlying64 _ w.heap.size i _ rfl HMAP.out (by simp only [maxLen]; omega) _ _ _ rfl rfl HKEY.out _ [] (plainElem_bool Tryd.underlying4 true) ?_; intro w5 hown5 hgrow5)
        | fail)
      go_roundw
      case rel =>
        have hz := H.out.2.2.2.size
        have hlt2 := H.out.2.1.lt
        refine ⟨i + 1, _, by go_num, by omega, Lib.hid ⟨hown5, ?_, ?_, (H.out.2.2.2.alloc hz _).grown hgrow5 (by simp; omega) (fun q hq => by cases hq; exact Nat.le_refl _)⟩⟩
        · obtain ⟨es, clock, hb, Ft, hs, hD⟩ := H.out.2.1
          refine ⟨es, clock, ?_, Ft, hs, hD⟩
          rw [hgrow5.block _ (by simp; omega) (fun e => by injection e with e; omega), Below.heap_alloc _ _ _ hlt2]
          exact hb
        · have hm := setM_put H.out.2.2.1 H.out.1.isMap x
          refine ⟨fun z => ?_, fun z hz' => hm.2 z ?_⟩
          · rw [hm.1 z]; show _ ↔ ∃ m ∈ a.take (i + 1), m.f0 = z; rw [take_ex a i hlt z, HX.out]
          · have h2 : ∃ m ∈ a.take (i + 1), m.f0 = z := hz'
            rw [take_ex a i hlt z, HX.out] at h2; exact h2
      case measure => simp [Go.RowKit.intOf]; omega
    · obtain rfl : i = a.length := by omega
      rw [List.take_length] at H
      go_wp2_with fail
      obtain ⟨wo, rfl⟩ : ∃ wo : World, wo = wr := ⟨_, rfl⟩
      go_loopw [25] (fun c wr => ∃ (i : Nat) (E : DataW Nat), c = .int .i64 (i : Nat) ∧ i ≤ b.length ∧ Hid (wr.ownsMap Tryd.prog 3 (plainElem Tryd.prog 4) w.heap.size a.length D ∧ wr.ownsMap Tryd.prog 3 (plainElem (H := Nat) Tryd.prog 4) (w.heap.size + 1) i E ∧ SetM D (fun x => ∃ m ∈ a, m.f0 = x) ∧ SetM E (fun x => (∃ m ∈ b.take i, m.f0 = x) ∧ ∃ m ∈ a, m.f0 = x) ∧ Below w.heap.size w wr)) (fun c _ => b.length - (Go.RowKit.intOf c).toNat)
      case atStart => exact ⟨0, .map [], rfl, Nat.zero_le _, Lib.hid ⟨H.out.1, H.out.2.1, H.out.2.2.1, ⟨fun x => by simpa using (setM_nil (H := Nat)).1 x, fun x hx => by simp at hx⟩, H.out.2.2.2⟩⟩
      case round =>
        clear H
        obtain ⟨i, E, rfl, hi, H⟩ := hrel
        by_cases hlt : i < b.length
        · obtain ⟨b', o', rfl, hc⟩ := (HB.out.below H.out.2.2.2.2).2.2 (by omega)
          obtain ⟨c0, c1⟩ := hc i hlt
          have hiI : (i : Int) < (b.length : Int) := by omega
          obtain ⟨x, hx⟩ : ∃ x, b[i].f0 = x := ⟨_, rfl⟩
          obtain ⟨y, hy⟩ : ∃ y, b[i].f1 = y := ⟨_, rfl⟩
          have hwf : (Lit.int .i64 x).wf = true := by rw [← hx]; exact HWB.out _ (List.getElem_mem _)
          rw [hx] at c0
          rw [hy] at c1
          have hkey : keyOf Tryd.prog 3 (.int .i64 x) = some (.int .i64 x) := keyOf_int_mk Tryd.underlying3 hwf
          have HKEY := Lib.hid hkey
          have HX := Lib.hid hx
          have HMAP := Lib.hid (H.out.2.1.alloc (.cells #[.int .i64 x, .int .i64 y] 48))
          obtain ⟨vb, hlook, hvb⟩ := look_in (H.out.1.alloc (.cells #[.int .i64 x, .int .i64 y] 48)) H.out.2.2.1 hkey
          have hz := H.out.2.2.2.2.size
          have hta := take_ex b i hlt
          have HTA := Lib.hid hta
          cases vb with
          | true =>
            have HIN := Lib.hid (hvb.1 rfl)
            clear hc hwf hkey hx hy hvb hta
            go_wp2_with (first
              | (at_mapUpdate; refine wpList_mapUpdate_own _ rfl _ _ _ 64 rfl 3 4 (int_keyed Tryd.underlying3) Tryd.underlying64 _ (w.heap.size + 1) i _ rfl HMAP.out (by simp only [maxLen]; omega) _ _ _ rfl rfl HKEY.out _ [] (plainElem_bool Tryd.underlying4 true) ?_; intro w5 hown5 hgrow5)
              | fail)
            go_roundw
            case rel =>
              refine ⟨i + 1, _, by go_num, by omega, Lib.hid ⟨?_, hown5, H.out.2.2.1, ?_, (H.out.2.2.2.2.alloc hz _).grown hgrow5 (by simp; omega) (fun q hq => by cases hq; omega)⟩⟩
              · exact (H.out.1.alloc _).kept hgrow5 (by simp)
              · have hm := setM_put H.out.2.2.2.1 H.out.2.1.isMap x
                have heq : ∀ z, ((∃ m ∈ b.take (i + 1), m.f0 = z) ∧ ∃ m ∈ a, m.f0 = z) ↔ ((∃ m ∈ b.take i, m.f0 = z) ∧ ∃ m ∈ a, m.f0 = z) ∨ z = x := by
                  intro z
                  rw [HTA.out z, HX.out]
                  constructor
                  · rintro ⟨h1 | h1, h2⟩
                    · exact .inl ⟨h1, h2⟩
                    · exact .inr h1
                  · rintro (⟨h1, h2⟩ | h1)
                    · exact ⟨.inl h1, h2⟩
                    · exact ⟨.inr h1, by rw [h1]; exact HIN.out⟩
                exact ⟨fun z => (hm.1 z).trans (heq z).symm, fun z hz' => hm.2 z ((heq z).1 hz')⟩
            case measure => simp [Go.RowKit.intOf]; omega
          | false =>
            have HIN := Lib.hid (show ¬ ∃ m ∈ a, m.f0 = x from fun h => by have := hvb.2 h; simp at this)
            clear hc hwf hkey hx hy hvb hta
            go_wp2_with fail
            go_roundw
            case rel =>
              refine ⟨i + 1, E, by go_num, by omega, Lib.hid ⟨H.out.1.alloc _, (H.out.2.1.alloc _).mono (by omega), H.out.2.2.1, ?_, H.out.2.2.2.2.alloc hz _⟩⟩
              have heq : ∀ z, ((∃ m ∈ b.take (i + 1), m.f0 = z) ∧ ∃ m ∈ a, m.f0 = z) ↔ ((∃ m ∈ b.take i, m.f0 = z) ∧ ∃ m ∈ a, m.f0 = z) := by
                intro z
                rw [HTA.out z, HX.out]
                constructor
                · rintro ⟨h1 | h1, h2⟩
                  · exact ⟨h1, h2⟩
                  · exact absurd (by rw [← h1]; exact h2) HIN.out
                · rintro ⟨h1, h2⟩
                  exact ⟨.inl h1, h2⟩
              exact ⟨fun z => (H.out.2.2.2.1.1 z).trans (heq z).symm, fun z hz' => H.out.2.2.2.1.2 z ((heq z).1 hz')⟩
            case measure => simp [Go.RowKit.intOf]; omega
        · obtain rfl : i = b.length := by omega
          rw [List.take_length] at H
          go_wp2_with fail
          refine (keys_any _ _).mono ?_
          rintro e w' ⟨rfl, rfl⟩
          go_wp2_with fail
          have hown' : (wr.alloc (.cells #[.map (some (w.heap.size + 1))] 64)).ownsMap Tryd.prog 3 (plainElem Tryd.prog 4) (w.heap.size + 1) b.length E := H.out.2.1.alloc _
          refine (sorted_keys wr.heap.size (w.heap.size + 1) b.length E _ (by simp) (by simp) hown' (by have := H.out.2.1.size_le; omega)).mono ?_
          rintro e w' ⟨v, ss, rfl, hperm, hrow, hbl⟩
          go_wp2_with fail
          go_ret
          have hz := H.out.2.2.2.2.size
          have hkm := keys_mem H.out.2.1 (int_keyed Tryd.underlying3) Tryd.underlying3
          have hsu := sort_up hperm hkm.1
          refine ⟨⟨v, _, rfl, ?_, hsu.1, fun x => ?_⟩, (H.out.2.2.2.2.alloc hz _).trans (hbl.mono (by simp; omega))⟩
          · unfold OwR ints
            rw [List.length_mergeSort]
            obtain ⟨e1, e2⟩ := hrow
            refine ⟨e1, e2.imp id ?_⟩
            rintro ⟨g, cap, cur, k1, k2, k3⟩
            exact ⟨g, cap, cur, k1, by simp at k2; omega, k3⟩
          · rw [hsu.2, hkm.2, H.out.2.2.2.1.1]
            unfold Both
            exact And.comm
end Go.Proofs.YtpkjiimcoepjpaaDoor
