/- Plain: what the printed Winnow computes. -/
import Derived.Test.YtpkjiimcoepjpaaDoorT16
import Derived.Test.YtpkjiimcoepjpaaDoorT6
import Derived.Test.YtpkjiimcoepjpaaDoorT3
namespace Go.Proofs.YtpkjiimcoepjpaaDoor
set_option linter.unusedVariables false
set_option linter.unusedSimpArgs false
open Go.RowKit Go.Proofs.YtpkjiimcoepjpaaDoorW.PrintWords Go.Proofs.YtpkjiimcoepjpaaDoorW.PrintMore
open PFingerprintSymbols (S48 rd_T48 fingerprint_Winnow.f fingerprint_Winnow.l0 fingerprint_Winnow.l1 fingerprint_Winnow.j2)

def ni (Q : List Nat) : List Int := Q.map fun (p : Nat) => (p : Int)
theorem ni_len (Q : List Nat) : ((ni Q).length : Int) = (Q.length : Nat) := by unfold ni; rw [List.length_map]
theorem rd_ni (Q : List Nat) (i : Nat) (h : i < Q.length) : rd (ni Q) (i : Nat) = (Q[i] : Nat) := by
  unfold rd ni; rw [Int.toNat_natCast, List.getD_eq_getElem?_getD, List.getElem?_map, List.getElem?_eq_getElem h]; rfl
theorem rd_hv (h : List Int) (i : Nat) : rd h (i : Nat) = hv h i := by unfold rd hv; rw [Int.toNat_natCast]
def mkS (h : List Int) (p : Nat) : S48 := ⟨hv h p, (p : Nat)⟩

/-- the pops -/
theorem evPop (h : List Int) (w : Int) (out : List S48) (i : Nat) (hn : h.length ≤ 2048) (R : List S48 × Int) (n : Nat) : ∀ (Q : List Nat), Q.length = n → Q.length ≤ 4096 → (∀ p ∈ Q, p < h.length) →
    Ev (fun k => fingerprint_Winnow.j2 k h w out (ni (popQ h (hv h i) Q)) ((i : Nat) : Int) h ((h.length : Nat) : Int) ((i : Nat) : Int)) R →
    Ev (fun k => fingerprint_Winnow.l1 k h w out (ni Q) ((i : Nat) : Int) (hv h i) h ((h.length : Nat) : Int) ((i : Nat) : Int)) R := by
  induction n with
  | zero =>
    intro Q hQ hq hm H
    have hQ := List.eq_nil_of_length_eq_zero hQ
    subst hQ
    rw [popQ_nil] at H
    refine Ev.step (fun k => ?_) H
    simp only [fingerprint_Winnow.l1]
    rw [if_neg (by simp [ni])]
  | succ n ih =>
    intro Q hQ hq hm H
    obtain ⟨Q', p, rfl⟩ : ∃ Q' p, Q = Q' ++ [p] := ⟨Q.dropLast, Q.getLast (by intro e; rw [e] at hQ; simp at hQ), (List.dropLast_concat_getLast _).symm⟩
    have hl : (Q' ++ [p]).length = Q'.length + 1 := by simp
    have hp := hm p (by simp)
    have hw1 : wrap64 (((Q' ++ [p]).length : Int) - 1) = ((Q'.length : Nat) : Int) := by rw [w64in _ (by omega)]; omega
    have hr : rd (ni (Q' ++ [p])) ((Q'.length : Nat) : Int) = (p : Nat) := by
      rw [rd_ni _ _ (by omega)]; simp
    have ht : (ni (Q' ++ [p])).take Q'.length = ni Q' := by unfold ni; rw [List.map_append, List.take_left' (by simp)]
    by_cases hx : hv h i ≤ hv h p
    · rw [popQ_hit _ _ _ _ hx] at H
      refine Ev.step (fun k => ?_) (ih Q' (by omega) (by omega) (fun q hq => hm q (by simp [hq])) H)
      simp only [fingerprint_Winnow.l1]
      rw [ni_len, hw1, if_pos (by omega), if_pos (by omega), if_pos (by omega), hr, if_pos (by omega), if_pos (by omega), rd_hv, if_pos hx, if_pos (by omega), Int.toNat_natCast, ht]
    · rw [popQ_stop _ _ _ _ hx] at H
      refine Ev.step (fun k => ?_) H
      simp only [fingerprint_Winnow.l1]
      rw [ni_len, hw1, if_pos (by omega), if_pos (by omega), if_pos (by omega), hr, if_pos (by omega), if_pos (by omega), rd_hv, if_neg hx]

def outStep (w i q : Nat) (O : List Nat) : List Nat := if w ≤ i + 1 ∧ O.getLast? ≠ some q then O ++ [q] else O
/-- behind the pops -/
theorem evJ (h : List Int) (w i : Nat) (O Q0 : List Nat) (hn : h.length ≤ 2048) (hw : 1 ≤ w) (hwn : w ≤ h.length) (hi : i < h.length) (hQl : Q0.length ≤ 4096) (hOlen : O.length ≤ 4096) (R : List S48 × Int) (p : Nat) (Q1 : List Nat) (hQ1 : Q0 ++ [i] = p :: Q1)
    (q : Nat) (Q2 : List Nat) (hQ2 : (if (p : Int) ≤ (i : Int) - (w : Int) then Q1 else p :: Q1) = q :: Q2) (hq : q < h.length)
    (H : Ev (fun k => fingerprint_Winnow.l0 k h ((w : Nat) : Int) ((outStep w i q O).map (mkS h)) (ni (q :: Q2)) h ((h.length : Nat) : Int) ((i + 1 : Nat) : Int)) R) :
    Ev (fun k => fingerprint_Winnow.j2 k h ((w : Nat) : Int) (O.map (mkS h)) (ni Q0) ((i : Nat) : Int) h ((h.length : Nat) : Int) ((i : Nat) : Int)) R := by
  refine Ev.step (fun k => ?_) H
  have hy : ni Q0 ++ [((i : Nat) : Int)] = ni (p :: Q1) := by rw [← hQ1]; unfold ni; rw [List.map_append]; rfl
  have hp0 : rd (ni (p :: Q1)) 0 = (p : Nat) := rd_ni (p :: Q1) 0 (by simp)
  have hq0 : rd (ni (q :: Q2)) 0 = (q : Nat) := rd_ni (q :: Q2) 0 (by simp)
  have hwr : wrap64 (((i : Nat) : Int) + 1) = ((i + 1 : Nat) : Int) := by rw [w64in _ (by omega)]; omega
  have hd : (ni (p :: Q1)).drop (Int.toNat 1) = ni Q1 := by unfold ni; simp
  simp only [fingerprint_Winnow.j2, Option.bind_some]
  rw [if_pos (by unfold ni; rw [List.length_map]; omega), hy, if_pos (by rw [ni_len]; simp), hp0, w64in ((i : Int) - (w : Int)) (by omega)]
  unfold outStep
  by_cases hpw : (p : Int) ≤ (i : Int) - (w : Int)
  · rw [if_pos hpw] at hQ2
    rw [if_pos hpw, if_pos (by rw [ni_len]; simp; omega), hd, hQ2, if_pos (by rw [ni_len]; simp), hq0]
    by_cases hwi : w ≤ i + 1
    · rw [if_pos (by rw [w64in _ (by omega)]; omega)]
      rcases List.eq_nil_or_concat O with hO | ⟨O', z, hO⟩
      · subst hO
        rw [if_pos (by simp), if_pos (by omega), if_pos (by omega), if_pos (by simp), rd_hv, hwr]
        rw [if_pos ⟨hwi, by simp⟩]
        rfl
      · rw [List.concat_eq_append] at hO
        have hOl : ((O.map (mkS h)).length : Int) = ((O'.length + 1 : Nat) : Int) := by rw [hO]; simp
        have hw2 : wrap64 (((O.map (mkS h)).length : Int) - 1) = ((O'.length : Nat) : Int) := by rw [hOl, w64in _ (by have := hOlen; rw [hO] at this; simp at this; omega)]; omega
        have hz : (rd_T48 (O.map (mkS h)) ((O'.length : Nat) : Int)).f1 = (z : Nat) := by
          unfold rd_T48
          rw [Int.toNat_natCast, List.getD_eq_getElem?_getD, List.getElem?_map, hO]
          simp [mkS]
        have hgl : O.getLast? = some z := by rw [hO]; simp
        rw [hw2, hOl, if_neg (by omega), if_pos (by omega), if_pos (by omega), hz, hgl]
        by_cases hzq : z = q
        · rw [if_pos (by omega), hwr, if_neg (by rintro ⟨_, h2⟩; exact h2 (by rw [hzq]))]
        · rw [if_neg (by omega), if_pos (by omega), if_pos (by omega), if_pos (by rw [List.length_map]; omega), rd_hv, hwr, if_pos ⟨hwi, by intro e; injection e with e; exact hzq e⟩]
          rw [List.map_append]; rfl
    · rw [if_neg (by rw [w64in _ (by omega)]; omega), hwr, if_neg (by rintro ⟨h1, _⟩; exact hwi h1)]
  · rw [if_neg hpw] at hQ2
    obtain ⟨e1, e2⟩ := List.cons.inj hQ2
    subst e1
    subst e2
    rw [if_neg hpw]
    by_cases hwi : w ≤ i + 1
    · rw [if_pos (by rw [w64in _ (by omega)]; omega)]
      rcases List.eq_nil_or_concat O with hO | ⟨O', z, hO⟩
      · subst hO
        rw [if_pos (by simp), if_pos (by omega), if_pos (by omega), if_pos (by simp), rd_hv, hwr]
        rw [if_pos ⟨hwi, by simp⟩]
        rfl
      · rw [List.concat_eq_append] at hO
        have hOl : ((O.map (mkS h)).length : Int) = ((O'.length + 1 : Nat) : Int) := by rw [hO]; simp
        have hw2 : wrap64 (((O.map (mkS h)).length : Int) - 1) = ((O'.length : Nat) : Int) := by rw [hOl, w64in _ (by have := hOlen; rw [hO] at this; simp at this; omega)]; omega
        have hz : (rd_T48 (O.map (mkS h)) ((O'.length : Nat) : Int)).f1 = (z : Nat) := by
          unfold rd_T48
          rw [Int.toNat_natCast, List.getD_eq_getElem?_getD, List.getElem?_map, hO]
          simp [mkS]
        have hgl : O.getLast? = some z := by rw [hO]; simp
        rw [hw2, hOl, if_neg (by omega), if_pos (by omega), if_pos (by omega), hz, hgl]
        by_cases hzq : z = p
        · rw [if_pos (by omega), hwr, if_neg (by rintro ⟨_, h2⟩; exact h2 (by rw [hzq]))]
        · rw [if_neg (by omega), if_pos (by omega), if_pos (by omega), if_pos (by rw [List.length_map]; omega), rd_hv, hwr, if_pos ⟨hwi, by intro e; injection e with e; exact hzq e⟩]
          rw [List.map_append]; rfl
    · rw [if_neg (by rw [w64in _ (by omega)]; omega), hwr, if_neg (by rintro ⟨h1, _⟩; exact hwi h1)]

theorem winQ_len (h : List Int) (a i : Nat) : (winQ h a i).length ≤ i := by
  unfold winQ; exact Nat.le_trans (List.length_filter_le _ _) (by simp)
theorem popQ_len (h : List Int) (x : Int) (Q : List Nat) : (popQ h x Q).length ≤ Q.length := by
  unfold popQ; rw [List.length_reverse]
  exact Nat.le_trans (List.dropWhile_sublist _).length_le (by simp)
theorem outP_len (h : List Int) (w : Nat) : ∀ i, (outP h w i).length ≤ i
  | 0 => Nat.le_refl _
  | i + 1 => by
    unfold outP
    have := outP_len h w i
    split <;> simp <;> omega
theorem evW (h : List Int) (w : Nat) (hn : h.length ≤ 2048) (hw : 1 ≤ w) (hwn : w ≤ h.length) (m : Nat) : ∀ i, h.length - i = m → i ≤ h.length →
    Ev (fun k => fingerprint_Winnow.l0 k h ((w : Nat) : Int) ((outP h w i).map (mkS h)) (ni (winQ h (i - w) i)) h ((h.length : Nat) : Int) ((i : Nat) : Int)) ((outP h w h.length).map (mkS h), 0) := by
  induction m with
  | zero =>
    intro i hm hi
    obtain rfl : i = h.length := by omega
    refine Ev.step (f := fun _ => some ((outP h w h.length).map (mkS h), (0 : Int))) (fun k => ?_) (Ev.now _)
    simp only [fingerprint_Winnow.l0]
    rw [if_neg (by omega)]
  | succ m ih =>
    intro i hm hi
    have hi2 : i < h.length := by omega
    have hpush := winQ_push h (i - w) i (by omega)
    have hql := winQ_len h (i - w) i
    have hpl := popQ_len h (hv h i) (winQ h (i - w) i)
    have hol := outP_len h w i
    obtain ⟨p, Q1, hQ1⟩ : ∃ p Q1, winQ h (i - w) (i + 1) = p :: Q1 := by
      cases hc : winQ h (i - w) (i + 1) with
      | nil => rw [← hpush] at hc; simp at hc
      | cons p Q1 => exact ⟨p, Q1, rfl⟩
    have hpa : i - w ≤ p := (winQ_mem.1 (show p ∈ winQ h (i - w) (i + 1) by rw [hQ1]; simp)).2.1
    have hmove : winQ h (i + 1 - w) (i + 1) = if (p : Int) ≤ (i : Int) - (w : Int) then Q1 else p :: Q1 := by
      by_cases hwi : w ≤ i
      · rw [show i + 1 - w = i - w + 1 by omega, winQ_drop hQ1]
        by_cases hp : p = i - w
        · rw [if_pos hp, if_pos (by omega)]
        · rw [if_neg hp, if_neg (by omega)]
      · rw [if_neg (by omega), ← hQ1]
        congr 1
        omega
    obtain ⟨q, Q2, hQ2⟩ : ∃ q Q2, winQ h (i + 1 - w) (i + 1) = q :: Q2 := by
      cases hc : winQ h (i + 1 - w) (i + 1) with
      | nil => have := winQ_last (h := h) (a := i + 1 - w) (i := i) (by omega); rw [hc] at this; simp at this
      | cons q Q2 => exact ⟨q, Q2, rfl⟩
    have hq : q = atW h w i := (winQ_head hQ2).uniq (atW_ok h hw)
    have hqi := (winQ_head hQ2).hi
    have hout : outStep w i q (outP h w i) = outP h w (i + 1) := by rw [hq]; rfl
    have H := ih (i + 1) (by omega) (by omega)
    rw [hQ2, ← hout] at H
    refine Ev.step (fun k => ?_) (evPop h _ _ i hn _ _ (winQ h (i - w) i) rfl (by omega) (fun r hr => by have := (winQ_mem.1 hr).1; omega)
      (evJ h w i (outP h w i) _ hn hw hwn hi2 (by omega) (by omega) _ p Q1 (by rw [hpush, hQ1]) q Q2 (by rw [← hmove, hQ2]) (by omega) H))
    simp only [fingerprint_Winnow.l0]
    rw [if_pos (by omega), if_pos (by omega), if_pos (by omega), rd_hv]
/-- what Winnow answers -/
def winV (h : List Int) (w : Int) : List S48 := if 1 ≤ w ∧ w ≤ 64 ∧ h.length ≤ 2048 then (outP h (min w.toNat h.length) h.length).map (mkS h) else []
def winC (h : List Int) (w : Int) : Int := if 1 ≤ w ∧ w ≤ 64 then (if h.length > 2048 then 8 else 0) else 2
theorem winnow_f (h : List Int) (w : Int) : ∃ k, fingerprint_Winnow.f k h w = some (winV h w, winC h w) := by
  unfold fingerprint_Winnow.f winV winC
  by_cases hw : 1 ≤ w ∧ w ≤ 64
  · by_cases hn : h.length ≤ 2048
    · rw [if_pos ⟨hw.1, hw.2, hn⟩, if_pos hw, if_neg (by omega)]
      by_cases h0 : h.length = 0
      · refine ⟨1, ?_⟩
        simp only [ranged_f, Option.bind_some]
        rw [decide_eq_true hw, if_pos rfl, if_neg (by omega)]
        simp only [fingerprint_Winnow.l0]
        rw [if_neg (by omega), h0]; rfl
      · have hmn : mn w ((h.length : Nat) : Int) = ((min w.toNat h.length : Nat) : Int) := by unfold mn; split <;> omega
        obtain ⟨k, hk⟩ := (evW h (min w.toNat h.length) hn (by omega) (by omega) _ 0 rfl (Nat.zero_le _)).rounds
        refine ⟨k, ?_⟩
        simp only [ranged_f, Option.bind_some]
        rw [decide_eq_true hw, if_pos rfl, if_neg (by omega), hmn]
        exact hk
    · rw [if_neg (by omega), if_pos hw, if_pos (by omega)]
      refine ⟨0, ?_⟩
      simp only [ranged_f, Option.bind_some]
      rw [decide_eq_true hw, if_pos rfl, if_pos (by omega)]
  · rw [if_neg (by omega), if_neg hw]
    refine ⟨0, ?_⟩
    simp only [ranged_f, Option.bind_some]
    rw [decide_eq_false hw, if_neg (by simp)]
end Go.Proofs.YtpkjiimcoepjpaaDoor
