/- Seat 43, texts merged: the reference of the values, awake, opening of the arguments. Lemmas for the laws of chapter 43; no conditions of their own beyond what each states. -/
import Derived.Test.YtpkjiimcoepjpaaDoorC3
import Derived.Test.YtpkjiimcoepjpaaDoorC6
import Derived.Laws.EntriesVeiled
import Derived.Test.YtpkjiimcoepjpaaDoorRows
import Derived.ProofKit
import Derived.OpenShut
import Derived.ChangeOld
import Derived.SizedLaws
import Derived.Deep.SlicePairs
namespace Go.Proofs.YtpkjiimcoepjpaaDoor
set_option linter.unusedVariables false
set_option linter.unusedSimpArgs false
open Go.RowKit Go.Proofs.YtpkjiimcoepjpaaDoorW.PrintWords Go.Proofs.YtpkjiimcoepjpaaDoorW.PrintMore
open PFingerprintSymbols (S48 k48 k48_mk z48 rd_T48 assessorref35_Same.f assessorref35_Same.l0 assessorref35_Same.calls assessorref43_Same.f assessorref43_Same.l0 assessorref43_Same.calls assessorref43_has.f assessorref43_has.l0 assessorref43_has.calls assessorref43_least.f assessorref43_least.l0 assessorref43_least.mono assessorref43_Winnow.f assessorref43_Winnow.j0 assessorref43_Winnow.j1 assessorref43_Winnow.j2 assessorref43_Winnow.l0 assessorref43_Winnow.l1 assessorref43_Winnow.calls)

/-! ### lists of numbers compared -/
theorem same_ev (a b : List Int) (hl : a.length = b.length) (hn : a.length ≤ 1000000) (m : Nat) : ∀ i, a.length - i = m → i ≤ a.length →
    ∃ r : Bool, Ev (fun k => assessorref35_Same.l0 k a b ((i : Nat) : Int)) r ∧ (r = true ↔ a.drop i = b.drop i) := by
  induction m with
  | zero =>
    intro i hm hi
    obtain rfl : i = a.length := by omega
    refine ⟨true, Ev.step (f := fun _ => some true) (fun k => ?_) (Ev.now _), ?_⟩
    · simp only [assessorref35_Same.l0]
      rw [if_neg (by omega)]
    · rw [List.drop_length, hl, List.drop_length]; simp
  | succ m ih =>
    intro i hm hi
    have hi2 : i < a.length := by omega
    have hi3 : i < b.length := by omega
    obtain ⟨r, hr, hiff⟩ := ih (i + 1) (by omega) (by omega)
    rw [List.drop_eq_getElem_cons hi2, List.drop_eq_getElem_cons hi3]
    by_cases he : a[i] = b[i]
    · refine ⟨r, Ev.step (fun k => ?_) hr, by rw [hiff, he]; exact ⟨fun h => by rw [h], fun h => (List.cons.inj h).2⟩⟩
      simp only [assessorref35_Same.l0]
      rw [if_pos (by omega), if_pos (by omega), if_pos (by omega), rd_get a i hi2, rd_get b i hi3, if_pos he, w64in _ (by omega)]
      rfl
    · refine ⟨false, Ev.step (f := fun _ => some false) (fun k => ?_) (Ev.now _), ⟨fun h => (Bool.noConfusion h), fun h => absurd (List.cons.inj h).1 he⟩⟩
      simp only [assessorref35_Same.l0]
      rw [if_pos (by omega), if_pos (by omega), if_pos (by omega), rd_get a i hi2, rd_get b i hi3, if_neg he]
theorem same_f (a b : List Int) (hn : a.length ≤ 1000000) : ∃ r : Bool, (∃ k, assessorref35_Same.f k a b = some r) ∧ (r = true ↔ a = b) := by
  by_cases hl : a.length = b.length
  · obtain ⟨r, hr, hiff⟩ := same_ev a b hl hn _ 0 rfl (Nat.zero_le _)
    refine ⟨r, ?_, by rw [hiff]; simp⟩
    obtain ⟨k, hk⟩ := hr.rounds
    refine ⟨k, ?_⟩
    unfold assessorref35_Same.f
    rw [if_pos (by omega)]
    exact hk
  · refine ⟨false, ⟨0, ?_⟩, by simp; intro e; exact hl (by rw [e])⟩
    unfold assessorref35_Same.f
    rw [if_neg (by omega)]
theorem SameI (a b : List Int) (A B : Option Addr) (cA cB : Nat) (w : World) (hA : InR w A cA a) (hB : InR w B cB b) (hn : a.length ≤ 1000000) :
    Calls Tryd.prog 14 #[.slice A a.length cA, .slice B b.length cB] w fun e w' => (∃ r : Bool, e = .returned (.bool r) ∧ (r = true ↔ a = b)) ∧ Drawn0 w w' := by
  obtain ⟨r, ⟨k, hk⟩, hiff⟩ := same_f a b hn
  refine (assessorref35_Same.calls k A cA a B cB b r w hA.C hA.1 hB.C hB.1 hk).mono ?_
  rintro e w' ⟨rfl, h⟩
  exact ⟨⟨r, rfl, hiff⟩, h⟩

/-! ### lists of marks compared -/
theorem rdM_get (l : List S48) (i : Nat) (h : i < l.length) : rd_T48 l (i : Nat) = l[i] := by
  unfold rd_T48; rw [Int.toNat_natCast, List.getD_eq_getElem?_getD, List.getElem?_eq_getElem h]; rfl
theorem S48.ext' {x y : S48} (h0 : x.f0 = y.f0) (h1 : x.f1 = y.f1) : x = y := by cases x; cases y; simp_all
theorem sameM_ev (a b : List S48) (hl : a.length = b.length) (hn : a.length ≤ 1000000) (m : Nat) : ∀ i, a.length - i = m → i ≤ a.length →
    ∃ r : Bool, Ev (fun k => assessorref43_Same.l0 k a b ((i : Nat) : Int)) r ∧ (r = true ↔ a.drop i = b.drop i) := by
  induction m with
  | zero =>
    intro i hm hi
    obtain rfl : i = a.length := by omega
    refine ⟨true, Ev.step (f := fun _ => some true) (fun k => ?_) (Ev.now _), ?_⟩
    · simp only [assessorref43_Same.l0]
      rw [if_neg (by omega)]
    · rw [List.drop_length, hl, List.drop_length]; simp
  | succ m ih =>
    intro i hm hi
    have hi2 : i < a.length := by omega
    have hi3 : i < b.length := by omega
    obtain ⟨r, hr, hiff⟩ := ih (i + 1) (by omega) (by omega)
    rw [List.drop_eq_getElem_cons hi2, List.drop_eq_getElem_cons hi3]
    by_cases he : a[i] = b[i]
    · refine ⟨r, Ev.step (fun k => ?_) hr, by rw [hiff, he]; exact ⟨fun h => by rw [h], fun h => (List.cons.inj h).2⟩⟩
      simp only [assessorref43_Same.l0]
      rw [if_pos (by omega), if_pos (by omega), if_pos (by omega), rdM_get a i hi2, rdM_get b i hi3, he, if_neg (by simp), w64in _ (by omega)]
      rfl
    · refine ⟨false, Ev.step (f := fun _ => some false) (fun k => ?_) (Ev.now _), ⟨fun h => (Bool.noConfusion h), fun h => absurd (List.cons.inj h).1 he⟩⟩
      simp only [assessorref43_Same.l0]
      rw [if_pos (by omega), if_pos (by omega), if_pos (by omega), rdM_get a i hi2, rdM_get b i hi3, if_pos]
      by_cases h0 : a[i].f0 = b[i].f0
      · have h1 : a[i].f1 ≠ b[i].f1 := fun h1 => he (S48.ext' h0 h1)
        simp [h0, h1]
      · simp [h0]
theorem sameM_f (a b : List S48) (hn : a.length ≤ 1000000) : ∃ r : Bool, (∃ k, assessorref43_Same.f k a b = some r) ∧ (r = true ↔ a = b) := by
  by_cases hl : a.length = b.length
  · obtain ⟨r, hr, hiff⟩ := sameM_ev a b hl hn _ 0 rfl (Nat.zero_le _)
    refine ⟨r, ?_, by rw [hiff]; simp⟩
    obtain ⟨k, hk⟩ := hr.rounds
    refine ⟨k, ?_⟩
    unfold assessorref43_Same.f
    rw [if_pos (by omega)]
    exact hk
  · refine ⟨false, ⟨0, ?_⟩, by simp; intro e; exact hl (by rw [e])⟩
    unfold assessorref43_Same.f
    rw [if_neg (by omega)]
theorem MkI.C {w : World} {A : Option Addr} {c : Nat} {l : List S48} (h : MkI w A c l) : Kd.C k48 w A l.length l := by
  refine ⟨rfl, h.2.1, fun hp => ?_⟩
  obtain ⟨b, o, e, hc⟩ := h.2.2 hp
  refine ⟨⟨b, o, none⟩, e, fun j p hj => ?_⟩
  obtain ⟨hj2, rfl⟩ := List.getElem?_eq_some_iff.1 hj
  refine ⟨[.int .i64 l[j].f0, .int .i64 l[j].f1], rfl, k48_mk w _, fun i u hu => ?_⟩
  have hi : i < 2 := (List.getElem?_eq_some_iff.1 hu).1
  rw [Go.WideShapes.add_plain]
  obtain ⟨c0, c1⟩ := hc j hj2
  rcases i with _ | _ | i
  · simp at hu; subst hu; exact c0
  · simp at hu; subst hu; exact c1
  · omega
theorem SameM (a b : List S48) (A B : Option Addr) (cA cB : Nat) (w : World) (hA : MkI w A cA a) (hB : MkI w B cB b) (hn : a.length ≤ 1000000) :
    Calls Tryd.prog 19 #[.slice A a.length cA, .slice B b.length cB] w fun e w' => (∃ r : Bool, e = .returned (.bool r) ∧ (r = true ↔ a = b)) ∧ Drawn0 w w' := by
  obtain ⟨r, ⟨k, hk⟩, hiff⟩ := sameM_f a b hn
  refine (assessorref43_Same.calls k A cA a B cB b r w hA.C hA.1 hB.C hB.1 hk).mono ?_
  rintro e w' ⟨rfl, h⟩
  exact ⟨⟨r, rfl, hiff⟩, h⟩

/-! ### a hash among marks -/
theorem has_ev (a : List S48) (x : Int) (hn : a.length ≤ 1000000) (m : Nat) : ∀ i, a.length - i = m → i ≤ a.length →
    ∃ r : Bool, Ev (fun k => assessorref43_has.l0 k a x ((i : Nat) : Int)) r ∧ (r = true ↔ ∃ p ∈ a.drop i, p.f0 = x) := by
  induction m with
  | zero =>
    intro i hm hi
    obtain rfl : i = a.length := by omega
    refine ⟨false, Ev.step (f := fun _ => some false) (fun k => ?_) (Ev.now _), ?_⟩
    · simp only [assessorref43_has.l0]
      rw [if_neg (by omega)]
    · rw [List.drop_length]; simp
  | succ m ih =>
    intro i hm hi
    have hi2 : i < a.length := by omega
    obtain ⟨r, hr, hiff⟩ := ih (i + 1) (by omega) (by omega)
    rw [List.drop_eq_getElem_cons hi2]
    by_cases he : a[i].f0 = x
    · refine ⟨true, Ev.step (f := fun _ => some true) (fun k => ?_) (Ev.now _), ⟨fun _ => ⟨_, List.mem_cons_self, he⟩, fun _ => rfl⟩⟩
      simp only [assessorref43_has.l0]
      rw [if_pos (by omega), if_pos (by omega), rdM_get a i hi2, if_pos he]
    · refine ⟨r, Ev.step (fun k => ?_) hr, by rw [hiff]; exact ⟨fun ⟨p, hp, e⟩ => ⟨p, List.mem_cons_of_mem _ hp, e⟩, fun ⟨p, hp, e⟩ => (List.mem_cons.1 hp).elim (fun h => absurd (h ▸ e) he) (fun h => ⟨p, h, e⟩)⟩⟩
      simp only [assessorref43_has.l0]
      rw [if_pos (by omega), if_pos (by omega), rdM_get a i hi2, if_neg he, w64in _ (by omega)]
      rfl
theorem HasW (a : List S48) (x : Int) (A : Option Addr) (cA : Nat) (w : World) (hA : MkI w A cA a) (hn : a.length ≤ 1000000) :
    Calls Tryd.prog 41 #[.slice A a.length cA, .int .i64 x] w fun e w' => (∃ r : Bool, e = .returned (.bool r) ∧ (r = true ↔ ∃ p ∈ a, p.f0 = x)) ∧ Drawn0 w w' := by
  obtain ⟨r, hr, hiff⟩ := has_ev a x hn _ 0 rfl (Nat.zero_le _)
  obtain ⟨k, hk⟩ := hr.rounds
  refine (assessorref43_has.calls k A cA a x r w hA.C hA.1 (by unfold assessorref43_has.f; exact hk)).mono ?_
  rintro e w' ⟨rfl, h⟩
  exact ⟨⟨r, rfl, by simpa using hiff⟩, h⟩

/-! ### the reference's Winnow -/
theorem least_ev (h : List Int) (hn : h.length ≤ 1000000) (fr to' : Nat) (htn : to' ≤ h.length) (m : Nat) : ∀ d, to' - (fr + d + 1) = m → fr + d + 1 ≤ to' →
    Ev (fun k => assessorref43_least.l0 k h ((to' : Nat) : Int) ((lst h fr d : Nat) : Int) ((fr + d + 1 : Nat) : Int)) ((lst h fr (to' - fr - 1) : Nat) : Int) := by
  induction m with
  | zero =>
    intro d hm hd
    obtain rfl : to' = fr + d + 1 := by omega
    rw [show fr + d + 1 - fr - 1 = d by omega]
    refine Ev.step (f := fun _ => some ((lst h fr d : Nat) : Int)) (fun k => ?_) (Ev.now _)
    simp only [assessorref43_least.l0]
    rw [if_neg (by omega)]
  | succ m ih =>
    intro d hm hd
    have hb := (lst_ok h fr d).hi
    refine Ev.step (fun k => ?_) (ih (d + 1) (by omega) (by omega))
    simp only [assessorref43_least.l0]
    rw [if_pos (by omega), if_pos (by omega), if_pos (by omega), if_pos (by omega), if_pos (by omega), rd_hv, rd_hv, w64in _ (by omega)]
    simp only [lst]
    by_cases hc : hv h (fr + d + 1) ≤ hv h (lst h fr d)
    · rw [if_pos hc, if_pos hc]
      rfl
    · rw [if_neg hc, if_neg hc]
      rfl
theorem least_f (h : List Int) (hn : h.length ≤ 1000000) (fr to' : Nat) (hft : fr < to') (htn : to' ≤ h.length) :
    Ev (fun k => assessorref43_least.f k h ((fr : Nat) : Int) ((to' : Nat) : Int)) ((lst h fr (to' - fr - 1) : Nat) : Int) := by
  unfold assessorref43_least.f
  refine Ev.step (fun k => ?_) (least_ev h hn fr to' htn _ 0 rfl (by omega))
  simp only [assessorref43_least.l0]
  rw [if_pos (by omega), if_pos (by omega), if_pos (by omega), if_pos (by omega), if_pos (by omega), if_pos (Int.le_refl _), w64in _ (by omega)]
  rfl
/-- the places that are marked as chosen, window by window -/
def chB (h : List Int) (w : Nat) : Nat → List Bool
  | 0 => List.replicate h.length false
  | i + 1 => (chB h w i).set (lst h i (w - 1)) true
theorem chB_len (h : List Int) (w : Nat) : ∀ i, (chB h w i).length = h.length
  | 0 => by simp [chB]
  | i + 1 => by simp [chB, chB_len h w i]
theorem chB_get (h : List Int) (w p : Nat) (hp : p < h.length) : ∀ i, (chB h w i).getD p false = true ↔ ∃ j, j < i ∧ lst h j (w - 1) = p
  | 0 => by
    unfold chB
    rw [List.getD_eq_getElem?_getD, List.getElem?_replicate, if_pos hp]
    simp
  | i + 1 => by
    have ih := chB_get h w p hp i
    have hl := chB_len h w i
    unfold chB
    rw [List.getD_eq_getElem?_getD] at ih ⊢
    rw [List.getElem?_set]
    by_cases he : lst h i (w - 1) = p
    · rw [if_pos he, if_pos (by omega)]
      simp only [Option.getD_some, true_iff]
      exact ⟨i, by omega, he⟩
    · rw [if_neg he, ih]
      constructor
      · rintro ⟨j, h1, h2⟩; exact ⟨j, by omega, h2⟩
      · rintro ⟨j, h1, h2⟩
        by_cases hj : j = i
        · subst hj; exact absurd h2 he
        · exact ⟨j, by omega, h2⟩
/-- the chosen places are those of the printed Winnow -/
theorem chB_outP (h : List Int) (w : Nat) (hw : 1 ≤ w) (hwn : w ≤ h.length) : (List.range h.length).filter (fun p => (chB h w (h.length + 1 - w)).getD p false) = outP h w h.length := by
  obtain ⟨h1, h2, _⟩ := outP_spec h hw h.length
  refine sorted_ext _ _ (List.Pairwise.filter _ List.pairwise_lt_range) h1 fun p => ?_
  rw [List.mem_filter, List.mem_range, h2 p]
  constructor
  · rintro ⟨hp, hc⟩
    obtain ⟨j, hj, he⟩ := (chB_get h w p hp _).1 hc
    refine ⟨j + w - 1, by omega, by omega, ?_⟩
    unfold atW
    rw [show j + w - 1 + 1 - w = j by omega, show j + w - 1 - j = w - 1 by omega]
    exact he
  · rintro ⟨j, hj1, hj2, he⟩
    have hb := (atW_ok h (j := j) hw).hi
    refine ⟨by omega, (chB_get h w p (by omega) _).2 ⟨j + 1 - w, by omega, ?_⟩⟩
    unfold atW at he
    rw [show j - (j + 1 - w) = w - 1 by omega] at he
    exact he
theorem rdOf_nat (B : List Bool) (p : Nat) : rdOf false B (p : Nat) = B.getD p false := by unfold rdOf; rw [Int.toNat_natCast]
theorem evOut (h : List Int) (B : List Bool) (hn : h.length ≤ 1000000) (hB : B.length = h.length) (m : Nat) : ∀ i, h.length - i = m → i ≤ h.length →
    Ev (fun k => assessorref43_Winnow.l1 k h B (((List.range i).filter fun p => B.getD p false).map (mkS h)) ((i : Nat) : Int)) ((((List.range h.length).filter fun p => B.getD p false).map (mkS h)), 0) := by
  induction m with
  | zero =>
    intro i hm hi
    obtain rfl : i = h.length := by omega
    refine Ev.step (f := fun _ => some ((((List.range h.length).filter fun p => B.getD p false).map (mkS h)), (0 : Int))) (fun k => ?_) (Ev.now _)
    simp only [assessorref43_Winnow.l1]
    rw [if_neg (by omega)]
  | succ m ih =>
    intro i hm hi
    have hi2 : i < h.length := by omega
    have hlen : (((List.range i).filter fun p => B.getD p false).map (mkS h)).length ≤ i := by
      rw [List.length_map]
      exact Nat.le_trans (List.length_filter_le _ _) (by simp)
    refine Ev.step (fun k => ?_) (ih (i + 1) (by omega) (by omega))
    simp only [assessorref43_Winnow.l1]
    rw [if_pos (by omega), if_pos (by omega), if_pos (by omega), rdOf_nat, w64in _ (by omega), rd_hv, List.range_succ, List.filter_append, List.map_append]
    by_cases hc : B.getD i false = true
    · rw [if_pos hc, if_pos (by omega)]
      rw [show [i].filter (fun p => B.getD p false) = [i] by rw [List.filter_cons, if_pos hc]; rfl]
      rfl
    · rw [if_neg hc]
      rw [show [i].filter (fun p => B.getD p false) = [] by rw [List.filter_cons, if_neg hc]; rfl]
      simp only [List.map_nil, List.append_nil]
      rfl
theorem evRef (h : List Int) (w : Nat) (hn : h.length ≤ 1000000) (hw : 1 ≤ w) (hwn : w ≤ h.length) (m : Nat) : ∀ i, h.length + 1 - w - i = m → i ≤ h.length + 1 - w →
    Ev (fun k => assessorref43_Winnow.l0 k h ((w : Nat) : Int) (chB h w i) ((i : Nat) : Int)) ((outP h w h.length).map (mkS h), 0) := by
  induction m with
  | zero =>
    intro i hm hi
    obtain rfl : i = h.length + 1 - w := by omega
    have H := evOut h (chB h w (h.length + 1 - w)) hn (chB_len _ _ _) _ 0 rfl (Nat.zero_le _)
    rw [chB_outP h w hw hwn] at H
    refine Ev.step (fun k => ?_) H
    simp only [assessorref43_Winnow.l0]
    rw [w64in _ (by omega), if_neg (by omega)]
    rfl
  | succ m ih =>
    intro i hm hi
    have hb := (lst_ok h i (w - 1)).hi
    have hl := chB_len h w i
    refine Ev.step (fun k => ?_) (Ev.bind (least_f h hn i (i + w) (by omega) (by omega)) (f := fun k (t : Int) => if 0 ≤ t then (if t < ((chB h w i).length : Int) then (assessorref43_Winnow.l0 k h ((w : Nat) : Int) ((chB h w i).set t.toNat true) ((i + 1 : Nat) : Int)) else none) else none) ?_)
    · simp only [assessorref43_Winnow.l0]
      rw [w64in ((i : Int) + (w : Int)) (by omega), if_pos (by omega), w64in ((i : Int) + 1) (by omega)]
      rfl
    · rw [show i + w - i - 1 = w - 1 by omega]
      refine Ev.congr (fun k => ?_) (ih (i + 1) (by omega) (by omega))
      rw [if_pos (by omega), if_pos (by omega), Int.toNat_natCast]
      rfl
theorem refwin_f (h : List Int) (w : Int) : ∃ k, assessorref43_Winnow.f k h w = some (winV h w, winC h w) := by
  unfold winV winC
  have H : Ev (fun k => assessorref43_Winnow.f k h w) (if 1 ≤ w ∧ w ≤ 64 ∧ h.length ≤ 2048 then (outP h (min w.toNat h.length) h.length).map (mkS h) else [], if 1 ≤ w ∧ w ≤ 64 then (if h.length > 2048 then 8 else 0) else 2) := by
    unfold assessorref43_Winnow.f
    by_cases hw : 1 ≤ w ∧ w ≤ 64
    · rw [if_pos hw]
      have hd : decide (w > 64) = false := decide_eq_false (by omega)
      by_cases hn : h.length ≤ 2048
      · have hl : h.length ≤ 1000000 := by omega
        rw [if_pos ⟨hw.1, hw.2, hn⟩, if_neg (by omega)]
        obtain ⟨W, rfl⟩ : ∃ W : Nat, w = ((W : Nat) : Int) := ⟨w.toNat, by omega⟩
        rw [Int.toNat_natCast]
        by_cases h0 : h.length = 0
        · obtain rfl := List.eq_nil_of_length_eq_zero h0
          refine Ev.step (f := fun k => assessorref43_Winnow.j1 k [] ((W : Nat) : Int) [] false) (fun k => ?_) ?_
          · rw [if_neg (by omega), hd]
            simp only [assessorref43_Winnow.j0]
            simp
          refine Ev.step (f := fun k => assessorref43_Winnow.j2 k [] ((W : Nat) : Int) []) (fun k => ?_) ?_
          · simp [assessorref43_Winnow.j1]
          refine Ev.step (f := fun k => assessorref43_Winnow.l0 k [] ((W : Nat) : Int) [] 0) (fun k => ?_) ?_
          · simp [assessorref43_Winnow.j2]
          refine Ev.step (f := fun k => assessorref43_Winnow.l1 k [] [] [] 0) (fun k => ?_) ?_
          · simp only [assessorref43_Winnow.l0]
            rw [w64in _ (by omega), if_neg (by simp; omega)]
          refine Ev.step (f := fun _ => some ([], (0 : Int))) (fun k => ?_) ?_
          · simp only [assessorref43_Winnow.l1]
            rw [if_neg (by simp)]
          exact Ev.now _
        · by_cases hWn : W ≤ h.length
          · rw [Nat.min_eq_left hWn]
            refine Ev.step (f := fun k => assessorref43_Winnow.j1 k h ((W : Nat) : Int) (chB h W 0) false) (fun k => ?_) ?_
            · rw [if_neg (by omega), hd]
              simp only [assessorref43_Winnow.j0]
              rw [if_neg (by simp), if_neg (by omega), if_pos (by omega), if_pos (by omega), Option.bind_some, if_pos (by omega), decide_eq_false (by omega)]
              rfl
            refine Ev.step (f := fun k => assessorref43_Winnow.j2 k h ((W : Nat) : Int) (chB h W 0)) (fun k => ?_) ?_
            · simp only [assessorref43_Winnow.j1]
              rw [if_neg (by simp)]
            refine Ev.step (fun k => ?_) (evRef h W hl (by omega) hWn _ 0 rfl (Nat.zero_le _))
            simp only [assessorref43_Winnow.j2]
            rfl
          · rw [Nat.min_eq_right (by omega)]
            have hb := (lst_ok h 0 (h.length - 1)).hi
            have hlen := chB_len h h.length 0
            refine Ev.step (f := fun k => assessorref43_Winnow.j1 k h ((W : Nat) : Int) (chB h h.length 0) true) (fun k => ?_) ?_
            · rw [if_neg (by omega), hd]
              simp only [assessorref43_Winnow.j0]
              rw [if_neg (by simp), if_neg (by omega), if_pos (by omega), if_pos (by omega), Option.bind_some, if_pos (by omega), decide_eq_true (by omega)]
              rfl
            refine Ev.step (fun k => ?_) (Ev.bind (least_f h hl 0 h.length (by omega) (Nat.le_refl _)) (f := fun k (t : Int) => if 0 ≤ t then (if t < ((chB h h.length 0).length : Int) then (assessorref43_Winnow.j2 k h ((W : Nat) : Int) ((chB h h.length 0).set t.toNat true)) else none) else none) ?_)
            · simp only [assessorref43_Winnow.j1]
              rw [if_pos trivial]
              rfl
            · rw [show h.length - 0 - 1 = h.length - 1 by omega]
              refine Ev.congr (f := fun k => assessorref43_Winnow.j2 k h ((W : Nat) : Int) (chB h h.length 1)) (fun k => ?_) ?_
              · rw [if_pos (by omega), if_pos (by omega), Int.toNat_natCast]
                rfl
              refine Ev.step (f := fun k => assessorref43_Winnow.l0 k h ((W : Nat) : Int) (chB h h.length 1) 0) (fun k => ?_) ?_
              · simp only [assessorref43_Winnow.j2]
              have H := evOut h (chB h h.length 1) hl (chB_len _ _ _) _ 0 rfl (Nat.zero_le _)
              have H2 := chB_outP h h.length (by omega) (Nat.le_refl _)
              rw [show h.length + 1 - h.length = 1 by omega] at H2
              rw [H2] at H
              refine Ev.step (fun k => ?_) H
              simp only [assessorref43_Winnow.l0]
              rw [w64in _ (by omega), if_neg (by omega)]
              rfl
      · rw [if_neg (by omega), if_pos (by omega)]
        refine Ev.step (f := fun _ => some ([], (8 : Int))) (fun k => ?_) (Ev.now _)
        rw [if_neg (by omega), hd]
        simp only [assessorref43_Winnow.j0]
        rw [if_neg (by simp), if_pos (by omega)]
    · rw [if_neg (by omega), if_neg hw]
      refine Ev.step (f := fun _ => some ([], (2 : Int))) (fun k => ?_) (Ev.now _)
      by_cases h1 : w < 1
      · rw [if_pos h1]
        simp only [assessorref43_Winnow.j0]
        rw [if_pos trivial]
      · rw [if_neg h1, decide_eq_true (by omega)]
        simp only [assessorref43_Winnow.j0]
        rw [if_pos trivial]
  exact H.rounds
theorem RefWinnowW (l : List Int) (A : Option Addr) (c : Nat) (k : Int) (w : World) (h : InR w A c l) :
    Calls Tryd.prog 25 #[.slice A l.length c, .int .i64 k] w fun e w' => (∃ v, e = .returned (.tuple #[v, .int .i64 (winC l k)]) ∧ MkR w' v (winV l k)) ∧ Below w.heap.size w w' := by
  obtain ⟨K, hK⟩ := refwin_f l k
  refine (assessorref43_Winnow.calls K A c l k _ _ w h.C h.1 hK).mono ?_
  rintro e w' ⟨v, rfl, h1, h2⟩
  exact ⟨⟨v, rfl, _, h1⟩, h2⟩
end Go.Proofs.YtpkjiimcoepjpaaDoor

namespace Go.Proofs.YtpkjiimcoepjpaaDoor
set_option linter.unusedVariables false
set_option linter.unusedSimpArgs false
open Go.RowKit Go.Proofs.YtpkjiimcoepjpaaDoorW.PrintWords
open PFingerprintSymbols (S48)

theorem inR_new {w : World} {b : Nat} (l : List Int) (h : w.heap[b]? = some (.cells (l.map (Value.int .i64)).toArray 3 (0, 0))) (hl : l.length ≤ 1000000) : InR w (some ⟨b, 0, none⟩) l.length l := by
  refine ⟨Nat.le_refl _, by omega, fun _ => ⟨b, 0, rfl, fun i hi => ?_⟩⟩
  unfold World.cell?
  rw [h]
  simp [hi]
theorem mkI_new {w : World} {b : Nat} (l : List S48) (h : w.heap[b]? = some (.cells (l.flatMap fun m => [Value.int .i64 m.f0, .int .i64 m.f1]).toArray 48 (0, 0))) (hl : l.length ≤ 1000000) : MkI w (some ⟨b, 0, none⟩) l.length l := by
  refine ⟨Nat.le_refl _, by omega, fun _ => ⟨b, 0, rfl, fun i hi => ?_⟩⟩
  have key : ∀ (l : List S48) (i : Nat) (hi : i < l.length), (l.flatMap fun m => [Value.int .i64 m.f0, .int .i64 m.f1])[i * 2]? = some (.int .i64 l[i].f0) ∧ (l.flatMap fun m => [Value.int .i64 m.f0, .int .i64 m.f1])[i * 2 + 1]? = some (.int .i64 l[i].f1) := by
    intro l
    induction l with
    | nil => intro i hi; simp at hi
    | cons m l ih =>
      intro i hi
      rcases i with _ | i
      · simp
      · have := ih i (by simpa using hi)
        rw [List.flatMap_cons, show (i + 1) * 2 = i * 2 + 2 by omega, show i * 2 + 2 + 1 = i * 2 + 1 + 2 by omega]
        simpa using this
  have hk := key l i hi
  unfold World.cell?
  rw [h]
  simp only [Option.isSome_none, Bool.false_eq_true, if_false, Nat.zero_add]
  exact ⟨by simpa using hk.1, by simpa using hk.2⟩
theorem up_ext {l m : List Int} (hl : l.Pairwise (· < ·)) (hm : m.Pairwise (· < ·)) (h : ∀ x, x ∈ l ↔ x ∈ m) : l = m := by
  have n1 : l.Nodup := hl.imp fun h => by omega
  have n2 : m.Nodup := hm.imp fun h => by omega
  refine List.Perm.eq_of_pairwise (le := fun a b => a < b) (fun a b _ _ h1 h2 => ?_) hl hm ((List.perm_ext_iff_of_nodup n1 n2).2 h)
  omega
/-! ### the examples' values -/
def tA : Nd := .mk 20 ⟨#[97]⟩ 0 0 []
def tM : Nd := .mk 28 ⟨#[45]⟩ 0 0 [tA]
def PK (k : Int) : Prop := k = 20 ∨ k = 28
theorem itB20 : itB 20 = ⟨(Lib.decDigits 20).toArray⟩ := by kernel_rfl
theorem itB28 : itB 28 = ⟨(Lib.decDigits 28).toArray⟩ := by kernel_rfl
theorem itPK (w : World) : ItOk PK w := by
  intro k hk W hW
  rcases hk with rfl | rfl
  · refine (Tryd.strconv_Itoa_small 20 (by omega) W).mono ?_
    rintro e w' ⟨rfl, rfl⟩
    exact ⟨by rw [itB20], Below.refl _ _⟩
  · refine (Tryd.strconv_Itoa_small 28 (by omega) W).mono ?_
    rintro e w' ⟨rfl, rfl⟩
    exact ⟨by rw [itB28], Below.refl _ _⟩
theorem szB20 : (itB 20).size = 2 := by kernel_rfl
theorem szB28 : (itB 28).size = 2 := by kernel_rfl
theorem allA : AllK PK tA := .mk tA (.inl rfl) (by show (itB 20).size + 1 + 1 ≤ _; rw [szB20]; omega) (fun k hk => by simp [tA, Nd.kids] at hk)
theorem allM : AllK PK tM := .mk tM (.inr rfl) (by show (itB 28).size + 1 + 1 ≤ _; rw [szB28]; omega) (fun k hk => by simp [tM, Nd.kids] at hk; subst hk; exact allA)
theorem sizeA : tA.size = 1 := by kernel_rfl
theorem sizeM : tM.size = 2 := by kernel_rfl
theorem lenM : (syms tM).length = 3 := by kernel_rfl
theorem atM : (syms tM)[2]? = some 0 := by kernel_rfl
theorem mkC : marksC tA 1 1 = 0 := by kernel_rfl
theorem mkL : (marksV tA 1 1).length = 1 := by kernel_rfl
theorem wnC : winC [5, 3, 9, 3, 7] 3 = 0 := by kernel_rfl
theorem wnV : winV [5, 3, 9, 3, 7] 3 = [⟨3, 1⟩, ⟨3, 3⟩] := by kernel_rfl
theorem hsC : hashesC [1, 2, 3] 2 = 0 := by kernel_rfl
theorem hsV : hashesV [1, 2, 3] 2 = [1000005, 2000009] := by kernel_rfl
theorem rlC : rollC 1000005 2 = 0 := by kernel_rfl
theorem rlV : rollV 1000005 1 3 2 = 2000009 := by kernel_rfl
theorem h12 : hashS [1, 2] = 1000005 := by kernel_rfl
theorem both3 {L : List Int} (h1 : L.Pairwise (· < ·)) (h2 : ∀ x, x ∈ L ↔ Both [⟨3, 1⟩, ⟨3, 3⟩] [⟨4, 0⟩, ⟨3, 9⟩] x) : L = [3] := by
  refine up_ext h1 (List.pairwise_singleton _ _) fun x => ?_
  rw [h2 x]
  unfold Both
  simp
  omega

theorem newI (l : List Int) (w : World) (hl : l.length ≤ 1000000) : InR (w.alloc (.cells (l.map (Value.int .i64)).toArray 3)) (some ⟨w.heap.size, 0, none⟩) l.length l := inR_new l (heap_alloc_new _ _) hl
theorem newM (l : List S48) (w : World) (hl : l.length ≤ 1000000) : MkI (w.alloc (.cells (l.flatMap fun m => [Value.int .i64 m.f0, .int .i64 m.f1]).toArray 48)) (some ⟨w.heap.size, 0, none⟩) l.length l := mkI_new l (heap_alloc_new _ _) hl
theorem rnA (w : World) : RN w tA none 0 := .nil _ _ _ rfl
theorem rnM (w : World) : RN (w.alloc (.cells #[.int .i64 20, .string ⟨#[97]⟩, .int .i64 0, .int .i64 0, .slice none 0 0] 24)) tM (some ⟨w.heap.size, 0, none⟩) 1 := by
  have h := heap_alloc_new w (.cells #[.int .i64 20, .string ⟨#[97]⟩, .int .i64 0, .int .i64 0, .slice none 0 0] 24)
  refine .mk tM w.heap.size 0 1 (fun _ => none) (fun _ => 0) (Nat.le_refl _) (by show 1 ≤ _; omega) (fun i hi => ?_) (fun i hi => ?_)
  · obtain rfl : i = 0 := by have : tM.kids.length = 1 := rfl; omega
    exact At5.of (t := tA) h
  · obtain rfl : i = 0 := by have : tM.kids.length = 1 := rfl; omega
    exact rnA _
theorem allocB (w : World) (o : Obj) : Below w.heap.size w (w.alloc o) := (Below.refl _ _).alloc (Nat.le_refl _) _

set_option maxRecDepth 100000 in
set_option maxHeartbeats 4000000 in
theorem awake (w : World) : Calls Tryd.prog 10 #[] w fun e w' => e = .returned (.bool true) ∧ Below w.heap.size w w' := by
  go_enter Tryd.func10, Tryd.ntmps10
  go_wp2_with fail
  have c1 := WinnowW [5, 3, 9, 3, 7] _ 5 3 _ (newI [5, 3, 9, 3, 7] w (by simp))
  rw [wnC, wnV] at c1
  refine c1.mono ?_
  rintro e w2 ⟨⟨v, rfl, hm⟩, hb⟩
  obtain ⟨A1, q1, rfl, hI1⟩ := hm.mkI
  have H2 := Lib.hid ((allocB w _).trans (hb.mono (allocB w _).size))
  have I1 := Lib.hid hI1
  clear c1 hm hI1 hb
  go_wp2_with fail
  have c2 := HashesW [1, 2, 3] _ 3 2 _ (newI [1, 2, 3] w2 (by simp))
  rw [hsC, hsV] at c2
  refine c2.mono ?_
  rintro e w3 ⟨⟨v, rfl, ho⟩, hb⟩
  obtain ⟨A2, q2, rfl, hI2⟩ := ho.inR
  have B3 := (allocB w2 _).trans (hb.mono (allocB w2 _).size)
  have H3 := Lib.hid (H2.out.trans (B3.mono H2.out.size))
  have I1 := Lib.hid (I1.out.below B3)
  have I2 := Lib.hid hI2
  clear c2 ho hI2 hb B3
  go_wp2_with fail
  have c3 := RollW 1000005 1 3 2 w3
  rw [rlC, rlV] at c3
  refine c3.mono ?_
  rintro e w4 ⟨rfl, hb⟩
  have H4 := Lib.hid (H3.out.trans (hb.mono H3.out.size))
  have I1 := Lib.hid (I1.out.below hb)
  have I2 := Lib.hid (I2.out.below hb)
  clear c3 hb
  go_wp2_with fail
  have c4 := SymbolsW PK _ (itPK _) 2 tM _ 1 _ (by rw [sizeM]; omega) (by rw [sizeM]; omega) allM (rnM w4) (Below.refl _ _)
  rw [lenM] at c4
  refine c4.mono ?_
  rintro e w5 ⟨⟨g5, q5, rfl, ho⟩, hb⟩
  have B5 := (allocB w4 _).trans (hb.mono (allocB w4 _).size)
  have H5 := Lib.hid (H4.out.trans (B5.mono H4.out.size))
  have I1 := Lib.hid (I1.out.below B5)
  have I2 := Lib.hid (I2.out.below B5)
  have x5 : w5.cell? ⟨g5, 2, none⟩ = some (.int .i64 0) := by
    unfold OwR at ho
    rw [lenM] at ho
    rw [ho.cellAt 2 (by omega)]
    unfold ints
    rw [List.getElem?_map, atM]; rfl
  have X5 := Lib.hid x5
  clear c4 ho hb B5 x5
  go_wp2_with fail
  have c6 := MarksW PK tA none 0 1 1 w5 (itPK _) (by rw [sizeA]; omega) allA (rnA _)
  rw [mkC] at c6
  refine c6.mono ?_
  rintro e w6 ⟨⟨v, rfl, hm⟩, hb⟩
  obtain ⟨A6, q6, rfl, hI6⟩ := hm.mkI
  have H6 := Lib.hid (H5.out.trans (hb.mono H5.out.size))
  have I1 := Lib.hid (I1.out.below hb)
  have I2 := Lib.hid (I2.out.below hb)
  have X6 := Lib.hid ((hb.cell (p := ⟨g5, 2, none⟩) (World.block_lt_of_cell? w5 _ X5.out)).trans X5.out)
  rw [mkL]
  clear c6 hm hI6 hb X5
  go_wp2_with fail
  have c7 := SameM [⟨3, 1⟩, ⟨3, 3⟩] [⟨3, 1⟩, ⟨3, 3⟩] A1 _ q1 2 _ (I1.out.below (allocB w6 _)) (newM [⟨3, 1⟩, ⟨3, 3⟩] w6 (by simp)) (by simp)
  refine c7.mono ?_
  rintro e w7 ⟨⟨r, rfl, hr⟩, hb⟩
  obtain rfl : r = true := hr.2 rfl
  have B7 := (allocB w6 _).trans (hb.below.mono (allocB w6 _).size)
  have H7 := Lib.hid (H6.out.trans (B7.mono H6.out.size))
  have I1 := Lib.hid (I1.out.below B7)
  have I2 := Lib.hid (I2.out.below B7)
  have X7 := Lib.hid ((B7.cell (p := ⟨g5, 2, none⟩) (World.block_lt_of_cell? w6 _ X6.out)).trans X6.out)
  clear c7 hr hb B7 X6
  go_wp2_with fail
  have c8 := SameI [1000005, 2000009] [1000005, 2000009] A2 _ q2 2 _ (I2.out.below (allocB w7 _)) (newI [1000005, 2000009] w7 (by simp)) (by simp)
  refine c8.mono ?_
  rintro e w8 ⟨⟨r, rfl, hr⟩, hb⟩
  obtain rfl : r = true := hr.2 rfl
  have B8 := (allocB w7 _).trans (hb.below.mono (allocB w7 _).size)
  have H8 := Lib.hid (H7.out.trans (B8.mono H7.out.size))
  have I1 := Lib.hid (I1.out.below B8)
  have X8 := Lib.hid ((B8.cell (p := ⟨g5, 2, none⟩) (World.block_lt_of_cell? w7 _ X7.out)).trans X7.out)
  clear c8 hr hb B8 X7 I2
  go_wp2_with fail
  have c9 := hashW [1, 2] (by simp) _ 2 _ (newI [1, 2] w8 (by simp))
  rw [h12] at c9
  refine c9.mono ?_
  rintro e w9 ⟨rfl, hb⟩
  have B9 := (allocB w8 _).trans (hb.below.mono (allocB w8 _).size)
  have H9 := Lib.hid (H8.out.trans (B9.mono H8.out.size))
  have I1 := Lib.hid (I1.out.below B9)
  have x9 := (B9.cell (p := ⟨g5, 2, none⟩) (World.block_lt_of_cell? w8 _ X8.out)).trans X8.out
  clear c9 hb B9 X8
  go_wp2_with fail
  have c10 := SharedW [⟨3, 1⟩, ⟨3, 3⟩] [⟨4, 0⟩, ⟨3, 9⟩] A1 _ q1 2 _ (I1.out.below (allocB w9 _)) (newM [⟨4, 0⟩, ⟨3, 9⟩] w9 (by simp)) (by simp) (by simp) (by intro m hm; simp at hm; rcases hm with rfl | rfl <;> exact WalkArith.wf_i64 (by simp)) (by intro m hm; simp at hm; rcases hm with rfl | rfl <;> exact WalkArith.wf_i64 (by simp))
  refine c10.mono ?_
  rintro e w10 ⟨⟨v, L, rfl, ho, hs, hL⟩, hb⟩
  obtain rfl : L = [3] := both3 hs hL
  obtain ⟨A3, q3, rfl, hI3⟩ := ho.inR
  have B10 := (allocB w9 _).trans (hb.mono (allocB w9 _).size)
  have H10 := Lib.hid (H9.out.trans (B10.mono H9.out.size))
  have I3 := Lib.hid hI3
  clear c10 hb B10 ho hs hL hI3 x9
  go_wp2_with fail
  have c11 := SameI [3] [3] A3 _ q3 1 _ (I3.out.below (allocB w10 _)) (newI [3] w10 (by simp)) (by simp)
  refine c11.mono ?_
  rintro e w11 ⟨⟨r, rfl, hr⟩, hb⟩
  obtain rfl : r = true := hr.2 rfl
  have B11 := (allocB w10 _).trans (hb.below.mono (allocB w10 _).size)
  have H11 := Lib.hid (H10.out.trans (B11.mono H10.out.size))
  clear c11 hb B11 hr
  go_wp2_with fail
  go_ret
  exact ⟨rfl, H11.out⟩
end Go.Proofs.YtpkjiimcoepjpaaDoor

namespace Go.Proofs.YtpkjiimcoepjpaaDoor
set_option linter.unusedVariables false
set_option linter.unusedSimpArgs false
open Go.RowKit Go.Proofs.YtpkjiimcoepjpaaDoorW.PrintWords Go.Proofs.YtpkjiimcoepjpaaDoorW.PrintMore
open PFingerprintSymbols (assessorref43_Hashes.f assessorref43_Hashes.j0 assessorref43_Hashes.l0 assessorref43_Hashes.calls assessorref43_Roll.f assessorref43_Roll.j0 assessorref43_Roll.l0 assessorref43_Roll.calls assessorref43_Hash.f assessorref43_reduce.f)

theorem refhashes_ev (l : List Int) (K : Nat) (hK : 1 ≤ K) (hn : l.length ≤ 1000000) (hK2 : K ≤ 64) (m : Nat) : ∀ i, l.length + 1 - K - i = m → i ≤ l.length + 1 - K →
    Ev (fun k => assessorref43_Hashes.l0 k l ((K : Nat) : Int) ((runs l K).take i) ((i : Nat) : Int)) (runs l K, 0) := by
  induction m with
  | zero =>
    intro i hm hi
    obtain rfl : i = l.length + 1 - K := by omega
    rw [List.take_of_length_le (by rw [runs_len]; omega)]
    refine Ev.step (f := fun _ => some (runs l K, (0 : Int))) (fun k => ?_) (Ev.now _)
    simp only [assessorref43_Hashes.l0]
    rw [w64in _ (by omega), if_neg (by omega)]
  | succ m ih =>
    intro i hm hi
    have hl : ((runs l K).take i).length ≤ 1000000 := by rw [List.length_take]; omega
    have hx : (l.take (i + K)).drop i = (l.drop i).take K := by rw [List.drop_take, Nat.add_sub_cancel_left]
    refine Ev.step (fun k => ?_) (Ev.bind (refhash_f ((l.drop i).take K) (by rw [List.length_take]; omega)) (f := fun k (t : Int) => if ((runs l K).take i).length < 17592186044416 then (assessorref43_Hashes.l0 k l ((K : Nat) : Int) ((runs l K).take i ++ [t]) ((i + 1 : Nat) : Int)) else none) ?_)
    · simp only [assessorref43_Hashes.l0]
      rw [w64in ((i : Int) + (K : Int)) (by omega), if_pos (by omega), if_pos (by omega), if_pos (by omega), w64in ((i : Int) + 1) (by omega), Int.toNat_natCast, show ((i : Int) + (K : Int)).toNat = i + K by omega, hx]
      rfl
    · refine Ev.congr (fun k => ?_) (ih (i + 1) (by omega) (by omega))
      rw [if_pos (by omega), List.take_succ_eq_append_getElem (by rw [runs_len]; omega), runs_get]
theorem refhashes_f (l : List Int) (k : Int) : ∃ n, assessorref43_Hashes.f n l k = some (hashesV l k, hashesC l k) := by
  have H : Ev (fun n => assessorref43_Hashes.f n l k) (hashesV l k, hashesC l k) := by
    unfold assessorref43_Hashes.f hashesV hashesC
    by_cases hk : 1 ≤ k ∧ k ≤ 64
    · rw [if_pos hk]
      have hd : decide (k > 64) = false := decide_eq_false (by omega)
      by_cases hn : l.length ≤ 2048
      · rw [if_pos ⟨hk.1, hk.2, hn⟩, if_neg (by omega)]
        obtain ⟨K, rfl⟩ : ∃ K : Nat, k = ((K : Nat) : Int) := ⟨k.toNat, by omega⟩
        rw [Int.toNat_natCast]
        refine Ev.step (fun n => ?_) (refhashes_ev l K (by omega) (by omega) (by omega) _ 0 rfl (Nat.zero_le _))
        rw [if_neg (by omega), hd]
        simp only [assessorref43_Hashes.j0]
        rw [if_neg (by simp), if_neg (by omega)]
        rfl
      · rw [if_neg (by omega), if_pos (by omega)]
        refine Ev.step (f := fun _ => some ([], (8 : Int))) (fun n => ?_) (Ev.now _)
        rw [if_neg (by omega), hd]
        simp only [assessorref43_Hashes.j0]
        rw [if_neg (by simp), if_pos (by omega)]
    · rw [if_neg (by omega), if_neg hk]
      refine Ev.step (f := fun _ => some ([], (2 : Int))) (fun n => ?_) (Ev.now _)
      by_cases h1 : k < 1
      · rw [if_pos h1]
        simp only [assessorref43_Hashes.j0]
        rw [if_pos trivial]
      · rw [if_neg h1, decide_eq_true (by omega)]
        simp only [assessorref43_Hashes.j0]
        rw [if_pos trivial]
  exact H.rounds
theorem refroll_ev (h f n : Int) (K : Nat) (hK : 1 ≤ K) (hK2 : K ≤ 64) (h0 : 0 ≤ h) (h1 : h < 2147483647) (m : Nat) : ∀ i : Nat, K - (i + 1) = m → i + 1 ≤ K →
    Ev (fun k => assessorref43_Roll.l0 k h f n ((K : Nat) : Int) (pwS i) ((i + 1 : Nat) : Int)) (rollS (pwS (K - 1)) h f n, 0) := by
  induction m with
  | zero =>
    intro i hm hi
    obtain rfl : i = K - 1 := by omega
    have hp := pwS_bd (K - 1)
    refine Ev.step (f := fun _ => some (rollS (pwS (K - 1)) h f n, (0 : Int))) (fun k => ?_) (Ev.now _)
    simp only [assessorref43_Roll.l0]
    rw [if_neg (by omega)]
    simp only [reduce_f, Option.bind_some]
    rw [← go_roll (pwS (K - 1)) h f n hp.1 hp.2 h0 h1]
    simp only [IntWalk.i64_left]
  | succ m ih =>
    intro i hm hi
    refine Ev.step (fun k => ?_) (ih (i + 1) (by omega) (by omega))
    simp only [assessorref43_Roll.l0]
    rw [if_pos (by omega), go_pw, w64in _ (by omega)]
    rfl
theorem refroll_f (h f n k : Int) : ∃ m, assessorref43_Roll.f m h f n k = some (rollV h f n k, rollC h k) := by
  have H : Ev (fun m => assessorref43_Roll.f m h f n k) (rollV h f n k, rollC h k) := by
    unfold assessorref43_Roll.f rollV rollC
    have bad : ∀ b : Bool, b = true → Ev (fun m => assessorref43_Roll.j0 m h f n k b) ((0 : Int), (2 : Int)) := by
      intro b hb
      refine Ev.step (f := fun _ => some ((0 : Int), (2 : Int))) (fun m => ?_) (Ev.now _)
      simp only [assessorref43_Roll.j0]
      rw [if_pos hb]
    by_cases h1 : k < 1
    · rw [if_neg (by omega), if_neg (by omega)]
      refine Ev.congr (fun m => ?_) (bad true rfl)
      rw [if_pos h1]
    by_cases h2 : k > 64
    · rw [if_neg (by omega), if_neg (by omega)]
      refine Ev.congr (fun m => ?_) (bad true rfl)
      rw [if_neg h1, if_pos h2]
    by_cases h3 : h < 0
    · rw [if_neg (by omega), if_neg (by omega)]
      refine Ev.congr (fun m => ?_) (bad true rfl)
      rw [if_neg h1, if_neg h2, if_pos h3]
    by_cases h4 : h ≥ 2147483647
    · rw [if_neg (by omega), if_neg (by omega)]
      refine Ev.congr (fun m => ?_) (bad (decide (h ≥ 2147483647)) (decide_eq_true h4))
      rw [if_neg h1, if_neg h2, if_neg h3]
    rw [if_pos (by omega), if_pos (by omega)]
    obtain ⟨K, rfl⟩ : ∃ K : Nat, k = ((K : Nat) : Int) := ⟨k.toNat, by omega⟩
    rw [Int.toNat_natCast]
    refine Ev.step (fun m => ?_) (refroll_ev h f n K (by omega) (by omega) (by omega) (by omega) _ 0 rfl (by omega))
    rw [if_neg h1, if_neg h2, if_neg h3, decide_eq_false h4]
    simp only [assessorref43_Roll.j0]
    rw [if_neg (by simp)]
    rfl
  exact H.rounds
theorem rowI_of {w : World} {base : Nat} {v : Value} {l : List Int} (h : Kd.R (Kd.int .i64) 3 w base (fun _ => True) v l) : ∃ A c, v = .slice A l.length c ∧ InR w A c l := by
  obtain ⟨_, inner, ho, hr⟩ := h
  rcases ho.2 with ⟨hv, h0⟩ | ⟨g, cap, cur, hv, hb, hg, hnc, hcm, hcs, htake⟩
  · have : l = [] := List.eq_nil_of_length_eq_zero h0
    subst this
    exact ⟨none, 0, hv, Nat.le_refl _, by simp, fun h => by simp at h⟩
  · subst hv
    refine ⟨_, cap, rfl, hnc, by unfold maxLen at hcm; omega, fun hp => ⟨g, 0, rfl, fun i hi => ?_⟩⟩
    have h1 := hr.2 i l[i] (List.getElem?_eq_getElem hi)
    have hc0 := ho.cellAt (i * 1) (by show i * 1 < l.length * 1; omega)
    have h2 : (inner.drop (i * 1)).take 1 = [.int .i64 l[i]] := h1
    have e0 : inner[i * 1]? = some (.int .i64 l[i]) := by
      have := congrArg (fun x : List Value => x[0]?) h2
      simpa [List.getElem?_take, List.getElem?_drop] using this
    rw [Nat.zero_add]
    rw [Nat.mul_one] at hc0 e0
    exact hc0.trans e0
theorem RefHashesW (l : List Int) (A : Option Addr) (c : Nat) (k : Int) (w : World) (h : InR w A c l) :
    Calls Tryd.prog 21 #[.slice A l.length c, .int .i64 k] w fun e w' => (∃ A' c', e = .returned (.tuple #[.slice A' (hashesV l k).length c', .int .i64 (hashesC l k)]) ∧ InR w' A' c' (hashesV l k)) ∧ Below w.heap.size w w' := by
  obtain ⟨K, hK⟩ := refhashes_f l k
  refine (assessorref43_Hashes.calls K A c l k _ _ w h.C h.1 hK).mono ?_
  rintro e w' ⟨v, rfl, h1, h2⟩
  obtain ⟨A', c', rfl, hi⟩ := rowI_of h1
  exact ⟨⟨A', c', rfl, hi⟩, h2⟩
theorem RefRollW (h f n k : Int) (w : World) :
    Calls Tryd.prog 23 #[.int .i64 h, .int .i64 f, .int .i64 n, .int .i64 k] w fun e w' => e = .returned (.tuple #[.int .i64 (rollV h f n k), .int .i64 (rollC h k)]) ∧ Below w.heap.size w w' := by
  obtain ⟨K, hK⟩ := refroll_f h f n k
  refine (assessorref43_Roll.calls K h f n k _ _ w hK).mono ?_
  rintro e w' ⟨rfl, h⟩
  exact ⟨rfl, h.below⟩

/-! ### the law FingerprintHashes -/
theorem HashesW' (l : List Int) (A : Option Addr) (c : Nat) (k : Int) (w : World) (h : InR w A c l) :
    Calls Tryd.prog 20 #[.slice A l.length c, .int .i64 k] w fun e w' => (∃ A' c', e = .returned (.tuple #[.slice A' (hashesV l k).length c', .int .i64 (hashesC l k)]) ∧ InR w' A' c' (hashesV l k)) ∧ Below w.heap.size w w' := by
  refine (HashesW l A c k w h).mono ?_
  rintro e w' ⟨⟨v, rfl, ho⟩, hb⟩
  obtain ⟨A', c', rfl, hi⟩ := ho.inR
  exact ⟨⟨A', c', rfl, hi⟩, hb⟩
theorem hashesV_len (l : List Int) (k : Int) : (hashesV l k).length ≤ 3000 := by
  unfold hashesV
  split
  · rw [runs_len]; omega
  · simp
set_option maxRecDepth 100000 in
set_option maxHeartbeats 4000000 in
theorem lawHashes (l : List Int) (A : Option Addr) (c : Nat) (h f n k : Int) (w : World) (hI : InR w A c l) :
    Calls Tryd.prog 4 #[.slice A l.length c, .int .i64 h, .int .i64 f, .int .i64 n, .int .i64 k] w fun e w' => e = .returned (.bool true) ∧ Below w.heap.size w w' := by
  have HI := Lib.hid hI
  have hlen := hI.2.1
  clear hI
  by_cases hg : 100 < l.length ∧ l.length ≤ 2048
  · obtain ⟨g1, g2⟩ := hg
    have d1 : decide ((l.length : Int) > 100) = true := decide_eq_true (by omega)
    have d2 : decide ((l.length : Int) ≤ 2048) = true := decide_eq_true (by omega)
    go_enter Tryd.func4, Tryd.ntmps4
    go_wp2_with fail
    refine (awake w).mono ?_
    rintro e w1 ⟨rfl, h1⟩
    have H1 := Lib.hid h1
    clear h1
    go_wp2_with fail
    go_ret
    exact ⟨rfl, H1.out⟩
  · have hg' : l.length ≤ 100 ∨ 2048 < l.length := by omega
    obtain ⟨vl, hvl⟩ : ∃ x, hashesV l k = x := ⟨_, rfl⟩
    obtain ⟨vc, hvc⟩ : ∃ x, hashesC l k = x := ⟨_, rfl⟩
    obtain ⟨rv, hrv⟩ : ∃ x, rollV h f n k = x := ⟨_, rfl⟩
    obtain ⟨rc, hrc⟩ : ∃ x, rollC h k = x := ⟨_, rfl⟩
    have hvl3 : vl.length ≤ 3000 := by rw [← hvl]; exact hashesV_len l k
    have HA := Lib.hid (fun W (hI : InR W A c l) => HashesW' l A c k W hI)
    have HB := Lib.hid (fun W (hI : InR W A c l) => RefHashesW l A c k W hI)
    have HC := Lib.hid (fun W => RollW h f n k W)
    have HD := Lib.hid (fun W => RefRollW h f n k W)
    rw [hvl, hvc] at HA HB
    rw [hrv, hrc] at HC HD
    clear hvl hvc hrv hrc
    rcases hg' with g | g
    all_goals
      first
        | have d1 : decide ((l.length : Int) > 100) = false := decide_eq_false (by omega)
        | (have d1 : decide ((l.length : Int) > 100) = true := decide_eq_true (by omega)
           have d2 : decide ((l.length : Int) ≤ 2048) = false := decide_eq_false (by omega))
      go_enter Tryd.func4, Tryd.ntmps4
      go_wp2_with fail
      refine (awake w).mono ?_
      rintro e w1 ⟨rfl, h1⟩
      have H1 := Lib.hid h1
      clear h1
      go_wp2_with fail
      refine (HA.out w1 (HI.out.below H1.out)).mono ?_
      rintro e w2 ⟨⟨A2, c2, rfl, i2⟩, h2⟩
      have H2 := Lib.hid (H1.out.trans (h2.mono H1.out.size))
      have I2 := Lib.hid i2
      clear h2 i2
      go_wp2_with fail
      refine (HB.out w2 (HI.out.below H2.out)).mono ?_
      rintro e w3 ⟨⟨A3, c3, rfl, i3⟩, h3⟩
      have H3 := Lib.hid (H2.out.trans (h3.mono H2.out.size))
      have I2 := Lib.hid (I2.out.below h3)
      have I3 := Lib.hid i3
      clear h3 i3
      go_wp2_with fail
      refine (HC.out w3).mono ?_
      rintro e w4 ⟨rfl, h4⟩
      have H4 := Lib.hid (H3.out.trans (h4.mono H3.out.size))
      have I2 := Lib.hid (I2.out.below h4)
      have I3 := Lib.hid (I3.out.below h4)
      clear h4
      go_wp2_with fail
      refine (HD.out w4).mono ?_
      rintro e w5 ⟨rfl, h5⟩
      have H5 := Lib.hid (H4.out.trans (h5.mono H4.out.size))
      have I2 := Lib.hid (I2.out.below h5)
      have I3 := Lib.hid (I3.out.below h5)
      clear h5
      go_wp2_with fail
      refine (SameI vl vl A2 A3 c2 c3 w5 I2.out I3.out (by omega)).mono ?_
      rintro e w6 ⟨⟨r, rfl, hr⟩, h6⟩
      obtain rfl : r = true := hr.2 rfl
      have H6 := Lib.hid (H5.out.trans (h6.below.mono H5.out.size))
      clear h6 hr
      go_wp2_with fail
      go_ret
      exact ⟨rfl, H6.out⟩
end Go.Proofs.YtpkjiimcoepjpaaDoor

namespace Go.Proofs.YtpkjiimcoepjpaaDoor
set_option linter.unusedVariables false
set_option linter.unusedSimpArgs false
open Go.ChangeShapes Go.WideShapes Go.ChangeAt Go.RowKit
open PFingerprintSymbols (S48)

def asN (l : List Nd) : Nd := .mk 0 ByteArray.empty 0 0 l
inductive OkN : Nd → Prop where
  | mk (t : Nd) (hk : (Lit.int .i64 t.kind).wf = true) (ht : t.text.size ≤ maxLen) (hs : ∀ k ∈ t.kids, OkN k) : OkN t

theorem cellsOf24 : Tryd.prog.cellsOf 24 = 5 := by kernel_rfl
theorem cellsOf3 : Tryd.prog.cellsOf 3 = 1 := by kernel_rfl
theorem cellsOf9 : Tryd.prog.cellsOf 9 = 1 := by kernel_rfl
theorem cellsOf22 : Tryd.prog.cellsOf 22 = 1 := by kernel_rfl

section
variable {H : Type} {enc : TypeId × Value → H} {w : World} {base : Nat} {sp : Nat → Bool} {hd : Bool}

/-- The nodes of a slice, by what each of them is. -/
theorem open_nodes_of {fuel : Nat} (ih : ∀ m, m < fuel → ∀ (cs : List Value) (x : DataW H × List MemPlace), DataW.trod enc Tryd.prog w base sp hd m 24 cs = some x → ∃ (t : Nd) (A : Option Addr) (c : Nat), cs = cells5 t A c ∧ RN w t A c ∧ OkN t)
    {cs : List Value} {x : DataW H × List MemPlace} (h : DataW.trod enc Tryd.prog w base sp hd fuel 22 cs = some x) :
    ∃ (l : List Nd) (A : Option Addr) (c : Nat), cs = [.slice A l.length c] ∧ RN w (asN l) A c ∧ (∀ t ∈ l, OkN t) ∧ l.length ≤ c := by
  rcases DataW.trod_slice Tryd.underlying22 h with ⟨h4, _⟩ | ⟨a, len, cap, elems, rest, n, hn, h4, _, hb, hle, hm, hlen, hel, _, _⟩
  · exact ⟨[], none, 0, h4, .nil _ _ _ rfl, fun t ht => absurd ht (by simp), Nat.le_refl _⟩
  · have each : ∀ i, ∃ p : Nd × Option Addr × Nat, i < len → (∀ j, j < 5 → w.cell? (a.add (i * 5 + j)) = (cells5 p.1 p.2.1 p.2.2)[j]?) ∧ RN w p.1 p.2.1 p.2.2 ∧ OkN p.1 := by
      intro i
      by_cases hi : i < len
      · have g := hel i hi
        rw [List.getElem?_eq_getElem (by omega), cellsOf24] at g
        obtain ⟨cs', h1, h2⟩ := Option.bind_eq_some_iff.1 g
        obtain ⟨_, _, hc⟩ := World.cells?_some h1
        obtain ⟨t, A, c, e, hr, ho⟩ := ih n (by omega) _ _ h2
        refine ⟨(t, A, c), fun _ => ⟨fun j hj => ?_, hr, ho⟩⟩
        have := hc j hj
        rw [e] at this
        rw [← this]
        congr 1
        obtain ⟨ab, ao, asp⟩ := a
        cases asp with
        | none => rw [add_plain, add_plain, add_plain, Nat.add_assoc]
        | some s => unfold Addr.add; split <;> split <;> split <;> simp_all <;> omega
      · exact ⟨(.mk 0 ByteArray.empty 0 0 [], none, 0), fun h => absurd h hi⟩
    obtain ⟨f, hf⟩ := Classical.axiomOfChoice each
    obtain ⟨l, hl⟩ : ∃ l : List Nd, l = (List.range len).map fun i => (f i).1 := ⟨_, rfl⟩
    have hll : l.length = len := by rw [hl]; simp
    have hget : ∀ i (h : i < l.length), l[i] = (f i).1 := fun i h => by subst hl; simp
    refine ⟨l, some a, cap, by rw [hll]; exact h4, ?_, ?_, by omega⟩
    · by_cases h0 : l = []
      · exact .nil _ _ _ h0
      · have hpos : 0 < len := by rw [← hll]; exact List.length_pos_iff.2 h0
        have hsp : a.spot = none := by
          have := (hf 0 hpos).1 0 (by omega)
          have := World.cell?_spot this
          simpa [Addr.add] using this
        obtain ⟨b, o, spot⟩ := a
        obtain rfl : spot = none := hsp
        refine .mk (asN l) b o cap (fun i => (f i).2.1) (fun i => (f i).2.2) (by show l.length ≤ cap; omega) (by show l.length ≤ _; unfold maxLen at hm; omega) (fun i hi => ?_) (fun i hi => ?_)
        · have hi' : i < len := by rw [← hll]; exact hi
          have hc := (hf i hi').1
          have e : (asN l).kids[i] = (f i).1 := hget i hi
          rw [e]
          have e5 : ∀ j, (⟨b, o, none⟩ : Addr).add (i * 5 + j) = ⟨b, o + i * 5 + j, none⟩ := fun j => by rw [add_plain, Nat.add_assoc]
          refine ⟨?_, ?_, ?_, ?_, ?_⟩
          · have := hc 0 (by omega); rw [e5] at this; exact this
          · have := hc 1 (by omega); rw [e5] at this; exact this
          · have := hc 2 (by omega); rw [e5] at this; exact this
          · have := hc 3 (by omega); rw [e5] at this; exact this
          · have := hc 4 (by omega); rw [e5] at this; exact this
        · have hi' : i < len := by rw [← hll]; exact hi
          have e : (asN l).kids[i] = (f i).1 := hget i hi
          rw [e]
          exact (hf i hi').2.1
    · intro t ht
      obtain ⟨i, hi, rfl⟩ := List.mem_iff_getElem.1 ht
      rw [hget i hi]
      exact (hf i (by omega)).2.2

set_option maxRecDepth 100000 in
theorem open_node (fuel : Nat) : ∀ (cs : List Value) (x : DataW H × List MemPlace), DataW.trod enc Tryd.prog w base sp hd fuel 24 cs = some x → ∃ (t : Nd) (A : Option Addr) (c : Nat), cs = cells5 t A c ∧ RN w t A c ∧ OkN t := by
  induction fuel using Nat.strongRecOn with
  | _ fuel ih =>
    intro cs x h
    obtain ⟨xs, m, rfl, rfl, hl, hlen, hf⟩ := DataW.trod_struct Tryd.underlying24 h
    rw [cellsOf24] at hl
    match xs, hlen, cs, hl with
    | [y0, y1, y2, y3, y4], _, [v0, v1, v2, v3, v4], _ =>
      have g0 := hf 0 _ rfl
      have g1 := hf 1 _ rfl
      have g2 := hf 2 _ rfl
      have g3 := hf 3 _ rfl
      have g4 := hf 4 _ rfl
      simp [cellsOf3, cellsOf9, cellsOf22] at g0 g1 g2 g3 g4
      obtain ⟨k, e0, _, wk⟩ := DataW.trod_int Tryd.underlying3 g0
      obtain ⟨s, e1, _, ws⟩ := DataW.trod_string Tryd.underlying9 g1
      obtain ⟨p, e2, _, _⟩ := DataW.trod_int Tryd.underlying3 g2
      obtain ⟨q, e3, _, _⟩ := DataW.trod_int Tryd.underlying3 g3
      obtain ⟨l, A, c, e4, hr, ho, hc⟩ := open_nodes_of (fun m' hm' => ih m' (by omega)) g4
      simp at e0 e1 e2 e3 e4
      subst e0 e1 e2 e3 e4
      refine ⟨.mk k s p q l, A, c, rfl, ?_, .mk _ wk ws ho⟩
      rcases hr with ⟨_, b, o, _, As, cs, hc, hm, hcell, hsub⟩ | ⟨_, _, _, h⟩
      · exact .mk _ _ _ _ As cs hc hm hcell hsub
      · exact .nil _ _ _ h
theorem open_nodes {fuel : Nat} {cs : List Value} {x : DataW H × List MemPlace} (h : DataW.trod enc Tryd.prog w base sp hd fuel 22 cs = some x) :
    ∃ (l : List Nd) (A : Option Addr) (c : Nat), cs = [.slice A l.length c] ∧ RN w (asN l) A c ∧ (∀ t ∈ l, OkN t) ∧ l.length ≤ c := open_nodes_of (fun m _ => open_node m) h

set_option maxRecDepth 100000 in
/-- A node among the arguments. -/
theorem arg_node {r : Reach} {b0 : Nat} {v : Value} {d : DataW H} {ps : List MemPlace} (hval : Value.okWide Tryd.prog w r b0 24 v) (h : DataW.Trod enc Tryd.prog w base sp hd 24 v d ps) :
    ∃ (t : Nd) (A : Option Addr) (c : Nat), v = t.val A c ∧ RN w t A c ∧ OkN t := by
  obtain ⟨cs, rfl, _⟩ := okWide_struct Tryd.underlying24 hval
  obtain ⟨fuel, hf⟩ := h
  obtain ⟨t, A, c, e, hr, ho⟩ := open_node fuel _ _ hf
  refine ⟨t, A, c, ?_, hr, ho⟩
  have : cs = (cells5 t A c).toArray := by
    have e' : cs.toList = cells5 t A c := by simpa [Value.cells] using e
    rw [← e']
  rw [this]
  rfl
set_option maxRecDepth 100000 in
theorem arg_nodes {r : Reach} {b0 : Nat} {v : Value} {d : DataW H} {ps : List MemPlace} (hval : Value.okWide Tryd.prog w r b0 22 v) (h : DataW.Trod enc Tryd.prog w base sp hd 22 v d ps) :
    ∃ (l : List Nd) (A : Option Addr) (c : Nat), v = .slice A l.length c ∧ RN w (asN l) A c ∧ (∀ t ∈ l, OkN t) ∧ l.length ≤ c := by
  obtain ⟨a, len, cap, rfl⟩ := okWide_slice Tryd.underlying22 hval
  obtain ⟨fuel, hf⟩ := h
  obtain ⟨l, A, c, e, hr, ho, hc⟩ := open_nodes hf
  simp [Value.cells] at e
  obtain ⟨rfl, rfl, rfl⟩ := e
  exact ⟨l, _, _, rfl, hr, ho, hc⟩

set_option maxRecDepth 100000 in
/-- A row of numbers among the arguments. -/
theorem arg_ints {r : Reach} {b0 : Nat} {v : Value} {d : DataW H} {ps : List MemPlace} (hval : Value.okWide Tryd.prog w r b0 25 v) (h : DataW.Trod enc Tryd.prog w base sp hd 25 v d ps) :
    ∃ (l : List Int) (A : Option Addr) (c : Nat), v = .slice A l.length c ∧ InR w A c l ∧ (∀ x ∈ l, (Lit.int .i64 x).wf = true) := by
  obtain ⟨a, len, cap, rfl⟩ := okWide_slice Tryd.underlying25 hval
  obtain ⟨fuel, hf⟩ := h
  rcases open_ints Tryd.underlying25 Tryd.underlying3 cellsOf3 hf with ⟨h1, _⟩ | ⟨a', len', cap', zs, h1, _, hle, hm, hz, _, hcell, hwf⟩
  · simp [Value.cells] at h1
    obtain ⟨rfl, rfl, rfl⟩ := h1
    exact ⟨[], none, 0, rfl, ⟨Nat.le_refl _, by simp, fun h => by simp at h⟩, fun x hx => by simp at hx⟩
  · simp [Value.cells] at h1
    obtain ⟨rfl, rfl, rfl⟩ := h1
    have hlz : len ≤ zs.length := by rw [hz]; split <;> omega
    have hlen : (zs.take len).length = len := by rw [List.length_take]; omega
    refine ⟨zs.take len, some a', cap, by rw [hlen], ⟨by omega, by unfold maxLen at hm; omega, fun hp => ?_⟩, fun x hx => hwf x (List.mem_of_mem_take hx)⟩
    have hsp : a'.spot = none := by
      have := World.cell?_spot (hcell 0 (by omega))
      simpa [Addr.add] using this
    obtain ⟨b, o, spot⟩ := a'
    obtain rfl : spot = none := hsp
    refine ⟨b, o, rfl, fun i hi => ?_⟩
    have := hcell i (by omega)
    rw [add_plain] at this
    rw [this, List.getElem_take, List.getD, List.getElem?_eq_getElem (by omega)]
    rfl
theorem cellsOf48 : Tryd.prog.cellsOf 48 = 2 := by kernel_rfl
set_option maxRecDepth 100000 in
/-- A row of marks among the arguments. -/
theorem arg_marks {r : Reach} {b0 : Nat} {v : Value} {d : DataW H} {ps : List MemPlace} (hval : Value.okWide Tryd.prog w r b0 28 v) (h : DataW.Trod enc Tryd.prog w base sp hd 28 v d ps) :
    ∃ (l : List S48) (A : Option Addr) (c : Nat), v = .slice A l.length c ∧ MkI w A c l ∧ (∀ x ∈ l, (Lit.int .i64 x.f0).wf = true) ∧ (∀ x ∈ l, (Lit.int .i64 x.f1).wf = true) := by
  obtain ⟨a, len, cap, rfl⟩ := okWide_slice Tryd.underlying28 hval
  obtain ⟨fuel, hf⟩ := h
  rcases Go.Deep.open_slice_pairs Tryd.underlying28 Tryd.underlying48 cellsOf48 rfl rfl cellsOf3 cellsOf3 hf with ⟨h1, _⟩ | ⟨a', len', cap', m, n, V0, V1, D0, D1, P0, P1, h1, _, hle, hm, hmm, _, hx⟩
  · simp [Value.cells] at h1
    obtain ⟨rfl, rfl, rfl⟩ := h1
    exact ⟨[], none, 0, rfl, ⟨Nat.le_refl _, by simp, fun h => by simp at h⟩, fun x hx => by simp at hx, fun x hx => by simp at hx⟩
  · simp [Value.cells] at h1
    obtain ⟨rfl, rfl, rfl⟩ := h1
    have hlm : len ≤ m := by rw [hmm]; split <;> omega
    have each : ∀ i, ∃ s : S48, i < m → w.cell? (a'.add (i * 2)) = some (.int .i64 s.f0) ∧ w.cell? (a'.add (i * 2 + 1)) = some (.int .i64 s.f1) ∧ (Lit.int .i64 s.f0).wf = true ∧ (Lit.int .i64 s.f1).wf = true := by
      intro i
      by_cases hi : i < m
      · obtain ⟨c0, c1, t0, t1⟩ := hx i hi
        obtain ⟨x0, e0, _, w0⟩ := DataW.trod_int Tryd.underlying3 t0
        obtain ⟨x1, e1, _, w1⟩ := DataW.trod_int Tryd.underlying3 t1
        simp at e0 e1
        exact ⟨⟨x0, x1⟩, fun _ => ⟨by rw [c0, e0], by rw [c1, e1], w0, w1⟩⟩
      · exact ⟨⟨0, 0⟩, fun h => absurd h hi⟩
    obtain ⟨f, hfn⟩ := Classical.axiomOfChoice each
    have hlen : ((List.range len).map f).length = len := by simp
    refine ⟨(List.range len).map f, some a', cap, by rw [hlen], ⟨by omega, by unfold maxLen at hm; omega, fun hp => ?_⟩, fun x hx => ?_, fun x hx => ?_⟩
    · have hsp : a'.spot = none := by
        have := World.cell?_spot (hfn 0 (by omega)).1
        simpa [Addr.add] using this
      obtain ⟨b, o, spot⟩ := a'
      obtain rfl : spot = none := hsp
      refine ⟨b, o, rfl, fun i hi => ?_⟩
      obtain ⟨c0, c1, _, _⟩ := hfn i (by omega)
      rw [add_plain] at c0 c1
      simp only [List.getElem_map, List.getElem_range]
      exact ⟨c0, c1⟩
    · obtain ⟨i, hi, rfl⟩ := List.mem_map.1 hx
      exact (hfn i (by have := List.mem_range.1 hi; omega)).2.2.1
    · obtain ⟨i, hi, rfl⟩ := List.mem_map.1 hx
      exact (hfn i (by have := List.mem_range.1 hi; omega)).2.2.2
end
end Go.Proofs.YtpkjiimcoepjpaaDoor
