/- The reference's values: lists compared, hashes, places. -/
import Derived.Test.YtpkjiimcoepjpaaDoorT5
import Derived.Test.YtpkjiimcoepjpaaDoorT18
import Derived.Test.YtpkjiimcoepjpaaDoorT20
namespace Go.Proofs.YtpkjiimcoepjpaaDoor
set_option linter.unusedVariables false
set_option linter.unusedSimpArgs false
open Go.RowKit Go.Proofs.YtpkjiimcoepjpaaDoorW.PrintWords Go.Proofs.YtpkjiimcoepjpaaDoorW.PrintMore
open PFingerprintSymbols (S48 k48 k48_mk z48 rd_T48 assessorref35_Same.f assessorref35_Same.l0 assessorref35_Same.calls assessorref43_Same.f assessorref43_Same.l0 assessorref43_Same.calls assessorref43_has.f assessorref43_has.l0 assessorref43_has.calls assessorref43_least.f assessorref43_least.l0 assessorref43_least.mono assessorref43_Winnow.f assessorref43_Winnow.j0 assessorref43_Winnow.j1 assessorref43_Winnow.j2 assessorref43_Winnow.l0 assessorref43_Winnow.l1 assessorref43_Winnow.calls)

/-! ### lists of numbers compared -/
theorem same_ev (a b : List Int) (hl : a.length = b.length) (hn : a.length ≤ 1000000) (m : Nat) : ∀ i, a.length - i = m → i ≤ a.length →
    ∃ r : Bool, Ev (fun k => assessorref35_Same.l0 k a b ((i : Nat) : Int)) r ∧ (r = true ↔ a.drop i = b.drop i) := by
  induction m with
  | zero =>
    intro i hm hi
    obtain rfl : i = a.length := by omega
    refine ⟨true, Ev.step (f := fun _ => some true) (fun k => ?_) (Ev.now _), ?_⟩
    · simp only [assessorref35_Same.l0]
      rw [if_neg (by omega)]
    · rw [List.drop_length, hl, List.drop_length]; simp
  | succ m ih =>
    intro i hm hi
    have hi2 : i < a.length := by omega
    have hi3 : i < b.length := by omega
    obtain ⟨r, hr, hiff⟩ := ih (i + 1) (by omega) (by omega)
    rw [List.drop_eq_getElem_cons hi2, List.drop_eq_getElem_cons hi3]
    by_cases he : a[i] = b[i]
    · refine ⟨r, Ev.step (fun k => ?_) hr, by rw [hiff, he]; exact ⟨fun h => by rw [h], fun h => (List.cons.inj h).2⟩⟩
      simp only [assessorref35_Same.l0]
      rw [if_pos (by omega), if_pos (by omega), if_pos (by omega), rd_get a i hi2, rd_get b i hi3, if_pos he, w64in _ (by omega)]
      rfl
    · refine ⟨false, Ev.step (f := fun _ => some false) (fun k => ?_) (Ev.now _), ⟨fun h => (Bool.noConfusion h), fun h => absurd (List.cons.inj h).1 he⟩⟩
      simp only [assessorref35_Same.l0]
      rw [if_pos (by omega), if_pos (by omega), if_pos (by omega), rd_get a i hi2, rd_get b i hi3, if_neg he]
theorem same_f (a b : List Int) (hn : a.length ≤ 1000000) : ∃ r : Bool, (∃ k, assessorref35_Same.f k a b = some r) ∧ (r = true ↔ a = b) := by
  by_cases hl : a.length = b.length
  · obtain ⟨r, hr, hiff⟩ := same_ev a b hl hn _ 0 rfl (Nat.zero_le _)
    refine ⟨r, ?_, by rw [hiff]; simp⟩
    obtain ⟨k, hk⟩ := hr.rounds
    refine ⟨k, ?_⟩
    unfold assessorref35_Same.f
    rw [if_pos (by omega)]
    exact hk
  · refine ⟨false, ⟨0, ?_⟩, by simp; intro e; exact hl (by rw [e])⟩
    unfold assessorref35_Same.f
    rw [if_neg (by omega)]
theorem SameI (a b : List Int) (A B : Option Addr) (cA cB : Nat) (w : World) (hA : InR w A cA a) (hB : InR w B cB b) (hn : a.length ≤ 1000000) :
    Calls Tryd.prog 14 #[.slice A a.length cA, .slice B b.length cB] w fun e w' => (∃ r : Bool, e = .returned (.bool r) ∧ (r = true ↔ a = b)) ∧ Drawn0 w w' := by
  obtain ⟨r, ⟨k, hk⟩, hiff⟩ := same_f a b hn
  refine (assessorref35_Same.calls k A cA a B cB b r w hA.C hA.1 hB.C hB.1 hk).mono ?_
  rintro e w' ⟨rfl, h⟩
  exact ⟨⟨r, rfl, hiff⟩, h⟩

/-! ### lists of marks compared -/
theorem rdM_get (l : List S48) (i : Nat) (h : i < l.length) : rd_T48 l (i : Nat) = l[i] := by
  unfold rd_T48; rw [Int.toNat_natCast, List.getD_eq_getElem?_getD, List.getElem?_eq_getElem h]; rfl
theorem S48.ext' {x y : S48} (h0 : x.f0 = y.f0) (h1 : x.f1 = y.f1) : x = y := by cases x; cases y; simp_all
theorem sameM_ev (a b : List S48) (hl : a.length = b.length) (hn : a.length ≤ 1000000) (m : Nat) : ∀ i, a.length - i = m → i ≤ a.length →
    ∃ r : Bool, Ev (fun k => assessorref43_Same.l0 k a b ((i : Nat) : Int)) r ∧ (r = true ↔ a.drop i = b.drop i) := by
  induction m with
  | zero =>
    intro i hm hi
    obtain rfl : i = a.length := by omega
    refine ⟨true, Ev.step (f := fun _ => some true) (fun k => ?_) (Ev.now _), ?_⟩
    · simp only [assessorref43_Same.l0]
      rw [if_neg (by omega)]
    · rw [List.drop_length, hl, List.drop_length]; simp
  | succ m ih =>
    intro i hm hi
    have hi2 : i < a.length := by omega
    have hi3 : i < b.length := by omega
    obtain ⟨r, hr, hiff⟩ := ih (i + 1) (by omega) (by omega)
    rw [List.drop_eq_getElem_cons hi2, List.drop_eq_getElem_cons hi3]
    by_cases he : a[i] = b[i]
    · refine ⟨r, Ev.step (fun k => ?_) hr, by rw [hiff, he]; exact ⟨fun h => by rw [h], fun h => (List.cons.inj h).2⟩⟩
      simp only [assessorref43_Same.l0]
      rw [if_pos (by omega), if_pos (by omega), if_pos (by omega), rdM_get a i hi2, rdM_get b i hi3, he, if_neg (by simp), w64in _ (by omega)]
      rfl
    · refine ⟨false, Ev.step (f := fun _ => some false) (fun k => ?_) (Ev.now _), ⟨fun h => (Bool.noConfusion h), fun h => absurd (List.cons.inj h).1 he⟩⟩
      simp only [assessorref43_Same.l0]
      rw [if_pos (by omega), if_pos (by omega), if_pos (by omega), rdM_get a i hi2, rdM_get b i hi3, if_pos]
      by_cases h0 : a[i].f0 = b[i].f0
      · have h1 : a[i].f1 ≠ b[i].f1 := fun h1 => he (S48.ext' h0 h1)
        simp [h0, h1]
      · simp [h0]
theorem sameM_f (a b : List S48) (hn : a.length ≤ 1000000) : ∃ r : Bool, (∃ k, assessorref43_Same.f k a b = some r) ∧ (r = true ↔ a = b) := by
  by_cases hl : a.length = b.length
  · obtain ⟨r, hr, hiff⟩ := sameM_ev a b hl hn _ 0 rfl (Nat.zero_le _)
    refine ⟨r, ?_, by rw [hiff]; simp⟩
    obtain ⟨k, hk⟩ := hr.rounds
    refine ⟨k, ?_⟩
    unfold assessorref43_Same.f
    rw [if_pos (by omega)]
    exact hk
  · refine ⟨false, ⟨0, ?_⟩, by simp; intro e; exact hl (by rw [e])⟩
    unfold assessorref43_Same.f
    rw [if_neg (by omega)]
theorem MkI.C {w : World} {A : Option Addr} {c : Nat} {l : List S48} (h : MkI w A c l) : Kd.C k48 w A l.length l := by
  refine ⟨rfl, h.2.1, fun hp => ?_⟩
  obtain ⟨b, o, e, hc⟩ := h.2.2 hp
  refine ⟨⟨b, o, none⟩, e, fun j p hj => ?_⟩
  obtain ⟨hj2, rfl⟩ := List.getElem?_eq_some_iff.1 hj
  refine ⟨[.int .i64 l[j].f0, .int .i64 l[j].f1], rfl, k48_mk w _, fun i u hu => ?_⟩
  have hi : i < 2 := (List.getElem?_eq_some_iff.1 hu).1
  rw [Go.WideShapes.add_plain]
  obtain ⟨c0, c1⟩ := hc j hj2
  rcases i with _ | _ | i
  · simp at hu; subst hu; exact c0
  · simp at hu; subst hu; exact c1
  · omega
theorem SameM (a b : List S48) (A B : Option Addr) (cA cB : Nat) (w : World) (hA : MkI w A cA a) (hB : MkI w B cB b) (hn : a.length ≤ 1000000) :
    Calls Tryd.prog 19 #[.slice A a.length cA, .slice B b.length cB] w fun e w' => (∃ r : Bool, e = .returned (.bool r) ∧ (r = true ↔ a = b)) ∧ Drawn0 w w' := by
  obtain ⟨r, ⟨k, hk⟩, hiff⟩ := sameM_f a b hn
  refine (assessorref43_Same.calls k A cA a B cB b r w hA.C hA.1 hB.C hB.1 hk).mono ?_
  rintro e w' ⟨rfl, h⟩
  exact ⟨⟨r, rfl, hiff⟩, h⟩

/-! ### a hash among marks -/
theorem has_ev (a : List S48) (x : Int) (hn : a.length ≤ 1000000) (m : Nat) : ∀ i, a.length - i = m → i ≤ a.length →
    ∃ r : Bool, Ev (fun k => assessorref43_has.l0 k a x ((i : Nat) : Int)) r ∧ (r = true ↔ ∃ p ∈ a.drop i, p.f0 = x) := by
  induction m with
  | zero =>
    intro i hm hi
    obtain rfl : i = a.length := by omega
    refine ⟨false, Ev.step (f := fun _ => some false) (fun k => ?_) (Ev.now _), ?_⟩
    · simp only [assessorref43_has.l0]
      rw [if_neg (by omega)]
    · rw [List.drop_length]; simp
  | succ m ih =>
    intro i hm hi
    have hi2 : i < a.length := by omega
    obtain ⟨r, hr, hiff⟩ := ih (i + 1) (by omega) (by omega)
    rw [List.drop_eq_getElem_cons hi2]
    by_cases he : a[i].f0 = x
    · refine ⟨true, Ev.step (f := fun _ => some true) (fun k => ?_) (Ev.now _), ⟨fun _ => ⟨_, List.mem_cons_self, he⟩, fun _ => rfl⟩⟩
      simp only [assessorref43_has.l0]
      rw [if_pos (by omega), if_pos (by omega), rdM_get a i hi2, if_pos he]
    · refine ⟨r, Ev.step (fun k => ?_) hr, by rw [hiff]; exact ⟨fun ⟨p, hp, e⟩ => ⟨p, List.mem_cons_of_mem _ hp, e⟩, fun ⟨p, hp, e⟩ => (List.mem_cons.1 hp).elim (fun h => absurd (h ▸ e) he) (fun h => ⟨p, h, e⟩)⟩⟩
      simp only [assessorref43_has.l0]
      rw [if_pos (by omega), if_pos (by omega), rdM_get a i hi2, if_neg he, w64in _ (by omega)]
      rfl
theorem HasW (a : List S48) (x : Int) (A : Option Addr) (cA : Nat) (w : World) (hA : MkI w A cA a) (hn : a.length ≤ 1000000) :
    Calls Tryd.prog 41 #[.slice A a.length cA, .int .i64 x] w fun e w' => (∃ r : Bool, e = .returned (.bool r) ∧ (r = true ↔ ∃ p ∈ a, p.f0 = x)) ∧ Drawn0 w w' := by
  obtain ⟨r, hr, hiff⟩ := has_ev a x hn _ 0 rfl (Nat.zero_le _)
  obtain ⟨k, hk⟩ := hr.rounds
  refine (assessorref43_has.calls k A cA a x r w hA.C hA.1 (by unfold assessorref43_has.f; exact hk)).mono ?_
  rintro e w' ⟨rfl, h⟩
  exact ⟨⟨r, rfl, by simpa using hiff⟩, h⟩

/-! ### the reference's Winnow -/
theorem least_ev (h : List Int) (hn : h.length ≤ 1000000) (fr to' : Nat) (htn : to' ≤ h.length) (m : Nat) : ∀ d, to' - (fr + d + 1) = m → fr + d + 1 ≤ to' →
    Ev (fun k => assessorref43_least.l0 k h ((to' : Nat) : Int) ((lst h fr d : Nat) : Int) ((fr + d + 1 : Nat) : Int)) ((lst h fr (to' - fr - 1) : Nat) : Int) := by
  induction m with
  | zero =>
    intro d hm hd
    obtain rfl : to' = fr + d + 1 := by omega
    rw [show fr + d + 1 - fr - 1 = d by omega]
    refine Ev.step (f := fun _ => some ((lst h fr d : Nat) : Int)) (fun k => ?_) (Ev.now _)
    simp only [assessorref43_least.l0]
    rw [if_neg (by omega)]
  | succ m ih =>
    intro d hm hd
    have hb := (lst_ok h fr d).hi
    refine Ev.step (fun k => ?_) (ih (d + 1) (by omega) (by omega))
    simp only [assessorref43_least.l0]
    rw [if_pos (by omega), if_pos (by omega), if_pos (by omega), if_pos (by omega), if_pos (by omega), rd_hv, rd_hv, w64in _ (by omega)]
    simp only [lst]
    by_cases hc : hv h (fr + d + 1) ≤ hv h (lst h fr d)
    · rw [if_pos hc, if_pos hc]
      rfl
    · rw [if_neg hc, if_neg hc]
      rfl
theorem least_f (h : List Int) (hn : h.length ≤ 1000000) (fr to' : Nat) (hft : fr < to') (htn : to' ≤ h.length) :
    Ev (fun k => assessorref43_least.f k h ((fr : Nat) : Int) ((to' : Nat) : Int)) ((lst h fr (to' - fr - 1) : Nat) : Int) := by
  unfold assessorref43_least.f
  refine Ev.step (fun k => ?_) (least_ev h hn fr to' htn _ 0 rfl (by omega))
  simp only [assessorref43_least.l0]
  rw [if_pos (by omega), if_pos (by omega), if_pos (by omega), if_pos (by omega), if_pos (by omega), if_pos (Int.le_refl _), w64in _ (by omega)]
  rfl
/-- the places that are marked as chosen, window by window -/
def chB (h : List Int) (w : Nat) : Nat → List Bool
  | 0 => List.replicate h.length false
  | i + 1 => (chB h w i).set (lst h i (w - 1)) true
theorem chB_len (h : List Int) (w : Nat) : ∀ i, (chB h w i).length = h.length
  | 0 => by simp [chB]
  | i + 1 => by simp [chB, chB_len h w i]
theorem chB_get (h : List Int) (w p : Nat) (hp : p < h.length) : ∀ i, (chB h w i).getD p false = true ↔ ∃ j, j < i ∧ lst h j (w - 1) = p
  | 0 => by
    unfold chB
    rw [List.getD_eq_getElem?_getD, List.getElem?_replicate, if_pos hp]
    simp
  | i + 1 => by
    have ih := chB_get h w p hp i
    have hl := chB_len h w i
    unfold chB
    rw [List.getD_eq_getElem?_getD] at ih ⊢
    rw [List.getElem?_set]
    by_cases he : lst h i (w - 1) = p
    · rw [if_pos he, if_pos (by omega)]
      simp only [Option.getD_some, true_iff]
      exact ⟨i, by omega, he⟩
    · rw [if_neg he, ih]
      constructor
      · rintro ⟨j, h1, h2⟩; exact ⟨j, by omega, h2⟩
      · rintro ⟨j, h1, h2⟩
        by_cases hj : j = i
        · subst hj; exact absurd h2 he
        · exact ⟨j, by omega, h2⟩
/-- the chosen places are those of the printed Winnow -/
theorem chB_outP (h : List Int) (w : Nat) (hw : 1 ≤ w) (hwn : w ≤ h.length) : (List.range h.length).filter (fun p => (chB h w (h.length + 1 - w)).getD p false) = outP h w h.length := by
  obtain ⟨h1, h2, _⟩ := outP_spec h hw h.length
  refine sorted_ext _ _ (List.Pairwise.filter _ List.pairwise_lt_range) h1 fun p => ?_
  rw [List.mem_filter, List.mem_range, h2 p]
  constructor
  · rintro ⟨hp, hc⟩
    obtain ⟨j, hj, he⟩ := (chB_get h w p hp _).1 hc
    refine ⟨j + w - 1, by omega, by omega, ?_⟩
    unfold atW
    rw [show j + w - 1 + 1 - w = j by omega, show j + w - 1 - j = w - 1 by omega]
    exact he
  · rintro ⟨j, hj1, hj2, he⟩
    have hb := (atW_ok h (j := j) hw).hi
    refine ⟨by omega, (chB_get h w p (by omega) _).2 ⟨j + 1 - w, by omega, ?_⟩⟩
    unfold atW at he
    rw [show j - (j + 1 - w) = w - 1 by omega] at he
    exact he
theorem rdOf_nat (B : List Bool) (p : Nat) : rdOf false B (p : Nat) = B.getD p false := by unfold rdOf; rw [Int.toNat_natCast]
theorem evOut (h : List Int) (B : List Bool) (hn : h.length ≤ 1000000) (hB : B.length = h.length) (m : Nat) : ∀ i, h.length - i = m → i ≤ h.length →
    Ev (fun k => assessorref43_Winnow.l1 k h B (((List.range i).filter fun p => B.getD p false).map (mkS h)) ((i : Nat) : Int)) ((((List.range h.length).filter fun p => B.getD p false).map (mkS h)), 0) := by
  induction m with
  | zero =>
    intro i hm hi
    obtain rfl : i = h.length := by omega
    refine Ev.step (f := fun _ => some ((((List.range h.length).filter fun p => B.getD p false).map (mkS h)), (0 : Int))) (fun k => ?_) (Ev.now _)
    simp only [assessorref43_Winnow.l1]
    rw [if_neg (by omega)]
  | succ m ih =>
    intro i hm hi
    have hi2 : i < h.length := by omega
    have hlen : (((List.range i).filter fun p => B.getD p false).map (mkS h)).length ≤ i := by
      rw [List.length_map]
      exact Nat.le_trans (List.length_filter_le _ _) (by simp)
    refine Ev.step (fun k => ?_) (ih (i + 1) (by omega) (by omega))
    simp only [assessorref43_Winnow.l1]
    rw [if_pos (by omega), if_pos (by omega), if_pos (by omega), rdOf_nat, w64in _ (by omega), rd_hv, List.range_succ, List.filter_append, List.map_append]
    by_cases hc : B.getD i false = true
    · rw [if_pos hc, if_pos (by omega)]
      rw [show [i].filter (fun p => B.getD p false) = [i] by rw [List.filter_cons, if_pos hc]; rfl]
      rfl
    · rw [if_neg hc]
      rw [show [i].filter (fun p => B.getD p false) = [] by rw [List.filter_cons, if_neg hc]; rfl]
      simp only [List.map_nil, List.append_nil]
      rfl
theorem evRef (h : List Int) (w : Nat) (hn : h.length ≤ 1000000) (hw : 1 ≤ w) (hwn : w ≤ h.length) (m : Nat) : ∀ i, h.length + 1 - w - i = m → i ≤ h.length + 1 - w →
    Ev (fun k => assessorref43_Winnow.l0 k h ((w : Nat) : Int) (chB h w i) ((i : Nat) : Int)) ((outP h w h.length).map (mkS h), 0) := by
  induction m with
  | zero =>
    intro i hm hi
    obtain rfl : i = h.length + 1 - w := by omega
    have H := evOut h (chB h w (h.length + 1 - w)) hn (chB_len _ _ _) _ 0 rfl (Nat.zero_le _)
    rw [chB_outP h w hw hwn] at H
    refine Ev.step (fun k => ?_) H
    simp only [assessorref43_Winnow.l0]
    rw [w64in _ (by omega), if_neg (by omega)]
    rfl
  | succ m ih =>
    intro i hm hi
    have hb := (lst_ok h i (w - 1)).hi
    have hl := chB_len h w i
    refine Ev.step (fun k => ?_) (Ev.bind (least_f h hn i (i + w) (by omega) (by omega)) (f := fun k (t : Int) => if 0 ≤ t then (if t < ((chB h w i).length : Int) then (assessorref43_Winnow.l0 k h ((w : Nat) : Int) ((chB h w i).set t.toNat true) ((i + 1 : Nat) : Int)) else none) else none) ?_)
    · simp only [assessorref43_Winnow.l0]
      rw [w64in ((i : Int) + (w : Int)) (by omega), if_pos (by omega), w64in ((i : Int) + 1) (by omega)]
      rfl
    · rw [show i + w - i - 1 = w - 1 by omega]
      refine Ev.congr (fun k => ?_) (ih (i + 1) (by omega) (by omega))
      rw [if_pos (by omega), if_pos (by omega), Int.toNat_natCast]
      rfl
theorem refwin_f (h : List Int) (w : Int) : ∃ k, assessorref43_Winnow.f k h w = some (winV h w, winC h w) := by
  unfold winV winC
  have H : Ev (fun k => assessorref43_Winnow.f k h w) (if 1 ≤ w ∧ w ≤ 64 ∧ h.length ≤ 2048 then (outP h (min w.toNat h.length) h.length).map (mkS h) else [], if 1 ≤ w ∧ w ≤ 64 then (if h.length > 2048 then 8 else 0) else 2) := by
    unfold assessorref43_Winnow.f
    by_cases hw : 1 ≤ w ∧ w ≤ 64
    · rw [if_pos hw]
      have hd : decide (w > 64) = false := decide_eq_false (by omega)
      by_cases hn : h.length ≤ 2048
      · have hl : h.length ≤ 1000000 := by omega
        rw [if_pos ⟨hw.1, hw.2, hn⟩, if_neg (by omega)]
        obtain ⟨W, rfl⟩ : ∃ W : Nat, w = ((W : Nat) : Int) := ⟨w.toNat, by omega⟩
        rw [Int.toNat_natCast]
        by_cases h0 : h.length = 0
        · obtain rfl := List.eq_nil_of_length_eq_zero h0
          refine Ev.step (f := fun k => assessorref43_Winnow.j1 k [] ((W : Nat) : Int) [] false) (fun k => ?_) ?_
          · rw [if_neg (by omega), hd]
            simp only [assessorref43_Winnow.j0]
            simp
          refine Ev.step (f := fun k => assessorref43_Winnow.j2 k [] ((W : Nat) : Int) []) (fun k => ?_) ?_
          · simp [assessorref43_Winnow.j1]
          refine Ev.step (f := fun k => assessorref43_Winnow.l0 k [] ((W : Nat) : Int) [] 0) (fun k => ?_) ?_
          · simp [assessorref43_Winnow.j2]
          refine Ev.step (f := fun k => assessorref43_Winnow.l1 k [] [] [] 0) (fun k => ?_) ?_
          · simp only [assessorref43_Winnow.l0]
            rw [w64in _ (by omega), if_neg (by simp; omega)]
          refine Ev.step (f := fun _ => some ([], (0 : Int))) (fun k => ?_) ?_
          · simp only [assessorref43_Winnow.l1]
            rw [if_neg (by simp)]
          exact Ev.now _
        · by_cases hWn : W ≤ h.length
          · rw [Nat.min_eq_left hWn]
            refine Ev.step (f := fun k => assessorref43_Winnow.j1 k h ((W : Nat) : Int) (chB h W 0) false) (fun k => ?_) ?_
            · rw [if_neg (by omega), hd]
              simp only [assessorref43_Winnow.j0]
              rw [if_neg (by simp), if_neg (by omega), if_pos (by omega), if_pos (by omega), Option.bind_some, if_pos (by omega), decide_eq_false (by omega)]
              rfl
            refine Ev.step (f := fun k => assessorref43_Winnow.j2 k h ((W : Nat) : Int) (chB h W 0)) (fun k => ?_) ?_
            · simp only [assessorref43_Winnow.j1]
              rw [if_neg (by simp)]
            refine Ev.step (fun k => ?_) (evRef h W hl (by omega) hWn _ 0 rfl (Nat.zero_le _))
            simp only [assessorref43_Winnow.j2]
            rfl
          · rw [Nat.min_eq_right (by omega)]
            have hb := (lst_ok h 0 (h.length - 1)).hi
            have hlen := chB_len h h.length 0
            refine Ev.step (f := fun k => assessorref43_Winnow.j1 k h ((W : Nat) : Int) (chB h h.length 0) true) (fun k => ?_) ?_
            · rw [if_neg (by omega), hd]
              simp only [assessorref43_Winnow.j0]
              rw [if_neg (by simp), if_neg (by omega), if_pos (by omega), if_pos (by omega), Option.bind_some, if_pos (by omega), decide_eq_true (by omega)]
              rfl
            refine Ev.step (fun k => ?_) (Ev.bind (least_f h hl 0 h.length (by omega) (Nat.le_refl _)) (f := fun k (t : Int) => if 0 ≤ t then (if t < ((chB h h.length 0).length : Int) then (assessorref43_Winnow.j2 k h ((W : Nat) : Int) ((chB h h.length 0).set t.toNat true)) else none) else none) ?_)
            · simp only [assessorref43_Winnow.j1]
              rw [if_pos trivial]
              rfl
            · rw [show h.length - 0 - 1 = h.length - 1 by omega]
              refine Ev.congr (f := fun k => assessorref43_Winnow.j2 k h ((W : Nat) : Int) (chB h h.length 1)) (fun k => ?_) ?_
              · rw [if_pos (by omega), if_pos (by omega), Int.toNat_natCast]
                rfl
              refine Ev.step (f := fun k => assessorref43_Winnow.l0 k h ((W : Nat) : Int) (chB h h.length 1) 0) (fun k => ?_) ?_
              · simp only [assessorref43_Winnow.j2]
              have H := evOut h (chB h h.length 1) hl (chB_len _ _ _) _ 0 rfl (Nat.zero_le _)
              have H2 := chB_outP h h.length (by omega) (Nat.le_refl _)
              rw [show h.length + 1 - h.length = 1 by omega] at H2
              rw [H2] at H
              refine Ev.step (fun k => ?_) H
              simp only [assessorref43_Winnow.l0]
              rw [w64in _ (by omega), if_neg (by omega)]
              rfl
      · rw [if_neg (by omega), if_pos (by omega)]
        refine Ev.step (f := fun _ => some ([], (8 : Int))) (fun k => ?_) (Ev.now _)
        rw [if_neg (by omega), hd]
        simp only [assessorref43_Winnow.j0]
        rw [if_neg (by simp), if_pos (by omega)]
    · rw [if_neg (by omega), if_neg hw]
      refine Ev.step (f := fun _ => some ([], (2 : Int))) (fun k => ?_) (Ev.now _)
      by_cases h1 : w < 1
      · rw [if_pos h1]
        simp only [assessorref43_Winnow.j0]
        rw [if_pos trivial]
      · rw [if_neg h1, decide_eq_true (by omega)]
        simp only [assessorref43_Winnow.j0]
        rw [if_pos trivial]
  exact H.rounds
theorem RefWinnowW (l : List Int) (A : Option Addr) (c : Nat) (k : Int) (w : World) (h : InR w A c l) :
    Calls Tryd.prog 25 #[.slice A l.length c, .int .i64 k] w fun e w' => (∃ v, e = .returned (.tuple #[v, .int .i64 (winC l k)]) ∧ MkR w' v (winV l k)) ∧ Below w.heap.size w w' := by
  obtain ⟨K, hK⟩ := refwin_f l k
  refine (assessorref43_Winnow.calls K A c l k _ _ w h.C h.1 hK).mono ?_
  rintro e w' ⟨v, rfl, h1, h2⟩
  exact ⟨⟨v, rfl, _, h1⟩, h2⟩
end Go.Proofs.YtpkjiimcoepjpaaDoor
