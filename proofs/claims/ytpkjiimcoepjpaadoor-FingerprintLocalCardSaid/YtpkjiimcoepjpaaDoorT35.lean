/- The law FingerprintLocal. -/
import Derived.Test.YtpkjiimcoepjpaaDoorT32
import Derived.Laws.OwnMore
namespace Go.Proofs.YtpkjiimcoepjpaaDoor
set_option linter.unusedVariables false
set_option linter.unusedSimpArgs false
open Go.RowKit Go.Proofs.YtpkjiimcoepjpaaDoorW.PrintWords Go.Proofs.YtpkjiimcoepjpaaDoorW.PrintMore
open PFingerprintSymbols (S48)

/-! ### plain: a place hangs on what is near it -/
theorem lst_congr {h x : List Int} (a : Nat) : ∀ d, (∀ q, a ≤ q → q ≤ a + d → hv h q = hv x q) → lst h a d = lst x a d
  | 0, _ => rfl
  | d + 1, H => by
    have ih := lst_congr a d (fun q h1 h2 => H q h1 (by omega))
    have hb := lst_ok x a d
    unfold lst
    rw [ih, H (a + d + 1) (by omega) (by omega), H (lst x a d) hb.lo (by have := hb.hi; omega)]
theorem atW_congr {h x : List Int} {K j : Nat} (H : ∀ q, j + 1 - K ≤ q → q ≤ j → hv h q = hv x q) (hK : 1 ≤ K) : atW h K j = atW x K j := by
  unfold atW
  exact lst_congr _ _ (fun q h1 h2 => H q h1 (by omega))
theorem mem_local {h x : List Int} {K T : Nat} (hK : 1 ≤ K) (hl : h.length = x.length) (H : ∀ q, T + 1 ≤ q + K → q + 1 ≤ T + K → hv h q = hv x q) :
    T ∈ outP h K h.length → T ∈ outP x K x.length := by
  intro hm
  obtain ⟨_, h2, _⟩ := outP_spec h hK h.length
  obtain ⟨_, x2, _⟩ := outP_spec x hK x.length
  obtain ⟨j, j1, j2, j3⟩ := (h2 T).1 hm
  have hok := atW_ok h (j := j) hK
  rw [j3] at hok
  refine (x2 T).2 ⟨j, j1, by omega, ?_⟩
  rw [← j3]
  exact (atW_congr (fun q h1 h2 => H q (by have := hok.hi; omega) (by have := hok.lo; omega)) hK).symm
theorem mem_winV {h : List Int} {K T : Nat} (hK : 1 ≤ K) (hK2 : K ≤ 64) (hn : h.length ≤ 2048) (hKn : K ≤ h.length) : (∃ m ∈ winV h (K : Nat), m.f1 = ((T : Nat) : Int)) ↔ T ∈ outP h K h.length := by
  unfold winV
  rw [if_pos ⟨by omega, by omega, hn⟩, Int.toNat_natCast, Nat.min_eq_left hKn]
  constructor
  · rintro ⟨m, hm, e⟩
    obtain ⟨p, hp, rfl⟩ := List.mem_map.1 hm
    have : p = T := by unfold mkS at e; simp at e; omega
    rw [← this]; exact hp
  · intro hp
    exact ⟨mkS h T, List.mem_map.2 ⟨T, hp, rfl⟩, rfl⟩

/-- a bool that answers P -/
def BoolIff (P : Prop) (e : Ending) : Prop := ∃ r : Bool, e = .returned (.bool r) ∧ (r = true ↔ P)

/-! ### the closure: is a place chosen -/
set_option maxRecDepth 100000 in
set_option maxHeartbeats 4000000 in
theorem ChosenW (l : List S48) (A : Option Addr) (c : Nat) (b : Nat) (at' : Int) (w : World) (hl : l.length ≤ 1000000) (hI : MkI w A c l) (hb : w.cell? ⟨b, 0, none⟩ = some (.int .i64 at')) :
    Calls Tryd.prog 29 #[.slice A l.length c, .pointer (some ⟨b, 0, none⟩)] w fun e w' => BoolIff (∃ m ∈ l, m.f1 = at') e ∧ Below w.heap.size w w' := by
  have HI := Lib.hid hI
  have hlt : b < w.heap.size := World.block_lt_of_cell? w _ hb
  have HB := Lib.hid hb
  clear hI hb
  go_enter Tryd.func29, Tryd.ntmps29
  go_wp2_with fail
  go_loopw [8] (fun s wr => ∃ i : Nat, s = .int .i64 (i : Nat) ∧ i ≤ l.length ∧ Hid ((∀ j (h : j < i) (h2 : j < l.length), l[j].f1 ≠ at') ∧ Below w.heap.size w wr)) (fun s _ => l.length - (intOf s).toNat)
  case atStart => exact ⟨0, rfl, Nat.zero_le _, Lib.hid ⟨fun j h => by omega, Below.refl _ _⟩⟩
  case round =>
    obtain ⟨i, rfl, hi, H⟩ := hrel
    obtain ⟨wq, rfl⟩ : ∃ wq : World, wq = wr := ⟨_, rfl⟩
    by_cases hlt' : i < l.length
    · have hiI : (i : Int) < (l.length : Int) := by omega
      obtain ⟨b2, o2, rfl, hc⟩ := (HI.out.below H.out.2).2.2 (by omega)
      obtain ⟨r0, r1⟩ := hc i hlt'
      have q := (H.out.2.cell (p := ⟨b, 0, none⟩) hlt).trans HB.out
      obtain ⟨x, hx⟩ : ∃ x, l[i].f0 = x := ⟨_, rfl⟩
      obtain ⟨y, hy⟩ : ∃ y, l[i].f1 = y := ⟨_, rfl⟩
      rw [hx] at r0
      rw [hy] at r1
      have HY := Lib.hid hy
      have hbq : b < wq.heap.size := World.block_lt_of_cell? wq _ q
      have hne : b ≠ wq.heap.size := by omega
      clear hc hx hy
      by_cases hya : y = at'
      · have hd : (y == at') = true := by simpa using hya
        go_wp2_with fail
        go_ret
        exact ⟨⟨true, rfl, fun _ => ⟨l[i], List.getElem_mem _, by rw [HY.out, hya]⟩, fun _ => rfl⟩, H.out.2.alloc H.out.2.size _⟩
      · have hd : (y == at') = false := by simpa using hya
        go_wp2_with fail
        go_roundw
        case rel => exact ⟨i + 1, by go_num, by omega, Lib.hid ⟨fun j h h2 => by
          by_cases hj : j = i
          · subst hj; rw [HY.out]; exact hya
          · exact H.out.1 j (by omega) h2, H.out.2.alloc H.out.2.size _⟩⟩
        case measure => simp [intOf]; omega
    · obtain rfl : i = l.length := by omega
      go_wp2_with fail
      go_ret
      refine ⟨⟨false, rfl, fun h => (Bool.noConfusion h), fun ⟨m, hm, e⟩ => ?_⟩, H.out.2⟩
      obtain ⟨j, hj, rfl⟩ := List.mem_iff_getElem.1 hm
      exact absurd e (H.out.1 j hj hj)

/-! ### what is not near is replaced -/
def mixV (l ot : List Int) (K T i : Nat) : Int := if (i + K ≤ T ∨ T + K ≤ i) ∧ 0 < ot.length then hv ot (i % ot.length) else hv l i
def mixL (l ot : List Int) (K T : Nat) : List Int := (List.range l.length).map (mixV l ot K T)
theorem mixL_len (l ot : List Int) (K T : Nat) : (mixL l ot K T).length = l.length := by simp [mixL]
theorem mixL_hv (l ot : List Int) (K T q : Nat) (hq : q < l.length) : hv (mixL l ot K T) q = mixV l ot K T q := by
  unfold hv mixL
  rw [List.getD_eq_getElem?_getD, List.getElem?_map, List.getElem?_range hq]; rfl
theorem mixL_near (l ot : List Int) (K T q : Nat) (hq : q < l.length) (h1 : T + 1 ≤ q + K) (h2 : q + 1 ≤ T + K) : hv l q = hv (mixL l ot K T) q := by
  rw [mixL_hv l ot K T q hq]
  unfold mixV
  rw [if_neg (by omega)]
/-- the first i replaced -/
def mixI (l X : List Int) (i : Nat) : List Int := X.take i ++ l.drop i
theorem mixI_len (l X : List Int) (h : X.length = l.length) (i : Nat) (hi : i ≤ l.length) : (mixI l X i).length = l.length := by simp [mixI]; omega
theorem mixI_zero (l X : List Int) : mixI l X 0 = l := by simp [mixI]
theorem mixI_all (l X : List Int) (h : X.length = l.length) : mixI l X l.length = X := by unfold mixI; rw [List.drop_length, List.append_nil, ← h, List.take_length]
theorem mixI_keep (l X : List Int) (h : X.length = l.length) (i : Nat) (hi : i < l.length) (he : hv X i = hv l i) : mixI l X (i + 1) = mixI l X i := by
  have e : X[i]'(by omega) = l[i] := by
    unfold hv at he
    rw [List.getD_eq_getElem?_getD, List.getD_eq_getElem?_getD, List.getElem?_eq_getElem (by omega), List.getElem?_eq_getElem hi] at he
    exact he
  unfold mixI
  rw [List.take_succ_eq_append_getElem (by omega), List.append_assoc, e, List.drop_eq_getElem_cons hi]
  rfl
theorem mixI_set (l X : List Int) (h : X.length = l.length) (i : Nat) (hi : i < l.length) : (ints (mixI l X i)).set i (.int .i64 (hv X i)) = ints (mixI l X (i + 1)) := by
  have e : X[i]'(by omega) = hv X i := by unfold hv; rw [List.getD_eq_getElem?_getD, List.getElem?_eq_getElem (by omega)]; rfl
  unfold ints
  rw [← List.map_set]
  congr 1
  unfold mixI
  rw [List.take_succ_eq_append_getElem (by omega), e]
  have hl : (X.take i).length = i := by rw [List.length_take]; omega
  rw [List.set_append_right _ _ (by omega), hl, Nat.sub_self, List.drop_eq_getElem_cons hi, List.set_cons_zero, List.append_assoc]
  rfl

set_option maxRecDepth 100000 in
set_option maxHeartbeats 4000000 in
theorem lawLocal (l ot : List Int) (A B : Option Addr) (c d : Nat) (k tt : Int) (w : World) (hI : InR w A c l) (hJ : InR w B d ot) :
    Calls Tryd.prog 9 #[.slice A l.length c, .slice B ot.length d, .int .i64 k, .int .i64 tt] w fun e w' => e = .returned (.bool true) ∧ Below w.heap.size w w' := by
  have HI := Lib.hid hI
  have HJ := Lib.hid hJ
  have hlen := hI.2.1
  have hlc := hI.1
  have holen := hJ.2.1
  have hoc := hJ.1
  clear hI hJ
  by_cases g1 : k < 1
  · have d1 : decide (k < 1) = true := decide_eq_true g1
    go_enter Tryd.func9, Tryd.ntmps9
    go_wp2_with fail
    refine (awake _).mono ?_
    rintro e w1 ⟨rfl, h1⟩
    have H1 := Lib.hid h1
    obtain ⟨hcell1, _⟩ : w1.cell? ⟨w.heap.size, 0, none⟩ = some (.int .i64 tt) ∧ True := ⟨(h1.cell (p := ⟨w.heap.size, 0, none⟩) (by simp)).trans (by unfold World.cell?; rw [heap_alloc_new]; rfl), trivial⟩
    clear h1
    go_wp2_with fail
    go_ret
    exact ⟨rfl, (allocB w _).trans (H1.out.mono (by simp))⟩
  · have d1 : decide (k < 1) = false := decide_eq_false g1
    by_cases g2 : k > 20
    · have d2 : decide (k > 20) = true := decide_eq_true g2
      go_enter Tryd.func9, Tryd.ntmps9
      go_wp2_with fail
      refine (awake _).mono ?_
      rintro e w1 ⟨rfl, h1⟩
      have H1 := Lib.hid h1
      obtain ⟨hcell1, _⟩ : w1.cell? ⟨w.heap.size, 0, none⟩ = some (.int .i64 tt) ∧ True := ⟨(h1.cell (p := ⟨w.heap.size, 0, none⟩) (by simp)).trans (by unfold World.cell?; rw [heap_alloc_new]; rfl), trivial⟩
      clear h1
      go_wp2_with fail
      go_ret
      exact ⟨rfl, (allocB w _).trans (H1.out.mono (by simp))⟩
    · have d2 : decide (k > 20) = false := decide_eq_false g2
      by_cases g3 : tt < k - 1
      · have d3 : decide (tt < k - 1) = true := decide_eq_true g3
        go_enter Tryd.func9, Tryd.ntmps9
        go_wp2_with fail
        refine (awake _).mono ?_
        rintro e w1 ⟨rfl, h1⟩
        have H1 := Lib.hid h1
        obtain ⟨hcell1, _⟩ : w1.cell? ⟨w.heap.size, 0, none⟩ = some (.int .i64 tt) ∧ True := ⟨(h1.cell (p := ⟨w.heap.size, 0, none⟩) (by simp)).trans (by unfold World.cell?; rw [heap_alloc_new]; rfl), trivial⟩
        clear h1
        go_wp2_with fail
        go_ret
        exact ⟨rfl, (allocB w _).trans (H1.out.mono (by simp))⟩
      · have d3 : decide (tt < k - 1) = false := decide_eq_false g3
        by_cases g4 : 150 < l.length
        · have d4 : decide ((l.length : Int) > 150) = true := decide_eq_true (by omega)
          go_enter Tryd.func9, Tryd.ntmps9
          go_wp2_with fail
          refine (awake _).mono ?_
          rintro e w1 ⟨rfl, h1⟩
          have H1 := Lib.hid h1
          obtain ⟨hcell1, _⟩ : w1.cell? ⟨w.heap.size, 0, none⟩ = some (.int .i64 tt) ∧ True := ⟨(h1.cell (p := ⟨w.heap.size, 0, none⟩) (by simp)).trans (by unfold World.cell?; rw [heap_alloc_new]; rfl), trivial⟩
          clear h1
          go_wp2_with fail
          go_ret
          exact ⟨rfl, (allocB w _).trans (H1.out.mono (by simp))⟩
        · have d4 : decide ((l.length : Int) > 150) = false := decide_eq_false (by omega)
          by_cases g5 : tt > (l.length : Int) - k
          · have d5 : decide (tt > (l.length : Int) - k) = true := decide_eq_true g5
            go_enter Tryd.func9, Tryd.ntmps9
            go_wp2_with fail
            refine (awake _).mono ?_
            rintro e w1 ⟨rfl, h1⟩
            have H1 := Lib.hid h1
            obtain ⟨hcell1, _⟩ : w1.cell? ⟨w.heap.size, 0, none⟩ = some (.int .i64 tt) ∧ True := ⟨(h1.cell (p := ⟨w.heap.size, 0, none⟩) (by simp)).trans (by unfold World.cell?; rw [heap_alloc_new]; rfl), trivial⟩
            clear h1
            go_wp2_with fail
            go_ret
            exact ⟨rfl, (allocB w _).trans (H1.out.mono (by simp))⟩
          · have d5 : decide (tt > (l.length : Int) - k) = false := decide_eq_false g5
            by_cases g6 : 150 < ot.length
            · have d6 : decide ((ot.length : Int) > 150) = true := decide_eq_true (by omega)
              go_enter Tryd.func9, Tryd.ntmps9
              go_wp2_with fail
              refine (awake _).mono ?_
              rintro e w1 ⟨rfl, h1⟩
              have H1 := Lib.hid h1
              obtain ⟨hcell1, _⟩ : w1.cell? ⟨w.heap.size, 0, none⟩ = some (.int .i64 tt) ∧ True := ⟨(h1.cell (p := ⟨w.heap.size, 0, none⟩) (by simp)).trans (by unfold World.cell?; rw [heap_alloc_new]; rfl), trivial⟩
              clear h1
              go_wp2_with fail
              go_ret
              exact ⟨rfl, (allocB w _).trans (H1.out.mono (by simp))⟩
            · have d6 : decide ((ot.length : Int) > 150) = false := decide_eq_false (by omega)
              obtain ⟨K, rfl⟩ : ∃ K : Nat, k = ((K : Nat) : Int) := ⟨k.toNat, by omega⟩
              obtain ⟨T, rfl⟩ : ∃ T : Nat, tt = ((T : Nat) : Int) := ⟨tt.toNat, by omega⟩
              obtain ⟨X, hX⟩ : ∃ X, mixL l ot K T = X := ⟨_, rfl⟩
              have hXl : X.length = l.length := by rw [← hX, mixL_len]
              obtain ⟨i3, hi3, hz0, hz1, hz2⟩ := info_parts inf3
              have HX := Lib.hid (And.intro hX hXl)
              have HKT := Lib.hid (show K ≤ T + 1 ∧ T + K ≤ l.length ∧ 1 ≤ K ∧ K ≤ 20 by omega)
              have hl0 : 0 < l.length := by omega
              clear hX hXl
              go_enter Tryd.func9, Tryd.ntmps9
              go_wp2_with fail
              refine (awake _).mono ?_
              rintro e w1 ⟨rfl, h1⟩
              have hcell1 : w1.cell? ⟨w.heap.size, 0, none⟩ = some (.int .i64 (T : Nat)) := (h1.cell (p := ⟨w.heap.size, 0, none⟩) (by simp)).trans (by unfold World.cell?; rw [heap_alloc_new]; rfl)
              have H1 := Lib.hid ((allocB w _).trans (h1.mono (by simp)))
              have hb1 : w.heap.size < w1.heap.size := by have := h1.size; simp at this; omega
              have HC1 := Lib.hid hcell1
              clear h1
              obtain ⟨b, o, rfl, hc⟩ := (HI.out.below H1.out).2.2 hl0
              obtain ⟨w2, hw2⟩ : ∃ w2, w1.alloc (.cells #[] 3) = w2 := ⟨_, rfl⟩
              have hn2 : w2.heap[w1.heap.size]? = some (.cells #[] 3 (0, 0)) := by rw [← hw2]; exact heap_alloc_new _ _
              have hb2 : Below w1.heap.size w1 w2 := by rw [← hw2]; exact allocB _ _
              have hcl : ∀ j u, (ints l)[j]? = some u → w2.cell? ((⟨b, o, none⟩ : Addr).add j) = some u := by
                intro j u hu
                rw [Go.WideShapes.add_plain]
                unfold ints at hu
                rw [List.getElem?_map] at hu
                obtain ⟨x, hx, rfl⟩ := Option.map_eq_some_iff.1 hu
                obtain ⟨hj, rfl⟩ := List.getElem?_eq_some_iff.1 hx
                exact (hb2.cell (p := ⟨b, o + j, none⟩) (World.block_lt_of_cell? w1 _ (hc j hj))).trans (hc j hj)
              have H2 := Lib.hid (And.intro hn2 (And.intro hb2 hcl))
              clear hn2 hb2 hcl hc
              have hs2 : w1.heap.size ≤ w2.heap.size := H2.out.2.1.size
              go_wp2_with (at_builtin; refine wpList_append_lies _ rfl _ _ 25 rfl w1.heap.size 3 i3 _ 1 8 Tryd.underlying25 hi3 hz0 hz1 hz2 rfl (by decide) (.slice (some ⟨w1.heap.size, 0, none⟩) 0 0) 0 [] (by rfl) ?hown ⟨b, o, none⟩ l.length c (ints l) (by rfl) (by simp [ints]) ?hnews (ints_one l) hl0 ?h63 ?hby ?hbase _ rfl ?_)
              case hown => exact ⟨by simp, .inr ⟨w1.heap.size, 0, #[], rfl, Nat.le_refl _, H2.out.1, Nat.le_refl _, Nat.zero_le _, by simp, by simp⟩⟩
              case hnews => exact H2.out.2.2
              case h63 => unfold maxLen; omega
              case hby => omega
              case hbase => exact hs2
              intro g cap w3 hown3 hgrow3 hat3 hglt3
              have hb3 : Below w1.heap.size w1 w3 := H2.out.2.1.grown hgrow3 hs2 (fun q hq => by
                have : q = w1.heap.size := by simpa [Value.ownBlock] using hq.symm
                omega)
              have hgb : w1.heap.size ≤ g := (hown3.lt g rfl).1
              have H3 := Lib.hid (And.intro hown3 hb3)
              clear hw2 H2 hown3 hgrow3 hat3 hglt3 hb3 hs2 hcell1
              go_wp2_with fail
              go_loopw [53] (fun s wr => ∃ i : Nat, s = .int .i64 (i : Nat) ∧ i ≤ l.length ∧ Hid (wr.ownsRow w1.heap.size 3 1 (.slice (some ⟨g, 0, none⟩) l.length cap) l.length (ints (mixI l X i)) ∧ Below w1.heap.size w1 wr)) (fun s _ => l.length - (intOf s).toNat)
              case atStart => exact ⟨0, rfl, Nat.zero_le _, Lib.hid ⟨by rw [mixI_zero]; exact H3.out.1, H3.out.2⟩⟩
              case round =>
                clear H3
                obtain ⟨i, rfl, hi, H⟩ := hrel
                obtain ⟨wq, rfl⟩ : ∃ wq : World, wq = wr := ⟨_, rfl⟩
                by_cases hlt : i < l.length
                · have hiI : (i : Int) < (l.length : Int) := by omega
                  have q7 := (H.out.2.cell (p := ⟨w.heap.size, 0, none⟩) hb1).trans HC1.out
                  have hgne : g ≠ w.heap.size := by omega
                  have hmv := mixL_hv l ot K T i hlt
                  rw [HX.out.1] at hmv
                  have HMV := Lib.hid hmv
                  clear hmv
                  by_cases f1 : i + K ≤ T
                  · have t1 : decide ((i : Int) < (T : Int) - (K : Int) + 1) = true := decide_eq_true (by omega)
                    by_cases f3 : 0 < ot.length
                    · have t3 : decide ((ot.length : Int) > 0) = true := decide_eq_true (by omega)
                      obtain ⟨bo, oo, rfl, hoc2⟩ := (HJ.out.below (H1.out.trans (H.out.2.mono (Nat.le_of_lt hb1)))).2.2 f3
                      obtain ⟨r, hr⟩ : ∃ r, i % ot.length = r := ⟨_, rfl⟩
                      have hrl : r < ot.length := by rw [← hr]; exact Nat.mod_lt _ f3
                      have q8 := hoc2 r hrl
                      obtain ⟨v, hv'⟩ : ∃ v, ot[r] = v := ⟨_, rfl⟩
                      rw [hv'] at q8
                      have hxv : hv X i = v := by
                        rw [HMV.out]; unfold mixV; rw [if_pos (by omega), hr, ← hv']
                        unfold hv; rw [List.getD_eq_getElem?_getD, List.getElem?_eq_getElem hrl]; rfl
                      have hms := mixI_set l X HX.out.2 i hlt
                      rw [hxv] at hms
                      have HMS := Lib.hid hms
                      have hr1 : (i : Int) % (ot.length : Int) = (r : Int) := by rw [← hr]; exact (Int.natCast_emod _ _).symm
                      have hr2 : (r : Int) < (ot.length : Int) := by omega
                      have hol : (0 : Int) < (ot.length : Int) := by omega
                      have q9 := H.out.1.cellAt i (by omega)
                      have q9' : ∃ u, wq.cell? ⟨g, i, none⟩ = some u := by
                        refine ⟨_, q9.trans (List.getElem?_eq_getElem (by unfold ints; rw [List.length_map, mixI_len l X HX.out.2 i hi]; exact hlt))⟩
                      obtain ⟨u9, q10⟩ := q9'
                      have fz := H.out.1.frozenAt i
                      have hst := H.out.1.stored i (.int .i64 v)
                      have HST := Lib.hid hst
                      clear hr hv' hxv hms hst hoc2 q9
                      go_wp2_with fail
                      go_roundw
                      case rel => exact ⟨i + 1, by go_num, by omega, Lib.hid ⟨by rw [← HMS.out]; exact HST.out.1, H.out.2.grown HST.out.2 H.out.2.size (fun q hq => by cases hq; exact hgb)⟩⟩
                      case measure => simp [intOf]; omega
                    · have t3 : decide ((ot.length : Int) > 0) = false := decide_eq_false (by omega)
                      have t3' : decide (0 < ot.length) = false := decide_eq_false f3
                      have he : hv X i = hv l i := by rw [HMV.out]; unfold mixV; rw [if_neg (fun h => f3 h.2)]
                      have hkp := mixI_keep l X HX.out.2 i hlt he
                      have HE := Lib.hid hkp
                      clear he hkp
                      go_wp2_with fail
                      go_roundw
                      case rel => exact ⟨i + 1, by go_num, by omega, Lib.hid ⟨by rw [HE.out]; exact H.out.1, H.out.2⟩⟩
                      case measure => simp [intOf]; omega
                  · have t1 : decide ((i : Int) < (T : Int) - (K : Int) + 1) = false := decide_eq_false (by omega)
                    by_cases f2 : T + K ≤ i
                    · have t2 : decide ((i : Int) > (T : Int) + (K : Int) - 1) = true := decide_eq_true (by omega)
                      by_cases f3 : 0 < ot.length
                      · have t3 : decide ((ot.length : Int) > 0) = true := decide_eq_true (by omega)
                        obtain ⟨bo, oo, rfl, hoc2⟩ := (HJ.out.below (H1.out.trans (H.out.2.mono (Nat.le_of_lt hb1)))).2.2 f3
                        obtain ⟨r, hr⟩ : ∃ r, i % ot.length = r := ⟨_, rfl⟩
                        have hrl : r < ot.length := by rw [← hr]; exact Nat.mod_lt _ f3
                        have q8 := hoc2 r hrl
                        obtain ⟨v, hv'⟩ : ∃ v, ot[r] = v := ⟨_, rfl⟩
                        rw [hv'] at q8
                        have hxv : hv X i = v := by
                          rw [HMV.out]; unfold mixV; rw [if_pos (by omega), hr, ← hv']
                          unfold hv; rw [List.getD_eq_getElem?_getD, List.getElem?_eq_getElem hrl]; rfl
                        have hms := mixI_set l X HX.out.2 i hlt
                        rw [hxv] at hms
                        have HMS := Lib.hid hms
                        have hr1 : (i : Int) % (ot.length : Int) = (r : Int) := by rw [← hr]; exact (Int.natCast_emod _ _).symm
                        have hr2 : (r : Int) < (ot.length : Int) := by omega
                        have hol : (0 : Int) < (ot.length : Int) := by omega
                        have q9 := H.out.1.cellAt i (by omega)
                        have q9' : ∃ u, wq.cell? ⟨g, i, none⟩ = some u := by
                          refine ⟨_, q9.trans (List.getElem?_eq_getElem (by unfold ints; rw [List.length_map, mixI_len l X HX.out.2 i hi]; exact hlt))⟩
                        obtain ⟨u9, q10⟩ := q9'
                        have fz := H.out.1.frozenAt i
                        have hst := H.out.1.stored i (.int .i64 v)
                        have HST := Lib.hid hst
                        clear hr hv' hxv hms hst hoc2 q9
                        go_wp2_with fail
                        go_roundw
                        case rel => exact ⟨i + 1, by go_num, by omega, Lib.hid ⟨by rw [← HMS.out]; exact HST.out.1, H.out.2.grown HST.out.2 H.out.2.size (fun q hq => by cases hq; exact hgb)⟩⟩
                        case measure => simp [intOf]; omega
                      · have t3 : decide ((ot.length : Int) > 0) = false := decide_eq_false (by omega)
                        have t3' : decide (0 < ot.length) = false := decide_eq_false f3
                        have he : hv X i = hv l i := by rw [HMV.out]; unfold mixV; rw [if_neg (fun h => f3 h.2)]
                        have hkp := mixI_keep l X HX.out.2 i hlt he
                        have HE := Lib.hid hkp
                        clear he hkp
                        go_wp2_with fail
                        go_roundw
                        case rel => exact ⟨i + 1, by go_num, by omega, Lib.hid ⟨by rw [HE.out]; exact H.out.1, H.out.2⟩⟩
                        case measure => simp [intOf]; omega
                    · have t2 : decide ((i : Int) > (T : Int) + (K : Int) - 1) = false := decide_eq_false (by omega)
                      have he : hv X i = hv l i := by rw [HMV.out]; unfold mixV; rw [if_neg (by omega)]
                      have hkp := mixI_keep l X HX.out.2 i hlt he
                      have HE := Lib.hid hkp
                      clear he hkp
                      go_wp2_with fail
                      go_roundw
                      case rel => exact ⟨i + 1, by go_num, by omega, Lib.hid ⟨by rw [HE.out]; exact H.out.1, H.out.2⟩⟩
                      case measure => simp [intOf]; omega
                · obtain rfl : i = l.length := by omega
                  have hxo : OwR wq w1.heap.size (.slice (some ⟨g, 0, none⟩) l.length cap) X := by
                    have h := H.out.1
                    rw [mixI_all l X HX.out.2] at h
                    unfold OwR
                    rw [HX.out.2]; exact h
                  obtain ⟨Ax, cx, ex, hxi⟩ := hxo.inR
                  rw [HX.out.2] at ex
                  injection ex with ex1 ex2 ex3
                  subst ex1
                  subst ex3
                  have XI := Lib.hid hxi
                  have HB0 := Lib.hid (H1.out.trans (H.out.2.mono (Nat.le_of_lt hb1)))
                  have hc1 : winC l (K : Nat) = 0 := by have := HKT.out; unfold winC; rw [if_pos ⟨by omega, by omega⟩, if_neg (by omega)]
                  have hc2 : winC X (K : Nat) = 0 := by have := HKT.out; have := HX.out.2; unfold winC; rw [if_pos ⟨by omega, by omega⟩, if_neg (by omega)]
                  have HW1 := WinnowW' l (some ⟨b, o, none⟩) c (K : Nat) wq (HI.out.below HB0.out)
                  have HW2 := fun W (h : InR W (some ⟨g, 0, none⟩) cap X) => WinnowW' X (some ⟨g, 0, none⟩) cap (K : Nat) W h
                  rw [hc1] at HW1
                  rw [hc2, HX.out.2] at HW2
                  have hm1 := mem_winV (h := l) (K := K) (T := T) (by have := HKT.out; omega) (by have := HKT.out; omega) (by omega) (by have := HKT.out; omega)
                  have hm2 := mem_winV (h := X) (K := K) (T := T) (by have := HKT.out; omega) (by have := HKT.out; omega) (by have := HX.out.2; omega) (by have := HKT.out; have := HX.out.2; omega)
                  have hiff : (∃ m ∈ winV l (K : Nat), m.f1 = ((T : Nat) : Int)) ↔ ∃ m ∈ winV X (K : Nat), m.f1 = ((T : Nat) : Int) := by
                    have hk := HKT.out
                    have hx := HX.out
                    rw [hm1, hm2]
                    constructor
                    · exact mem_local (by omega) hx.2.symm (fun q h1 h2 => by rw [← hx.1]; exact mixL_near l ot K T q (by omega) h1 h2)
                    · exact mem_local (by omega) hx.2 (fun q h1 h2 => by rw [← hx.1]; exact (mixL_near l ot K T q (by omega) h1 h2).symm)
                  have HIFF := Lib.hid hiff
                  have hL1 := winV_len l (K : Nat)
                  have hL2 := winV_len X (K : Nat)
                  obtain ⟨V1, hV1⟩ : ∃ V1, winV l (K : Nat) = V1 := ⟨_, rfl⟩
                  obtain ⟨V2, hV2⟩ : ∃ V2, winV X (K : Nat) = V2 := ⟨_, rfl⟩
                  rw [hV1] at HW1 hL1 HIFF
                  rw [hV2] at HW2 hL2 HIFF
                  have HW1 := Lib.hid HW1
                  have HW2 := Lib.hid HW2
                  clear hm1 hm2 hiff hV1 hV2 hc1 hc2 hxo hxi
                  go_wp2_with fail
                  refine HW1.out.mono ?_
                  rintro e w5 ⟨⟨A5, c5, rfl, i5⟩, h5⟩
                  have H5 := Lib.hid h5
                  have I5 := Lib.hid i5
                  clear h5 i5
                  go_wp2_with fail
                  refine (HW2.out w5 (XI.out.below H5.out)).mono ?_
                  rintro e w6 ⟨⟨A6, c6, rfl, i6⟩, h6⟩
                  have I5 := Lib.hid (I5.out.below h6)
                  have I6 := Lib.hid i6
                  have H6 := Lib.hid (H5.out.trans (h6.mono H5.out.size))
                  have q7 := (H6.out.cell (p := ⟨w.heap.size, 0, none⟩) (Nat.lt_of_lt_of_le hb1 H.out.2.size)).trans ((H.out.2.cell (p := ⟨w.heap.size, 0, none⟩) hb1).trans HC1.out)
                  have Q7 := Lib.hid q7
                  clear h6 i6 q7
                  go_wp2_with fail
                  refine (ChosenW V1 A5 c5 w.heap.size (T : Nat) w6 (by omega) I5.out Q7.out).mono ?_
                  rintro e w7 ⟨⟨r1, rfl, hr1⟩, h7⟩
                  have I6 := Lib.hid (I6.out.below h7)
                  have Q7 := Lib.hid ((h7.cell (p := ⟨w.heap.size, 0, none⟩) (World.block_lt_of_cell? w6 _ Q7.out)).trans Q7.out)
                  have H7 := Lib.hid (H6.out.trans (h7.mono H6.out.size))
                  have R1 := Lib.hid hr1
                  clear h7 hr1
                  go_wp2_with fail
                  refine (ChosenW V2 A6 c6 w.heap.size (T : Nat) w7 (by omega) I6.out Q7.out).mono ?_
                  rintro e w8 ⟨⟨r2, rfl, hr2⟩, h8⟩
                  obtain rfl : r2 = r1 := by
                    rw [Bool.eq_iff_iff, hr2, R1.out]; exact HIFF.out.symm
                  have H8 := Lib.hid (H7.out.trans (h8.mono H7.out.size))
                  clear h8 hr2
                  go_wp2_with fail
                  go_ret
                  exact ⟨rfl, HB0.out.trans (H8.out.mono HB0.out.size)⟩
end Go.Proofs.YtpkjiimcoepjpaaDoor
