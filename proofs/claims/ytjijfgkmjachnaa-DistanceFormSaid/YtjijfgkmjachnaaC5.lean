/- Seat 37, texts merged: the walk of subtrees. Lemmas for the laws of chapter 37; no conditions of their own beyond what each states. -/
import Derived.Test.YtjijfgkmjachnaaC4
import Derived.Test.YtjijfgkmjachnaaC3
import Derived.Shelf.SlIterI.Sorted
import Derived.Shelf.SlIter.AllValues
import Derived.Test.YtjijfgkmjachnaaShelf
namespace Go.Proofs.Ytjijfgkmjachnaa
set_option linter.unusedVariables false
set_option linter.unusedSimpArgs false
open Go.RowKit Go.Shelf Go.Maps Go.Sort
attribute [local go_sem] Oper.semAt_some

def ValI {H : Type} (D0 : DataW H) (p : Int × Int) : Prop := ∀ zd, D0.atKey (.int .i64 p.1) zd = .lit (.int .i64 p.2)
def AllI {H : Type} (D0 : DataW H) (ps : List (Int × Int)) : Prop :=
  (ps.map (·.1)).Perm (intKeys D0) ∧ (ps.map (·.1)).Nodup ∧ (∀ x, x ∈ ps.map (·.1) ↔ has D0 (.int .i64 x) = true) ∧ ∀ p ∈ ps, ValI D0 p

set_option maxRecDepth 100000 in
set_option maxHeartbeats 1000000 in
theorem values1_in {H : Type} (n : Nat) (hn : 1 ≤ n) (l Bm b nn : Nat) (D0 : DataW H) (J : List Int → World → Prop)
    (hY : ∀ pre x W, J pre W → pre.length < Maps.size D0 → YieldAt FW (n - 1) Try.prog l #[encZ x] W fun e W' =>
      (e = .returned (.bool true) ∧ J (pre ++ [x]) W' ∧ KeepsWalks W W'))
    (W : World) (hJ : AbidesFrom W.heap.size J) (hm : W.cell? ⟨Bm, 0, none⟩ = some (.map (some b))) (hown : W.ownsMap Try.prog 3 (plainElem Try.prog 3) b nn D0) (h0 : J [] W) :
    CallsIn FW n Try.prog 53 #[.func (.yield l) #[] #[], .pointer (some ⟨Bm, 0, none⟩)] W fun e W' => (∃ v, e = .returned v) ∧
      (∃ xs, (∃ ps, AllI D0 ps ∧ xs = ps.map (·.2)) ∧ J xs W') := by
  refine callsIn_of_wp Try.func53 rfl trivial ?_ rfl
  simp only [Try.ntmps53, List.size_toArray, List.length_cons, List.length_nil, Nat.reduceAdd, Nat.reduceSub, Array.replicate_succ, Array.replicate_zero, List.push_toArray, List.append_toArray, List.nil_append, List.cons_append]
  gi_wp2_with (first
    | (gi_at_range; refine wpListIn_range_own _ rfl _ 84 rfl 3 3 (int_keyed Try.underlying3) Try.underlying84 _ b nn _ rfl hown ?_; intro w0 hrg0 hg0 hs0)
    | fail)
  go_frame
  gi_loopw [4] (fun _ wr => ∃ (left : Lit → Bool) (cnt : Nat) (ps : List (Int × Int)), wr.ranges Try.prog 3 (plainElem Try.prog 3) b W.heap.size nn D0 left cnt ∧ ps.length + cnt ≤ Maps.size D0 ∧ CollectedI D0 left (ps.map (·.1)) ∧ (∀ p ∈ ps, ValI D0 p) ∧ J (ps.map (·.2)) wr)
    (fun _ wr => wr.rangeLeft b W.heap.size)
  case atStart =>
    exact ⟨_, _, [], hrg0, by simp, CollectedI.start D0, by simp, hJ [] W w0 none h0 hg0 (fun r e => by cases e)⟩
  case round =>
    obtain ⟨left, cnt, ps, hrg, hcs, hC, hV, hJs⟩ := hrel
    gi_wp2_with (first
      | (gi_at_next; refine wpListIn_next_ranges _ rfl _ rfl 3 (int_keyed Try.underlying3) (plainElem Try.prog 3) encZ (Value.int .i64) (fun key kl hk => by obtain ⟨x, hx, _⟩ := Maps.keyOf_i64 Try.underlying3 hk; exact ⟨x, hx⟩) (fun v y hv => by obtain ⟨c, rfl, _⟩ := plainElem_int_inv Try.underlying3 hv; exact ⟨c, rfl⟩) b W.heap.size nn _ _ _ rfl hrg ?_ ?_)
      | fail)
    · intro hc0 hl0
      gi_wp2_with fail
      go_end0
      exact ⟨⟨_, rfl⟩, _, ⟨ps, ⟨hC.perm hown (int_keyed Try.underlying3) Try.underlying3 hl0, hC.1, fun x => by rw [hC.2 x, hl0]; simp, hV⟩, rfl⟩, hJs⟩
    · intro x c kl yd yp w2 cnt2 hkey hlk hv hat hrg2 hlt hg2 hs2 hen
      obtain ⟨x', ex, rfl, _⟩ := Maps.keyOf_i64 Try.underlying3 hkey
      obtain rfl : x = x' := encZ_inj ex
      obtain ⟨c', ec, ez, _⟩ := plainElem_int_inv Try.underlying3 hv
      obtain rfl : c = c' := by simpa using ec
      obtain rfl : yd = .lit (.int .i64 c) := (Prod.mk.inj ez).1
      have hJ2 : J (ps.map (·.2)) w2 := hJ _ wr w2 (some W.heap.size) hJs hg2 (fun r e => by cases e; exact ⟨Nat.le_refl _, hrg.iter_walk⟩)
      obtain ⟨fn, tmps, assign, body, hy, hR⟩ := hY (ps.map (·.2)) c w2 hJ2 (by simp; omega)
      clear hs2
      gi_wp2_with fail
      refine hR.mono ?_
      have hC2 : CollectedI D0 (fun z => left z && !z.sameKey (.int .i64 x)) ((ps ++ [(x, c)]).map (·.1)) := by simpa using hC.step hlk hat
      have hV2 : ∀ p ∈ ps ++ [(x, c)], ValI D0 p := fun p hp => (List.mem_append.1 hp).elim (hV p) (fun e => by simp at e; subst e; exact hat)
      rintro e W3 ⟨rfl, hJ3, hk3⟩
      gi_wp2_with fail
      have hrg3 := hrg2.of_walks hk3
      go_roundw
      case rel => exact ⟨_, cnt2, ps ++ [(x, c)], hrg3, by simp; omega, hC2, hV2, by simpa using hJ3⟩
      case measure => rw [hrg3.left_eq, hrg.left_eq]; exact hlt

theorem values_in (n : Nat) (mb : Option Nat) (w : World) :
    CallsIn FW n Try.prog 48 #[.map mb] w fun e w' => e = .returned (.func (.func 53) #[] #[.pointer (some ⟨w.heap.size, 0, none⟩)]) ∧ w' = w.alloc (.cells #[.map mb] 84) := by
  refine callsIn_of_wp Try.func48 rfl trivial ?_ rfl
  simp only [Try.ntmps48, List.size_toArray, List.length_cons, List.length_nil, Nat.reduceAdd, Nat.reduceSub, Array.replicate_succ, Array.replicate_zero, List.push_toArray, List.append_toArray, List.nil_append, List.cons_append]
  gi_wp2_with fail
  go_ret
  exact ⟨rfl, rfl⟩

theorem values_gives {H : Type} (n : Nat) (hn : 1 ≤ n) (Bm b nn : Nat) (D0 : DataW H) (w : World) (hBm : Bm < w.heap.size)
    (hm : w.cell? ⟨Bm, 0, none⟩ = some (.map (some b))) (hown : w.ownsMap Try.prog 3 (plainElem Try.prog 3) b nn D0) :
    SeqGives FW n Try.prog 53 #[.pointer (some ⟨Bm, 0, none⟩)] encZ (fun xs => ∃ ps, AllI D0 ps ∧ xs = ps.map (·.2)) (Maps.size D0) w := fun l J W hW hJ hY h0 => by
  have hown' : W.ownsMap Try.prog 3 (plainElem Try.prog 3) b nn D0 := by
    have hbl := hown.lt
    obtain ⟨es, clock, hb, Ft, hs, hD⟩ := hown
    exact ⟨es, clock, (hW.block b hbl).trans hb, Ft, hs, hD⟩
  exact values1_in n hn l Bm b nn D0 J hY W hJ ((hW.cell (p := ⟨Bm, 0, none⟩) hBm).trans hm) hown' h0
end Go.Proofs.Ytjijfgkmjachnaa

namespace Go.Proofs.Ytjijfgkmjachnaa
set_option linter.unusedVariables false
set_option linter.unusedSimpArgs false
open Go.RowKit Go.Shelf Go.Maps Go.Sort

theorem sortsIn (m : Nat) : AnyZI.SortsIn Try.prog Try.laysSorted_ren Fence.wide m :=
  ⟨fun blk off cap ss W hH hblk hsz => callsIn_wide.2 (Try.slices_Sort_int blk off cap ss W hH hblk hsz),
   fun p cap W => callsIn_wide.2 (Try.slices_Sort_int_none p cap W)⟩

theorem values_any (mb : Option Nat) (w : World) :
    Calls Try.prog 48 #[.map mb] w fun e w' => e = .returned (.func (.func 53) #[] #[.pointer (some ⟨w.heap.size, 0, none⟩)]) ∧ w' = w.alloc (.cells #[.map mb] 84) :=
  (callsIn_wide (n := 5)).1 (values_in 5 mb w)

theorem sorted_any {H : Type} (Bm b nn : Nat) (D0 : DataW H) (w : World) (hBm : Bm < w.heap.size)
    (hm : w.cell? ⟨Bm, 0, none⟩ = some (.map (some b))) (hown : w.ownsMap Try.prog 3 (plainElem Try.prog 3) b nn D0) (hmax : Maps.size D0 ≤ 1000000) :
    Calls Try.prog 47 #[.func (.func 53) #[] #[.pointer (some ⟨Bm, 0, none⟩)]] w fun e w' => ∃ (v : Value) (ss : List Int), e = .returned v ∧ (∃ ps, AllI D0 ps ∧ ss = ps.map (·.2)) ∧
      w'.ownsRow w.heap.size 3 1 v ss.length ((ss.mergeSort (fun x y => decide (x ≤ y))).map encZ) ∧ Below w.heap.size w w' := by
  have hseq := values_gives (n := 2) (by omega) Bm b nn D0 w hBm hm hown
  have cS := AnyZI.sorted_in Try.laysSorted Fence.wide 5 trivial trivial trivial trivial rfl (by omega) (sortsIn _) (enters_of Try.func52 (by kernel_rfl) rfl) 53 #[.pointer (some ⟨Bm, 0, none⟩)] trivial (enters_of Try.func53 (by kernel_rfl) rfl) _ _ (by simp only [maxLen]; omega) (by omega) _ hseq
  refine ((callsIn_wide (n := 5)).1 cS).mono ?_
  rintro e w' ⟨v, ss, h1, h2, h3, h4, h5⟩
  exact ⟨v, ss, h1, h2, h3, h5⟩

/-- A value that is a slice of the ints R. -/
structure Ints (w : World) (lo : Nat) (v : Value) (R : List Int) : Prop where
  val : ∃ A c, v = .slice A R.length c ∧ (R = [] ∨ ∃ g, A = some ⟨g, 0, none⟩ ∧ lo ≤ g ∧ ∀ i, i < R.length → w.cell? ⟨g, i, none⟩ = some (.int .i64 (R.getD i 0)))

theorem ints_of_row {w : World} {base : Nat} {v : Value} {R : List Int} (h : w.ownsRow base 3 1 v R.length (R.map encZ)) : Ints w base v R := by
  obtain ⟨h1, h⟩ := h
  rcases h with ⟨rfl, h0⟩ | ⟨g, cap, cur, rfl, hg, hc, hle, _, hsz, hcur⟩
  · have hR : R = [] := List.length_eq_zero_iff.1 h0
    subst hR
    exact ⟨none, 0, rfl, .inl rfl⟩
  · refine ⟨_, cap, rfl, .inr ⟨g, rfl, hg, fun i hi => ?_⟩⟩
    unfold World.cell?
    rw [hc]
    have : cur.toList[i]? = some (encZ (R.getD i 0)) := by
      have h2 : (cur.toList.take (R.length * 1))[i]? = some (encZ (R.getD i 0)) := by
        rw [hcur, List.getElem?_map, List.getElem?_eq_getElem hi]; simp [List.getD, hi]
      rw [List.getElem?_take] at h2
      simpa [hi] using h2
    simpa using this

theorem Ints.mono {w : World} {lo lo' : Nat} {v : Value} {R : List Int} (h : Ints w lo v R) (hl : lo' ≤ lo) : Ints w lo' v R := by
  obtain ⟨A, c, e, h⟩ := h.val
  exact ⟨A, c, e, h.imp id (fun ⟨g, a, b, d⟩ => ⟨g, a, by omega, d⟩)⟩

/-- R are the roots: strictly up; the last place of each value of lf. -/
def IsRoots (xs : List Ent) (n : Nat) (R : List Int) : Prop :=
  R.Pairwise (· < ·) ∧ ∀ i : Int, i ∈ R ↔ ∃ k : Nat, i = k ∧ k < n ∧ ∀ j, k < j → j < n → lf xs j ≠ lf xs k

def RootMap {H : Type} (xs : List Ent) (k : Nat) (D : DataW H) : Prop :=
  (∀ x : Int, has D (.int .i64 x) = true ↔ ∃ i : Nat, i < k ∧ x = lf xs i) ∧
  (∀ i : Nat, i < k → (∀ j, i < j → j < k → lf xs j ≠ lf xs i) → ∀ zd, D.atKey (.int .i64 (lf xs i)) zd = .lit (.int .i64 i))

theorem rootMap_nil {H : Type} (xs : List Ent) : RootMap xs 0 (.map [] : DataW H) :=
  ⟨fun x => by constructor
               · intro h; simp [has, DataW.atKey] at h
               · rintro ⟨i, hi, _⟩; omega, fun i hi => by omega⟩

theorem rootMap_put {H : Type} {xs : List Ent} {k : Nat} {D : DataW H} (h : RootMap xs k D) (hD : IsMap D) : RootMap xs (k + 1) (D.put (.int .i64 (lf xs k)) (.lit (.int .i64 k))) := by
  obtain ⟨h1, h2⟩ := h
  refine ⟨fun x => ?_, fun i hi hl zd => ?_⟩
  · by_cases hx : x = lf xs k
    · subst hx
      rw [has_put_same hD (by simp [WideAt.IsKeyLit])]
      exact ⟨fun _ => ⟨k, by omega, rfl⟩, fun _ => rfl⟩
    · rw [has_put_other (by simpa using hx), h1]
      constructor
      · rintro ⟨i, hi, e⟩; exact ⟨i, by omega, e⟩
      · rintro ⟨i, hi, e⟩
        refine ⟨i, ?_, e⟩
        rcases Nat.lt_or_ge i k with h | h
        · exact h
        · exact absurd (show x = lf xs k by rw [e, show i = k by omega]) hx
  · rcases Nat.lt_or_ge i k with h | h
    · have hne : lf xs k ≠ lf xs i := hl k h (by omega)
      rw [atKey_put_other (by simp; omega)]
      exact h2 i h (fun j hj hjk => hl j hj (by omega)) zd
    · obtain rfl : i = k := by omega
      rw [atKey_put_same hD (by simp [WideAt.IsKeyLit])]

/-- among the indices below n with the same lf as i there is a last one. -/
theorem exists_last (xs : List Ent) (n : Nat) : ∀ (d i : Nat), n - i ≤ d → i < n → ∃ k, k < n ∧ i ≤ k ∧ lf xs k = lf xs i ∧ ∀ j, k < j → j < n → lf xs j ≠ lf xs k
  | 0, i, h, hi => by omega
  | d + 1, i, h, hi => by
    by_cases hq : ∃ j, i < j ∧ j < n ∧ lf xs j = lf xs i
    · obtain ⟨j, h1, h2, h3⟩ := hq
      obtain ⟨k, a, b, c, e⟩ := exists_last xs n d j (by omega) h2
      exact ⟨k, a, by omega, by rw [c, h3], e⟩
    · exact ⟨i, hi, Nat.le_refl _, rfl, fun j hj hjn hl => hq ⟨j, hj, hjn, hl⟩⟩

theorem roots_of {H : Type} {xs : List Ent} {n : Nat} {D : DataW H} (h : RootMap xs n D) {ps : List (Int × Int)} (hA : AllI D ps) :
    IsRoots xs n ((ps.map (·.2)).mergeSort (fun x y => decide (x ≤ y))) := by
  obtain ⟨h1, h2⟩ := h
  obtain ⟨_, hnd, hmem, hval⟩ := hA
  have hp : ∀ p ∈ ps, ∃ k : Nat, k < n ∧ p = (((lf xs k : Nat) : Int), (k : Int)) ∧ ∀ j, k < j → j < n → lf xs j ≠ lf xs k := by
    intro p hp
    obtain ⟨i, hi, e⟩ := (h1 p.1).1 ((hmem p.1).1 (List.mem_map.2 ⟨p, hp, rfl⟩))
    obtain ⟨k, k1, k2, k3, k4⟩ := exists_last xs n _ i (Nat.le_refl _) hi
    have hv := hval p hp
    have ha := h2 k k1 k4
    refine ⟨k, k1, ?_, k4⟩
    have e1 : p.1 = (lf xs k : Nat) := by rw [e, k3]
    have := hv (.lit (.int .i64 0))
    rw [e1, ha] at this
    simp at this
    exact Prod.ext e1 this.symm
  have hnd2 : (ps.map (·.2)).Nodup := by
    rw [List.Nodup, List.pairwise_map] at hnd ⊢
    refine hnd.imp_of_mem ?_
    intro a b ha hb hne e
    obtain ⟨k, _, rfl, _⟩ := hp a ha
    obtain ⟨l, _, rfl, _⟩ := hp b hb
    apply hne
    have : k = l := by simp at e; omega
    rw [this]
  have tr : ∀ a b c : Int, decide (a ≤ b) = true → decide (b ≤ c) = true → decide (a ≤ c) = true := fun a b c h1 h2 => by simp only [decide_eq_true_eq] at *; omega
  have to : ∀ a b : Int, (decide (a ≤ b) || decide (b ≤ a)) = true := fun a b => by simp only [Bool.or_eq_true, decide_eq_true_eq]; omega
  have hperm := List.mergeSort_perm (ps.map (·.2)) (fun x y => decide (x ≤ y))
  have hs := List.pairwise_mergeSort tr to (ps.map (·.2))
  refine ⟨?_, fun i => ?_⟩
  · have hn3 := hperm.nodup_iff.2 hnd2
    refine (hs.and hn3).imp ?_
    rintro a b ⟨h1, h2⟩
    simp only [decide_eq_true_eq] at h1
    omega
  · rw [hperm.mem_iff, List.mem_map]
    constructor
    · rintro ⟨p, hpm, rfl⟩
      obtain ⟨k, k1, rfl, k2⟩ := hp p hpm
      exact ⟨k, rfl, k1, k2⟩
    · rintro ⟨k, rfl, k1, k2⟩
      obtain ⟨p, hpm, e⟩ := List.mem_map.1 ((hmem (lf xs k : Nat)).2 ((h1 _).2 ⟨k, k1, rfl⟩))
      refine ⟨p, hpm, ?_⟩
      have := hval p hpm (.lit (.int .i64 0))
      rw [e, h2 k k1 k2] at this
      simp at this
      exact this.symm
end Go.Proofs.Ytjijfgkmjachnaa

namespace Go.Proofs.Ytjijfgkmjachnaa
set_option linter.unusedVariables false
set_option linter.unusedSimpArgs false
open Go.RowKit Go.Shelf Go.Maps

set_option maxRecDepth 100000 in
set_option maxHeartbeats 2000000 in
theorem roots (xs : List Ent) (n : Nat) (hn : n ≤ 1000000) (w : World) (gL gF gN cL cF cN : Nat) (F : Flat w xs n gL gF gN) (hlf : ∀ i, i < n → lf xs i ≤ 1000000) :
    Calls Try.prog 42 #[.agg #[.slice (some ⟨gL, 0, none⟩) n cL, .slice (some ⟨gF, 0, none⟩) n cF, .slice (some ⟨gN, 0, none⟩) n cN]] w fun e w' =>
      ∃ v R, e = .returned v ∧ Ints w' w.heap.size v R ∧ IsRoots xs n R ∧ Below w.heap.size w w' := by
  have HF := Lib.hid F.lef
  have HL := Lib.hid hlf
  clear F hlf
  have hmm := @run_makeMap Try.prog
  go_enter Try.func42, Try.ntmps42
  go_wp2_with fail
  obtain ⟨W0, hW0⟩ : ∃ W0, (w.alloc (.cells #[.slice (some ⟨gL, 0, none⟩) n cL, .slice (some ⟨gF, 0, none⟩) n cF, .slice (some ⟨gN, 0, none⟩) n cN] 66)) = W0 := ⟨_, rfl⟩
  have hb0 : Below w.heap.size w W0 := by rw [← hW0]; exact (Below.refl _ _).alloc (Nat.le_refl _) _
  have hs0 : W0.heap.size = w.heap.size + 1 := by rw [← hW0]; simp
  rw [hW0]
  have HS := Lib.hid hs0
  clear hW0 hs0
  go_loopw [4, 5, 10] (fun _ _ s wr => ∃ (k : Nat) (D : DataW Nat), s = .int .i64 k ∧ k ≤ n ∧ wr.ownsMap Try.prog 3 (plainElem Try.prog 3) (w.heap.size + 1) k D ∧ RootMap xs k D ∧ Below w.heap.size w wr)
    (fun _ _ s _ => n - (intOf s).toNat)
  case atStart =>
    exact ⟨0, .map [], rfl, Nat.zero_le _, HS.out ▸ World.ownsMap_made W0 _ _ _, rootMap_nil xs, hb0.alloc (by have := HS.out; omega) _⟩
  case round =>
    obtain ⟨k, D, rfl, hk, hown, hrm, hb⟩ := hrel
    by_cases hlt : k < n
    · have hfk := (hb.cell (p := ⟨gF, k, none⟩) (World.block_lt_of_cell? w _ (HF.out k hlt))).trans (HF.out k hlt)
      have hkn : (k : Int) < n := by omega
      have hl := HL.out k hlt
      have HM := Lib.hid hrm
      have HO := Lib.hid hown
      clear hrm hown
      have hwf : (Lit.int .i64 (lf xs k : Nat)).wf = true := WalkArith.wf_i64 (by omega)
      have hwk : (Lit.int .i64 k).wf = true := WalkArith.wf_i64 (by omega)
      have hkey : keyOf Try.prog 3 (.int .i64 (lf xs k : Nat)) = some (.int .i64 (lf xs k : Nat)) := keyOf_int_mk Try.underlying3 hwf
      have HK := Lib.hid hkey
      have HW := Lib.hid hwk
      clear hwf hwk hkey
      go_wp2_with (first
        | (at_mapUpdate; refine wpList_mapUpdate_own _ rfl _ _ _ 84 rfl 3 3 (int_keyed Try.underlying3) Try.underlying84 _ (w.heap.size + 1) k _ rfl HO.out (by simp only [maxLen]; omega) _ _ _ rfl rfl HK.out _ [] (plainElem_int Try.underlying3 HW.out) ?_; intro w1 hown1 hgrow1)
        | fail)
      have hb1 : Below w.heap.size w w1 := hb.grown hgrow1 hb.size (fun j hj => by cases hj; have := HS.out; omega)
      go_roundw
      case rel => exact ⟨k + 1, _, by go_num, by omega, hown1, rootMap_put HM.out HO.out.isMap, hb1⟩
      case measure => simp [intOf]; omega
    · obtain rfl : k = n := by omega
      have HM := Lib.hid hrm
      have HO := Lib.hid hown
      clear hrm hown
      go_wp2_with fail
      refine (values_any _ _).mono ?_
      rintro e w' ⟨rfl, rfl⟩
      go_wp2_with fail
      have hown' : (wr.alloc (.cells #[.map (some (w.heap.size + 1))] 84)).ownsMap Try.prog 3 (plainElem Try.prog 3) (w.heap.size + 1) k D := HO.out.alloc _
      refine (sorted_any wr.heap.size (w.heap.size + 1) k D _ (by simp) (by simp) hown' (by have := HO.out.size_le; omega)).mono ?_
      rintro e w' ⟨v, ss, rfl, ⟨ps, hA, rfl⟩, hrow, hbl⟩
      go_wp2_with fail
      go_ret
      refine ⟨v, _, rfl, (ints_of_row (base := (wr.alloc (.cells #[.map (some (w.heap.size + 1))] 84)).heap.size) (by simpa using hrow)).mono (by have := hb.size; simp; omega), roots_of HM.out hA, (hb.alloc hb.size _).trans (hbl.mono (by have := hb.size; simp; omega))⟩
end Go.Proofs.Ytjijfgkmjachnaa

namespace Go.Proofs.Ytjijfgkmjachnaa
set_option linter.unusedVariables false
set_option linter.unusedSimpArgs false

def rx (R : List Int) (r : Nat) : Nat := (R.getD r 0).toNat
theorem rx_mem {R : List Int} {r : Nat} (h : r < R.length) : R.getD r 0 ∈ R := by simp [List.getD, h]
theorem rx_spec {xs : List Ent} {R : List Int} (hR : IsRoots xs xs.length R) {r : Nat} (h : r < R.length) : R.getD r 0 = (rx R r : Nat) ∧ rx R r < xs.length ∧ Last xs (rx R r) := by
  obtain ⟨k, e, hk, hl⟩ := (hR.2 _).1 (rx_mem h)
  have : rx R r = k := by unfold rx; omega
  rw [this]
  exact ⟨e, hk, hl⟩
theorem rx_find {xs : List Ent} {R : List Int} (hR : IsRoots xs xs.length R) {k : Nat} (hk : k < xs.length) (hl : Last xs k) : ∃ j, j < R.length ∧ rx R j = k := by
  obtain ⟨j, hj, e⟩ := List.getElem_of_mem ((hR.2 k).2 ⟨k, rfl, hk, hl⟩)
  refine ⟨j, hj, ?_⟩
  unfold rx
  simp [List.getD, hj, e]
theorem rx_lt {xs : List Ent} {R : List Int} (hR : IsRoots xs xs.length R) {j r : Nat} (hj : j < R.length) (hr : r < R.length) (h : rx R j < rx R r) : j < r := by
  rcases Nat.lt_or_ge j r with h' | h'
  · exact h'
  · exfalso
    have h1 := (rx_spec hR hj).1
    have h2 := (rx_spec hR hr).1
    rcases Nat.eq_or_lt_of_le h' with h3 | h3
    · subst h3; omega
    · have := (List.pairwise_iff_getElem.1 hR.1) r j hr hj h3
      simp only [List.getD, List.getElem?_eq_getElem hj, List.getElem?_eq_getElem hr, Option.getD_some] at h1 h2
      omega
theorem rx_mono {xs : List Ent} {R : List Int} (hR : IsRoots xs xs.length R) {j r : Nat} (hr : r < R.length) (h : j < r) : rx R j < rx R r := by
  have hj : j < R.length := by omega
  have h1 := (rx_spec hR hj).1
  have h2 := (rx_spec hR hr).1
  have := (List.pairwise_iff_getElem.1 hR.1) j r hj hr h
  simp only [List.getD, List.getElem?_eq_getElem hj, List.getElem?_eq_getElem hr, Option.getD_some] at h1 h2
  omega

theorem rx_ge {xs : List Ent} {R : List Int} (hR : IsRoots xs xs.length R) : ∀ {j : Nat}, j < R.length → j ≤ rx R j
  | 0, _ => Nat.zero_le _
  | j + 1, h => by
    have h1 := rx_ge hR (j := j) (by omega)
    have h2 := rx_mono hR h (Nat.lt_succ_self j)
    omega
theorem roots_len {xs : List Ent} {R : List Int} (hR : IsRoots xs xs.length R) : R.length ≤ xs.length := by
  rcases Nat.eq_zero_or_pos R.length with h | h
  · omega
  · have h1 := rx_ge hR (j := R.length - 1) (by omega)
    have h2 := (rx_spec hR (r := R.length - 1) (by omega)).2.1
    omega

def DoneO (xs ys : List Ent) (R : List Int) (r : Nat) (D : Nat → Nat → Int) : Prop :=
  ∀ s t, s < xs.length → t < ys.length → (∃ j, j < r ∧ lf xs s = lf xs (rx R j)) → D s t = td (nd xs s) (nd ys t)
def DoneI (xs ys : List Ent) (S : List Int) (i q : Nat) (D : Nat → Nat → Int) : Prop :=
  ∀ s t, s < xs.length → t < ys.length → lf xs s = lf xs i → (∃ j, j < q ∧ lf ys t = lf ys (rx S j)) → D s t = td (nd xs s) (nd ys t)
def fillD (xs ys : List Ent) (i k : Nat) (F D : Nat → Nat → Int) : Nat → Nat → Int :=
  fun s t => if lf xs i ≤ s ∧ s ≤ i ∧ lf ys k ≤ t ∧ t ≤ k ∧ lf xs s = lf xs i ∧ lf ys t = lf ys k then F (s - lf xs i + 1) (t - lf ys k + 1) else D s t

theorem fill_step {xs ys : List Ent} (hx : Good xs) (hy : Good ys) {R S : List Int} (hR : IsRoots xs xs.length R) (hS : IsRoots ys ys.length S) {r q : Nat} (hr : r < R.length) (hq : q < S.length) {D F : Nat → Nat → Int}
    (hF : Rec xs ys (rx R r) (rx S q) D F) (hO : DoneO xs ys R r D) (hI : DoneI xs ys S (rx R r) q D) :
    DoneO xs ys R r (fillD xs ys (rx R r) (rx S q) F D) ∧ DoneI xs ys S (rx R r) (q + 1) (fillD xs ys (rx R r) (rx S q) F D) := by
  obtain ⟨_, hi, hli⟩ := rx_spec hR hr
  obtain ⟨_, hk, hlk⟩ := rx_spec hS hq
  have key := table_td hx hy hi hk hF (fun s t h1 h2 h3 h4 h5 => by
    by_cases hs : lf xs s = lf xs (rx R r)
    · have ht : lf ys t ≠ lf ys (rx S q) := h5.resolve_left (fun h => h hs)
      obtain ⟨k', a, b, c⟩ := last_of (xs := ys) (s := t) (by omega)
      have hlt := root_before hy hk h3 h4 ht a b
      obtain ⟨j, hj, e⟩ := rx_find hS a c
      exact hI s t (by omega) (by omega) hs ⟨j, rx_lt hS hj hq (by omega), by rw [e, b]⟩
    · obtain ⟨k', a, b, c⟩ := last_of (xs := xs) (s := s) (by omega)
      have hlt := root_before hx hi h1 h2 hs a b
      obtain ⟨j, hj, e⟩ := rx_find hR a c
      exact hO s t (by omega) (by omega) ⟨j, rx_lt hR hj hr (by omega), by rw [e, b]⟩)
  have upd : ∀ s t, s < xs.length → t < ys.length → (D s t = td (nd xs s) (nd ys t) ∨ (lf xs s = lf xs (rx R r) ∧ lf ys t = lf ys (rx S q))) → fillD xs ys (rx R r) (rx S q) F D s t = td (nd xs s) (nd ys t) := by
    intro s t hs ht h
    unfold fillD
    split
    · rename_i hc
      exact key s t hc.1 hc.2.1 hc.2.2.1 hc.2.2.2.1 hc.2.2.2.2.1 hc.2.2.2.2.2
    · rename_i hc
      rcases h with h | ⟨h1, h2⟩
      · exact h
      · exfalso
        obtain ⟨a, b⟩ := last_le hx hli hs h1
        obtain ⟨c, d⟩ := last_le hy hlk ht h2
        exact hc ⟨a, b, c, d, h1, h2⟩
  refine ⟨fun s t hs ht hj => upd s t hs ht (.inl (hO s t hs ht hj)), fun s t hs ht h1 ⟨j, hj, h2⟩ => upd s t hs ht ?_⟩
  rcases Nat.lt_or_ge j q with h | h
  · exact .inl (hI s t hs ht h1 ⟨j, h, h2⟩)
  · exact .inr ⟨h1, by rw [h2, show j = q by omega]⟩

theorem inner_end {xs ys : List Ent} {R S : List Int} (hS : IsRoots ys ys.length S) {r : Nat} {D : Nat → Nat → Int} (hO : DoneO xs ys R r D) (hI : DoneI xs ys S (rx R r) S.length D) : DoneO xs ys R (r + 1) D := by
  rintro s t hs ht ⟨j, hj, e⟩
  rcases Nat.lt_or_ge j r with h | h
  · exact hO s t hs ht ⟨j, h, e⟩
  · obtain ⟨k', a, b, c⟩ := last_of ht
    obtain ⟨l, hl, e'⟩ := rx_find hS a c
    exact hI s t hs ht (by rw [e, show j = r by omega]) ⟨l, hl, by rw [e', b]⟩
theorem outer_end {xs ys : List Ent} {R : List Int} (hR : IsRoots xs xs.length R) {D : Nat → Nat → Int} (hO : DoneO xs ys R R.length D) {s t : Nat} (hs : s < xs.length) (ht : t < ys.length) : D s t = td (nd xs s) (nd ys t) := by
  obtain ⟨k', a, b, c⟩ := last_of hs
  obtain ⟨l, hl, e'⟩ := rx_find hR a c
  exact hO s t hs ht ⟨l, hl, by rw [e', b]⟩
end Go.Proofs.Ytjijfgkmjachnaa

namespace Go.Proofs.Ytjijfgkmjachnaa
set_option linter.unusedVariables false
set_option linter.unusedSimpArgs false
open Go.RowKit

/-- a tree, flattened -/
def Fl (W : World) (t : Nd) (v : Value) : Prop :=
  ∃ gL gF gN cL cF cN, v = .agg #[.slice (some ⟨gL, 0, none⟩) t.size cL, .slice (some ⟨gF, 0, none⟩) t.size cF, .slice (some ⟨gN, 0, none⟩) t.size cN] ∧ Flat W (post t 0 0) t.size gL gF gN

theorem Flat.below {w W : World} {xs : List Ent} {n gL gF gN : Nat} (h : Flat w xs n gL gF gN) (hb : Below w.heap.size w W) : Flat W xs n gL gF gN :=
  h.keep (S := fun _ => False) (Keeps.of_below hb) id id id
theorem Fl.below {w W : World} {t : Nd} {v : Value} (h : Fl w t v) (hb : Below w.heap.size w W) : Fl W t v := by
  obtain ⟨gL, gF, gN, cL, cF, cN, e, hf⟩ := h
  exact ⟨gL, gF, gN, cL, cF, cN, e, hf.below hb⟩
/-- a block whose first cell is a slice is none of a flattened tree's -/
theorem Flat.ne {w : World} {t : Nd} {gL gF gN b n : Nat} {A : Option Addr} {c : Nat} (h : Flat w (post t 0 0) t.size gL gF gN) (hb : w.cell? ⟨b, 0, none⟩ = some (.slice A n c)) : b ≠ gL ∧ b ≠ gF ∧ b ≠ gN := by
  have hp := t.size_pos
  refine ⟨?_, ?_, ?_⟩
  · rintro rfl; have := h.lab0 0 hp; simp [hb] at this
  · rintro rfl; have := h.lef 0 hp; simp [hb] at this
  · rintro rfl; have := h.num 0 hp; simp [hb] at this
theorem Fl.set {w W : World} {t : Nd} {v : Value} {b n : Nat} {A : Option Addr} {c : Nat} (h : Fl w t v) (hb : w.cell? ⟨b, 0, none⟩ = some (.slice A n c)) (hk : Keeps (· = b) w W) : Fl W t v := by
  obtain ⟨gL, gF, gN, cL, cF, cN, e, hf⟩ := h
  obtain ⟨h1, h2, h3⟩ := hf.ne hb
  exact ⟨gL, gF, gN, cL, cF, cN, e, hf.keep hk h1.symm h2.symm h3.symm⟩
theorem flattenF (t : Nd) (A : Option Addr) (c : Nat) (w : World) (hR : RN w t A c) (hn : t.size ≤ 1000000) :
    Calls Try.prog 34 #[t.val A c] w fun e w' => (∃ v, e = .returned v ∧ Fl w' t v) ∧ Below w.heap.size w w' := by
  refine (flatten t A c w hR hn).mono ?_
  rintro e w' ⟨⟨gL, gF, gN, cL, cF, cN, rfl, hf, _⟩, hb⟩
  exact ⟨⟨_, rfl, gL, gF, gN, cL, cF, cN, rfl, hf⟩, hb⟩

theorem filler (x0 x1 x2 y0 y1 y2 : Value) (A : Option Addr) (n c : Nat) (w : World) :
    Calls Try.prog 41 #[.agg #[x0, x1, x2], .agg #[y0, y1, y2], .slice A n c] w fun e w' => e = .returned (.func (.func 46) #[] #[.pointer (some ⟨w.heap.size, 0, none⟩), .pointer (some ⟨w.heap.size + 1, 0, none⟩), .pointer (some ⟨w.heap.size + 2, 0, none⟩)]) ∧
      w' = ((w.alloc (.cells #[x0, x1, x2] 66)).alloc (.cells #[y0, y1, y2] 66)).alloc (.cells #[.slice A n c] 30) := by
  go_enter Try.func41, Try.ntmps41
  go_wp2_with fail
  go_ret
  exact ⟨rfl, rfl⟩
end Go.Proofs.Ytjijfgkmjachnaa

namespace Go.Proofs.Ytjijfgkmjachnaa
set_option linter.unusedVariables false
set_option linter.unusedSimpArgs false
open Go.RowKit

noncomputable def ops30 : Array Oper := ((Try.f30.body.bind (firstReg 1)).getD #[])
def frm30 (x y : Value) (p q : Nat) (v5 v6 v18 v19 v20 v21 : Value) : Array Value := #[x, y, .pointer (some ⟨p, 0, none⟩), .pointer (some ⟨q, 0, none⟩), .slice none 0 0, v5, v6, undef, undef, undef, undef, undef, undef, undef, undef, undef, undef, undef, v18, v19, v20, v21, undef, undef, undef, undef, undef, undef, undef, undef, undef, undef, undef, undef, undef, undef, undef, undef, undef, undef, undef, undef, undef, undef, undef, undef, undef, undef, undef, undef, undef, undef, undef, undef, undef, undef, undef, undef, undef, undef, undef, undef, undef, undef, undef, undef, undef, undef, undef, undef, undef, undef, undef, undef, undef, undef, undef, undef, undef, undef, undef, undef, undef, undef, undef, undef, undef, undef, undef, undef, undef, undef]

structure X30 where
  (a b : Nd) (A B : Option Addr) (cA cB p q : Nat) (w0 : World)
structure X30.Ok (C : X30) : Prop where
  p5 : At5 C.w0 C.p 0 C.a C.A C.cA
  q5 : At5 C.w0 C.q 0 C.b C.B C.cB
  ra : RN C.w0 C.a C.A C.cA
  rb : RN C.w0 C.b C.B C.cB
  sa : C.a.size ≤ 1000000
  sb : C.b.size ≤ 1000000

def bz : Obj := .cells #[.slice none 0 0, .slice none 0 0, .slice none 0 0] 66 (0, 0)
def Bx (W : World) (lo : Nat) (st : Bool) (v f : Value) : Prop :=
  ∃ b5, v = .pointer (some ⟨b5, 0, none⟩) ∧ lo ≤ b5 ∧ ((st = false ∧ W.heap[b5]? = some bz) ∨ (st = true ∧ ∃ x0 x1 x2, f = .agg #[x0, x1, x2] ∧ W.heap[b5]? = some (.cells #[x0, x1, x2] 66 (0, 0))))
structure R30 (C : X30) (L : Array Bool) (W : World) (v5 v6 v18 v19 v20 v21 : Value) : Prop where
  bel : Below C.w0.heap.size C.w0 W
  f0 : L.getD 0 false = true → v18 = C.a.val C.A C.cA
  f1 : L.getD 1 false = true → Fl W C.a v19
  f2 : L.getD 2 false = true → v20 = C.b.val C.B C.cB
  f3 : L.getD 3 false = true → Fl W C.b v21
  f4 : L.getD 4 false = true → Bx W C.w0.heap.size (L.getD 6 false) v5 v19
  f5 : L.getD 5 false = true → Bx W C.w0.heap.size (L.getD 7 false) v6 v21
  ne : L.getD 4 false = true → L.getD 5 false = true → v5 ≠ v6
  g6 : L.getD 6 false = true → L.getD 4 false = true ∧ L.getD 5 false = true ∧ L.getD 1 false = true
  g7 : L.getD 7 false = true → L.getD 4 false = true ∧ L.getD 5 false = true ∧ L.getD 3 false = true
def I30 (C : X30) (x y : Value) (L : Array Bool) (act : Act) (W : World) : Prop :=
  ∃ v5 v6 v18 v19 v20 v21, act = ⟨frm30 x y C.p C.q v5 v6 v18 v19 v20 v21, []⟩ ∧ R30 C L W v5 v6 v18 v19 v20 v21

theorem Bx.keep {W W' : World} {lo : Nat} {st : Bool} {v f : Value} (h : Bx W lo st v f) (hk : ∀ (k : Nat) (o : Obj), W.heap[k]? = some o → W'.heap[k]? = some o) : Bx W' lo st v f := by
  obtain ⟨b5, e, hl, h⟩ := h
  refine ⟨b5, e, hl, ?_⟩
  rcases h with ⟨h1, h2⟩ | ⟨h1, x0, x1, x2, h2, h3⟩
  · exact .inl ⟨h1, hk _ _ h2⟩
  · exact .inr ⟨h1, x0, x1, x2, h2, hk _ _ h3⟩
theorem Bx.free {W : World} {lo : Nat} {v f f' : Value} {st : Bool} (h : Bx W lo st v f) (hs : st = false) : Bx W lo st v f' := by
  obtain ⟨b5, e, hl, h⟩ := h
  refine ⟨b5, e, hl, ?_⟩
  rcases h with ⟨h1, h2⟩ | ⟨h1, _⟩
  · exact .inl ⟨h1, h2⟩
  · rw [hs] at h1; cases h1

/-- new blocks only -/
theorem R30.grow {C : X30} {L : Array Bool} {W W' : World} {v5 v6 v18 v19 v20 v21 : Value} (h : R30 C L W v5 v6 v18 v19 v20 v21) (hb : Below W.heap.size W W') : R30 C L W' v5 v6 v18 v19 v20 v21 :=
  have hk : ∀ (k : Nat) (o : Obj), W.heap[k]? = some o → W'.heap[k]? = some o := fun k o e => (hb.block k (Array.getElem?_eq_some_iff.1 e).1).trans e
  ⟨h.bel.trans (hb.mono h.bel.size), h.f0, fun l => (h.f1 l).below hb, h.f2, fun l => (h.f3 l).below hb, fun l => Bx.keep (h.f4 l) hk, fun l => Bx.keep (h.f5 l) hk, h.ne, h.g6, h.g7⟩
theorem Bx.lt {W : World} {lo : Nat} {st : Bool} {v f : Value} (h : Bx W lo st v f) : v ≠ .pointer (some ⟨W.heap.size, 0, none⟩) := by
  obtain ⟨b5, rfl, hl, h⟩ := h
  have : b5 < W.heap.size := by
    rcases h with ⟨_, h⟩ | ⟨_, x0, x1, x2, _, h⟩ <;> exact (Array.getElem?_eq_some_iff.1 h).1
  intro e
  first | (simp at e; done) | (simp at e; omega)
theorem R30.s0 {C : X30} {L : Array Bool} {W : World} {v5 v6 v18 v19 v20 v21 : Value} (h : R30 C L W v5 v6 v18 v19 v20 v21) (hL : L.size = 8) : R30 C (L.setIfInBounds 0 true) W v5 v6 (C.a.val C.A C.cA) v19 v20 v21 := by
  have hk : ∀ j, j ≠ 0 → (L.setIfInBounds 0 true).getD j false = L.getD j false := fun j hj => by rw [getD_set (by omega)]; simp [hj]
  have k1 := hk 1 (by omega)
  have k2 := hk 2 (by omega)
  have k3 := hk 3 (by omega)
  have k4 := hk 4 (by omega)
  have k5 := hk 5 (by omega)
  have k6 := hk 6 (by omega)
  have k7 := hk 7 (by omega)
  have k0 : (L.setIfInBounds 0 true).getD 0 false = true := by rw [getD_set (by omega)]; simp
  refine ⟨?_, ?_, ?_, ?_, ?_, ?_, ?_, ?_, ?_, ?_⟩ <;> try simp only [k0, k1, k2, k3, k4, k5, k6, k7]
  · exact h.bel
  · first | exact fun _ => rfl | (intros; trivial)
  · exact h.f1
  · exact h.f2
  · exact h.f3
  · exact h.f4
  · exact h.f5
  · exact h.ne
  · exact h.g6
  · exact h.g7

theorem R30.s2 {C : X30} {L : Array Bool} {W : World} {v5 v6 v18 v19 v20 v21 : Value} (h : R30 C L W v5 v6 v18 v19 v20 v21) (hL : L.size = 8) : R30 C (L.setIfInBounds 2 true) W v5 v6 v18 v19 (C.b.val C.B C.cB) v21 := by
  have hk : ∀ j, j ≠ 2 → (L.setIfInBounds 2 true).getD j false = L.getD j false := fun j hj => by rw [getD_set (by omega)]; simp [hj]
  have k0 := hk 0 (by omega)
  have k1 := hk 1 (by omega)
  have k3 := hk 3 (by omega)
  have k4 := hk 4 (by omega)
  have k5 := hk 5 (by omega)
  have k6 := hk 6 (by omega)
  have k7 := hk 7 (by omega)
  have k2 : (L.setIfInBounds 2 true).getD 2 false = true := by rw [getD_set (by omega)]; simp
  refine ⟨?_, ?_, ?_, ?_, ?_, ?_, ?_, ?_, ?_, ?_⟩ <;> try simp only [k0, k1, k2, k3, k4, k5, k6, k7]
  · exact h.bel
  · exact h.f0
  · exact h.f1
  · first | exact fun _ => rfl | (intros; trivial)
  · exact h.f3
  · exact h.f4
  · exact h.f5
  · exact h.ne
  · exact h.g6
  · exact h.g7

theorem R30.s1 {C : X30} {L : Array Bool} {W : World} {v5 v6 v18 v19 v20 v21 : Value} (h : R30 C L W v5 v6 v18 v19 v20 v21) (hL : L.size = 8) {v : Value} (hv : Fl W C.a v) (h6 : L.getD 6 false = false) : R30 C (L.setIfInBounds 1 true) W v5 v6 v18 v v20 v21 := by
  have hk : ∀ j, j ≠ 1 → (L.setIfInBounds 1 true).getD j false = L.getD j false := fun j hj => by rw [getD_set (by omega)]; simp [hj]
  have k0 := hk 0 (by omega)
  have k2 := hk 2 (by omega)
  have k3 := hk 3 (by omega)
  have k4 := hk 4 (by omega)
  have k5 := hk 5 (by omega)
  have k6 := hk 6 (by omega)
  have k7 := hk 7 (by omega)
  have k1 : (L.setIfInBounds 1 true).getD 1 false = true := by rw [getD_set (by omega)]; simp
  refine ⟨?_, ?_, ?_, ?_, ?_, ?_, ?_, ?_, ?_, ?_⟩ <;> try simp only [k0, k1, k2, k3, k4, k5, k6, k7]
  · exact h.bel
  · exact h.f0
  · exact fun _ => hv
  · exact h.f2
  · exact h.f3
  · exact fun l => Bx.free (h.f4 l) h6
  · exact h.f5
  · exact h.ne
  · intro l; rw [h6] at l; cases l
  · exact h.g7

theorem R30.s3 {C : X30} {L : Array Bool} {W : World} {v5 v6 v18 v19 v20 v21 : Value} (h : R30 C L W v5 v6 v18 v19 v20 v21) (hL : L.size = 8) {v : Value} (hv : Fl W C.b v) (h7 : L.getD 7 false = false) : R30 C (L.setIfInBounds 3 true) W v5 v6 v18 v19 v20 v := by
  have hk : ∀ j, j ≠ 3 → (L.setIfInBounds 3 true).getD j false = L.getD j false := fun j hj => by rw [getD_set (by omega)]; simp [hj]
  have k0 := hk 0 (by omega)
  have k1 := hk 1 (by omega)
  have k2 := hk 2 (by omega)
  have k4 := hk 4 (by omega)
  have k5 := hk 5 (by omega)
  have k6 := hk 6 (by omega)
  have k7 := hk 7 (by omega)
  have k3 : (L.setIfInBounds 3 true).getD 3 false = true := by rw [getD_set (by omega)]; simp
  refine ⟨?_, ?_, ?_, ?_, ?_, ?_, ?_, ?_, ?_, ?_⟩ <;> try simp only [k0, k1, k2, k3, k4, k5, k6, k7]
  · exact h.bel
  · exact h.f0
  · exact h.f1
  · exact h.f2
  · exact fun _ => hv
  · exact h.f4
  · exact fun l => Bx.free (h.f5 l) h7
  · exact h.ne
  · exact h.g6
  · intro l; rw [h7] at l; cases l

theorem R30.s4 {C : X30} {L : Array Bool} {W : World} {v5 v6 v18 v19 v20 v21 : Value} (h : R30 C L W v5 v6 v18 v19 v20 v21) (hL : L.size = 8) (h6 : L.getD 6 false = false) : R30 C (L.setIfInBounds 4 true) (W.alloc bz) (.pointer (some ⟨W.heap.size, 0, none⟩)) v6 v18 v19 v20 v21 := by
  have hk : ∀ j, j ≠ 4 → (L.setIfInBounds 4 true).getD j false = L.getD j false := fun j hj => by rw [getD_set (by omega)]; simp [hj]
  have k0 := hk 0 (by omega)
  have k1 := hk 1 (by omega)
  have k2 := hk 2 (by omega)
  have k3 := hk 3 (by omega)
  have k5 := hk 5 (by omega)
  have k6 := hk 6 (by omega)
  have k7 := hk 7 (by omega)
  have k4 : (L.setIfInBounds 4 true).getD 4 false = true := by rw [getD_set (by omega)]; simp
  have hg := h.grow ((Below.refl _ W).alloc (Nat.le_refl _) bz)
  refine ⟨?_, ?_, ?_, ?_, ?_, ?_, ?_, ?_, ?_, ?_⟩ <;> try simp only [k0, k1, k2, k3, k4, k5, k6, k7]
  · exact hg.bel
  · exact h.f0
  · exact hg.f1
  · exact h.f2
  · exact hg.f3
  · exact fun _ => ⟨_, rfl, h.bel.size, .inl ⟨h6, heap_alloc_new W bz⟩⟩
  · exact hg.f5
  · exact fun _ l e => Bx.lt (h.f5 l) e.symm
  · intro l; rw [h6] at l; cases l
  · exact fun l => ⟨trivial, (h.g7 l).2⟩

theorem R30.s5 {C : X30} {L : Array Bool} {W : World} {v5 v6 v18 v19 v20 v21 : Value} (h : R30 C L W v5 v6 v18 v19 v20 v21) (hL : L.size = 8) (h7 : L.getD 7 false = false) : R30 C (L.setIfInBounds 5 true) (W.alloc bz) v5 (.pointer (some ⟨W.heap.size, 0, none⟩)) v18 v19 v20 v21 := by
  have hk : ∀ j, j ≠ 5 → (L.setIfInBounds 5 true).getD j false = L.getD j false := fun j hj => by rw [getD_set (by omega)]; simp [hj]
  have k0 := hk 0 (by omega)
  have k1 := hk 1 (by omega)
  have k2 := hk 2 (by omega)
  have k3 := hk 3 (by omega)
  have k4 := hk 4 (by omega)
  have k6 := hk 6 (by omega)
  have k7 := hk 7 (by omega)
  have k5 : (L.setIfInBounds 5 true).getD 5 false = true := by rw [getD_set (by omega)]; simp
  have hg := h.grow ((Below.refl _ W).alloc (Nat.le_refl _) bz)
  refine ⟨?_, ?_, ?_, ?_, ?_, ?_, ?_, ?_, ?_, ?_⟩ <;> try simp only [k0, k1, k2, k3, k4, k5, k6, k7]
  · exact hg.bel
  · exact h.f0
  · exact hg.f1
  · exact h.f2
  · exact hg.f3
  · exact hg.f4
  · exact fun _ => ⟨_, rfl, h.bel.size, .inl ⟨h7, heap_alloc_new W bz⟩⟩
  · exact fun l _ e => Bx.lt (h.f4 l) e
  · exact fun l => ⟨(h.g6 l).1, trivial, (h.g6 l).2.2⟩
  · intro l; rw [h7] at l; cases l


theorem set3 {W : World} {b : Nat} {y0 y1 y2 : Value} (x0 x1 x2 : Value) (h : W.heap[b]? = some (.cells #[y0, y1, y2] 66 (0, 0))) :
    (((W.setCell ⟨b, 0, none⟩ x0).setCell ⟨b, 1, none⟩ x1).setCell ⟨b, 2, none⟩ x2).heap[b]? = some (.cells #[x0, x1, x2] 66 (0, 0)) ∧
    Keeps (· = b) W (((W.setCell ⟨b, 0, none⟩ x0).setCell ⟨b, 1, none⟩ x1).setCell ⟨b, 2, none⟩ x2) ∧ ∀ lo, lo ≤ b → Below lo W (((W.setCell ⟨b, 0, none⟩ x0).setCell ⟨b, 1, none⟩ x1).setCell ⟨b, 2, none⟩ x2) :=
  ⟨by simp [World.setCell, Array.getElem?_modify, h], ((Keeps.setCell (S := fun k => k = b) (Keeps.refl _ W) (p := ⟨b, 0, none⟩) (.inl rfl) _).setCell (p := ⟨b, 1, none⟩) (.inl rfl) _).setCell (p := ⟨b, 2, none⟩) (.inl rfl) _,
   fun lo hl => (((Below.refl lo W).setCell (p := ⟨b, 0, none⟩) hl _).setCell (p := ⟨b, 1, none⟩) hl _).setCell (p := ⟨b, 2, none⟩) hl _⟩
theorem Bx.off {W W' : World} {lo b : Nat} {st : Bool} {v f : Value} (h : Bx W lo st v f) (hk : Keeps (· = b) W W') (hn : v ≠ .pointer (some ⟨b, 0, none⟩)) : Bx W' lo st v f := by
  obtain ⟨b5, rfl, hl, h⟩ := h
  have hb : b5 ≠ b := fun e => hn (by rw [e])
  have mv : ∀ o, W.heap[b5]? = some o → W'.heap[b5]? = some o := fun o e => (hk.block b5 (Array.getElem?_eq_some_iff.1 e).1 hb).trans e
  refine ⟨b5, rfl, hl, ?_⟩
  rcases h with ⟨h1, h2⟩ | ⟨h1, x0, x1, x2, h2, h3⟩
  · exact .inl ⟨h1, mv _ h2⟩
  · exact .inr ⟨h1, x0, x1, x2, h2, mv _ h3⟩
theorem R30.s6 {C : X30} {L : Array Bool} {W W' : World} {b5 : Nat} {x0 x1 x2 v5 v6 v18 v19 v20 v21 : Value} (h : R30 C L W v5 v6 v18 v19 v20 v21) (hL : L.size = 8) (h5 : v5 = .pointer (some ⟨b5, 0, none⟩)) (h19 : v19 = .agg #[x0, x1, x2]) (l4 : L.getD 4 false = true) (l5 : L.getD 5 false = true) (l1 : L.getD 1 false = true)
    (hz : W.heap[b5]? = some bz) (hs : W'.heap[b5]? = some (.cells #[x0, x1, x2] 66 (0, 0))) (hkp : Keeps (· = b5) W W') (hlo : C.w0.heap.size ≤ b5) (hbl : Below C.w0.heap.size W W') : R30 C (L.setIfInBounds 6 true) W' v5 v6 v18 v19 v20 v21 := by
  have hk : ∀ j, j ≠ 6 → (L.setIfInBounds 6 true).getD j false = L.getD j false := fun j hj => by rw [getD_set (by omega)]; simp [hj]
  have k0 := hk 0 (by omega)
  have k1 := hk 1 (by omega)
  have k2 := hk 2 (by omega)
  have k3 := hk 3 (by omega)
  have k4 := hk 4 (by omega)
  have k5 := hk 5 (by omega)
  have k7 := hk 7 (by omega)
  have k6 : (L.setIfInBounds 6 true).getD 6 false = true := by rw [getD_set (by omega)]; simp
  have hc0 : W.cell? ⟨b5, 0, none⟩ = some (.slice none 0 0) := by simp [World.cell?, hz, bz]
  refine ⟨h.bel.trans hbl, ?_, ?_, ?_, ?_, ?_, ?_, ?_, ?_, ?_⟩ <;> try simp only [k0, k1, k2, k3, k4, k5, k6, k7]
  · exact h.f0
  · exact fun l => (h.f1 l).set hc0 hkp
  · exact h.f2
  · exact fun l => (h.f3 l).set hc0 hkp
  · exact fun _ => ⟨b5, h5, hlo, .inr ⟨rfl, x0, x1, x2, h19, hs⟩⟩
  · exact fun l => Bx.off (h.f5 l) hkp (fun e => h.ne l4 l (h5.trans e.symm))
  · exact h.ne
  · exact fun _ => ⟨l4, l5, l1⟩
  · exact h.g7
theorem R30.s7 {C : X30} {L : Array Bool} {W W' : World} {b5 : Nat} {x0 x1 x2 v5 v6 v18 v19 v20 v21 : Value} (h : R30 C L W v5 v6 v18 v19 v20 v21) (hL : L.size = 8) (h5 : v6 = .pointer (some ⟨b5, 0, none⟩)) (h19 : v21 = .agg #[x0, x1, x2]) (l4 : L.getD 4 false = true) (l5 : L.getD 5 false = true) (l1 : L.getD 3 false = true)
    (hz : W.heap[b5]? = some bz) (hs : W'.heap[b5]? = some (.cells #[x0, x1, x2] 66 (0, 0))) (hkp : Keeps (· = b5) W W') (hlo : C.w0.heap.size ≤ b5) (hbl : Below C.w0.heap.size W W') : R30 C (L.setIfInBounds 7 true) W' v5 v6 v18 v19 v20 v21 := by
  have hk : ∀ j, j ≠ 7 → (L.setIfInBounds 7 true).getD j false = L.getD j false := fun j hj => by rw [getD_set (by omega)]; simp [hj]
  have k0 := hk 0 (by omega)
  have k1 := hk 1 (by omega)
  have k2 := hk 2 (by omega)
  have k3 := hk 3 (by omega)
  have k4 := hk 4 (by omega)
  have k5 := hk 5 (by omega)
  have k6 := hk 6 (by omega)
  have k7 : (L.setIfInBounds 7 true).getD 7 false = true := by rw [getD_set (by omega)]; simp
  have hc0 : W.cell? ⟨b5, 0, none⟩ = some (.slice none 0 0) := by simp [World.cell?, hz, bz]
  refine ⟨h.bel.trans hbl, ?_, ?_, ?_, ?_, ?_, ?_, ?_, ?_, ?_⟩ <;> try simp only [k0, k1, k2, k3, k4, k5, k6, k7]
  · exact h.f0
  · exact fun l => (h.f1 l).set hc0 hkp
  · exact h.f2
  · exact fun l => (h.f3 l).set hc0 hkp
  · exact fun l => Bx.off (h.f4 l) hkp (fun e => h.ne l l5 (e.trans h5.symm))
  · exact fun _ => ⟨b5, h5, hlo, .inr ⟨rfl, x0, x1, x2, h19, hs⟩⟩
  · exact h.ne
  · exact h.g6
  · exact fun _ => ⟨l4, l5, l1⟩
end Go.Proofs.Ytjijfgkmjachnaa

namespace Go.Proofs.Ytjijfgkmjachnaa
set_option linter.unusedVariables false
set_option linter.unusedSimpArgs false
open Go.RowKit

theorem At5.below {w W : World} {b o : Nat} {t : Nd} {A : Option Addr} {c : Nat} (h : At5 w b o t A c) (hb : Below w.heap.size w W) : At5 W b o t A c := At5.keep h hb h.lt

set_option maxRecDepth 100000 in
set_option maxHeartbeats 4000000 in
theorem region30 (C : X30) (ok : C.Ok) (x y : Value) (Q : Exit → Act → World → Prop) (act : Act) (w : World) (h0 : I30 C x y (Array.replicate 8 false) act w.drew)
    (hend : ∀ L a' W, I30 C x y L a' W → (∀ i, i < 8 → L.getD i false = true) → Q .normal a' W) :
    (Code.region 1 ops30 true).wp Try.prog Q act w := by
  refine wp_region_inv (by kernel_rfl) (by kernel_rfl) (I30 C x y) h0 ?_ (fun L a' W hs hall hI => hend L a' W hI hall)
  intro i o L a W ho hs hI hf hpre
  obtain ⟨v5, v6, v18, v19, v20, v21, rfl, h⟩ := hI
  have hL : L.size = 8 := hs
  have hi : i < 8 := (Array.getElem?_eq_some_iff.1 ho).1
  conv at ho => lhs; arg 1; whnf
  have hp := h.bel
  have pa := At5.below ok.p5 hp
  have qa := At5.below ok.q5 hp
  obtain ⟨a0, a1, a2, a3, a4⟩ := pa
  obtain ⟨b0, b1, b2, b3, b4⟩ := qa
  rcases i with _ | _ | _ | _ | _ | _ | _ | _ | i
  · simp only [List.getElem?_toArray, List.getElem?_cons_zero, List.getElem?_cons_succ, Option.some.injEq] at ho
    subst ho
    simp only [Region.wanted, if_true, Nat.zero_add, Nat.reduceAdd] at hf hpre ⊢
    have HQ := Lib.hid (h.s0 hL)
    clear h hpre hp ok
    unfold frm30
    go_simp
    exact ⟨_, _, _, _, _, _, rfl, HQ.out⟩
  · simp only [List.getElem?_toArray, List.getElem?_cons_zero, List.getElem?_cons_succ, Option.some.injEq] at ho
    subst ho
    simp only [Region.wanted, if_true, Nat.zero_add, Nat.reduceAdd] at hf hpre ⊢
    have e := h.f0 (hpre ⟨0, .data⟩ (by simp) rfl)
    subst e
    have h6 : L.getD 6 false = false := by cases hq : L.getD 6 false with | false => rfl | true => (have := (h.g6 hq).2.2; rw [hf] at this; cases this)
    unfold frm30
    go_simp
    refine (flattenF C.a C.A C.cA W (RN.keep hp ok.ra) ok.sa).mono ?_
    rintro e w' ⟨⟨v, rfl, hv⟩, hb⟩
    exact ⟨_, _, _, _, _, _, rfl, (h.grow hb).s1 hL hv h6⟩
  · simp only [List.getElem?_toArray, List.getElem?_cons_zero, List.getElem?_cons_succ, Option.some.injEq] at ho
    subst ho
    simp only [Region.wanted, if_true, Nat.zero_add, Nat.reduceAdd] at hf hpre ⊢
    have HQ := Lib.hid (h.s2 hL)
    clear h hpre hp ok
    unfold frm30
    go_simp
    exact ⟨_, _, _, _, _, _, rfl, HQ.out⟩
  · simp only [List.getElem?_toArray, List.getElem?_cons_zero, List.getElem?_cons_succ, Option.some.injEq] at ho
    subst ho
    simp only [Region.wanted, if_true, Nat.zero_add, Nat.reduceAdd] at hf hpre ⊢
    have e := h.f2 (hpre ⟨2, .data⟩ (by simp) rfl)
    subst e
    have h6 : L.getD 7 false = false := by cases hq : L.getD 7 false with | false => rfl | true => (have := (h.g7 hq).2.2; rw [hf] at this; cases this)
    unfold frm30
    go_simp
    refine (flattenF C.b C.B C.cB W (RN.keep hp ok.rb) ok.sb).mono ?_
    rintro e w' ⟨⟨v, rfl, hv⟩, hb⟩
    exact ⟨_, _, _, _, _, _, rfl, (h.grow hb).s3 hL hv h6⟩
  · simp only [List.getElem?_toArray, List.getElem?_cons_zero, List.getElem?_cons_succ, Option.some.injEq] at ho
    subst ho
    simp only [Region.wanted, if_true, Nat.zero_add, Nat.reduceAdd] at hf hpre ⊢
    have h6 : L.getD 6 false = false := by cases hq : L.getD 6 false with | false => rfl | true => (have := (h.g6 hq).1; rw [hf] at this; cases this)
    have HQ := Lib.hid (h.s4 hL h6)
    clear h hpre hp ok
    unfold frm30
    go_simp
    exact ⟨_, _, _, _, _, _, rfl, HQ.out⟩
  · simp only [List.getElem?_toArray, List.getElem?_cons_zero, List.getElem?_cons_succ, Option.some.injEq] at ho
    subst ho
    simp only [Region.wanted, if_true, Nat.zero_add, Nat.reduceAdd] at hf hpre ⊢
    have h6 : L.getD 7 false = false := by cases hq : L.getD 7 false with | false => rfl | true => (have := (h.g7 hq).2.1; rw [hf] at this; cases this)
    have HQ := Lib.hid (h.s5 hL h6)
    clear h hpre hp ok
    unfold frm30
    go_simp
    exact ⟨_, _, _, _, _, _, rfl, HQ.out⟩
  · simp only [List.getElem?_toArray, List.getElem?_cons_zero, List.getElem?_cons_succ, Option.some.injEq] at ho
    subst ho
    simp only [Region.wanted, if_true, Nat.zero_add, Nat.reduceAdd] at hf hpre ⊢
    have l4 : L.getD 4 false = true := hpre ⟨4, .data⟩ (by simp) rfl
    have l5 : L.getD 5 false = true := hpre ⟨5, .phase⟩ (by simp) rfl
    have l1 : L.getD 1 false = true := hpre ⟨1, .data⟩ (by simp) rfl
    have hfl := h.f1 l1
    obtain ⟨b5, e5, hlo, hbx⟩ := h.f4 l4
    rw [hf] at hbx
    have hz : W.heap[b5]? = some bz := by rcases hbx with ⟨_, hz⟩ | ⟨hx, _⟩; exact hz; cases hx
    obtain ⟨gL, gF, gN, cL, cF, cN, ev, _⟩ := hfl
    obtain ⟨s1, s2, s3⟩ := set3 (y0 := .slice none 0 0) (y1 := .slice none 0 0) (y2 := .slice none 0 0) (.slice (some ⟨gL, 0, none⟩) C.a.size cL) (.slice (some ⟨gF, 0, none⟩) C.a.size cF) (.slice (some ⟨gN, 0, none⟩) C.a.size cN) hz
    have HQ := Lib.hid (h.s6 hL e5 ev l4 l5 l1 hz s1 s2 hlo (s3 _ hlo))
    have c0 : W.cell? ⟨b5, 0, none⟩ = some (.slice none 0 0) := by simp [World.cell?, hz, bz]
    have c1 : W.cell? ⟨b5, 1, none⟩ = some (.slice none 0 0) := by simp [World.cell?, hz, bz]
    have c2 : W.cell? ⟨b5, 2, none⟩ = some (.slice none 0 0) := by simp [World.cell?, hz, bz]
    have z0 : W.frozen? ⟨b5, 0, none⟩ = false := by simp [World.frozen?, hz, bz]
    have z1 : W.frozen? ⟨b5, 1, none⟩ = false := by simp [World.frozen?, hz, bz]
    have z2 : W.frozen? ⟨b5, 2, none⟩ = false := by simp [World.frozen?, hz, bz]
    subst e5 ev
    clear h hpre hp ok s1 s2 s3 hz hbx
    unfold frm30
    go_simp
    exact ⟨_, _, _, _, _, _, rfl, HQ.out⟩
  · simp only [List.getElem?_toArray, List.getElem?_cons_zero, List.getElem?_cons_succ, Option.some.injEq] at ho
    subst ho
    simp only [Region.wanted, if_true, Nat.zero_add, Nat.reduceAdd] at hf hpre ⊢
    have l4 : L.getD 4 false = true := hpre ⟨4, .phase⟩ (by simp) rfl
    have l5 : L.getD 5 false = true := hpre ⟨5, .data⟩ (by simp) rfl
    have l1 : L.getD 3 false = true := hpre ⟨3, .data⟩ (by simp) rfl
    have hfl := h.f3 l1
    obtain ⟨b5, e5, hlo, hbx⟩ := h.f5 l5
    rw [hf] at hbx
    have hz : W.heap[b5]? = some bz := by rcases hbx with ⟨_, hz⟩ | ⟨hx, _⟩; exact hz; cases hx
    obtain ⟨gL, gF, gN, cL, cF, cN, ev, _⟩ := hfl
    obtain ⟨s1, s2, s3⟩ := set3 (y0 := .slice none 0 0) (y1 := .slice none 0 0) (y2 := .slice none 0 0) (.slice (some ⟨gL, 0, none⟩) C.b.size cL) (.slice (some ⟨gF, 0, none⟩) C.b.size cF) (.slice (some ⟨gN, 0, none⟩) C.b.size cN) hz
    have HQ := Lib.hid (h.s7 hL e5 ev l4 l5 l1 hz s1 s2 hlo (s3 _ hlo))
    have c0 : W.cell? ⟨b5, 0, none⟩ = some (.slice none 0 0) := by simp [World.cell?, hz, bz]
    have c1 : W.cell? ⟨b5, 1, none⟩ = some (.slice none 0 0) := by simp [World.cell?, hz, bz]
    have c2 : W.cell? ⟨b5, 2, none⟩ = some (.slice none 0 0) := by simp [World.cell?, hz, bz]
    have z0 : W.frozen? ⟨b5, 0, none⟩ = false := by simp [World.frozen?, hz, bz]
    have z1 : W.frozen? ⟨b5, 1, none⟩ = false := by simp [World.frozen?, hz, bz]
    have z2 : W.frozen? ⟨b5, 2, none⟩ = false := by simp [World.frozen?, hz, bz]
    subst e5 ev
    clear h hpre hp ok s1 s2 s3 hz hbx
    unfold frm30
    go_simp
    exact ⟨_, _, _, _, _, _, rfl, HQ.out⟩
  · omega
end Go.Proofs.Ytjijfgkmjachnaa

namespace Go.Proofs.Ytjijfgkmjachnaa
set_option linter.unusedVariables false
set_option linter.unusedSimpArgs false
open Go.RowKit

structure Par where
  (a b : Nd) (b5 b6 gL gF gN gL' gF' gN' cL cF cN cL' cF' cN' top : Nat)
def Par.q (P : Par) : Nat := P.top + 1 + P.a.size
abbrev Par.xs (P : Par) : List Ent := post P.a 0 0
abbrev Par.ys (P : Par) : List Ent := post P.b 0 0

structure SX (P : Par) (W : World) : Prop where
  c50 : W.cell? ⟨P.b5, 0, none⟩ = some (.slice (some ⟨P.gL, 0, none⟩) P.a.size P.cL)
  c51 : W.cell? ⟨P.b5, 1, none⟩ = some (.slice (some ⟨P.gF, 0, none⟩) P.a.size P.cF)
  c52 : W.cell? ⟨P.b5, 2, none⟩ = some (.slice (some ⟨P.gN, 0, none⟩) P.a.size P.cN)
  c60 : W.cell? ⟨P.b6, 0, none⟩ = some (.slice (some ⟨P.gL', 0, none⟩) P.b.size P.cL')
  c61 : W.cell? ⟨P.b6, 1, none⟩ = some (.slice (some ⟨P.gF', 0, none⟩) P.b.size P.cF')
  c62 : W.cell? ⟨P.b6, 2, none⟩ = some (.slice (some ⟨P.gN', 0, none⟩) P.b.size P.cN')
  fa : Flat W P.xs P.a.size P.gL P.gF P.gN
  fb : Flat W P.ys P.b.size P.gL' P.gF' P.gN'
  lt : P.b5 < P.top ∧ P.b6 < P.top ∧ P.gL < P.top ∧ P.gF < P.top ∧ P.gN < P.top ∧ P.gL' < P.top ∧ P.gF' < P.top ∧ P.gN' < P.top
  sz : P.top ≤ W.heap.size

theorem SX.keep {P : Par} {S : Nat → Prop} {W W' : World} (h : SX P W) (hk : Keeps S W W') (hS : ∀ k, S k → P.top ≤ k) : SX P W' := by
  have hl := h.lt
  have hs := h.sz
  have n : ∀ b, b < P.top → b < W.heap.size ∧ ¬ S b := fun b hb => ⟨by omega, fun h => by have := hS b h; omega⟩
  have mv : ∀ b o v, b < P.top → W.cell? ⟨b, o, none⟩ = some v → W'.cell? ⟨b, o, none⟩ = some v := fun b o v hb hc => (hk.cell (p := ⟨b, o, none⟩) (n b hb).1 (n b hb).2).trans hc
  exact ⟨mv _ _ _ hl.1 h.c50, mv _ _ _ hl.1 h.c51, mv _ _ _ hl.1 h.c52, mv _ _ _ hl.2.1 h.c60, mv _ _ _ hl.2.1 h.c61, mv _ _ _ hl.2.1 h.c62,
    h.fa.keep hk (n _ hl.2.2.1).2 (n _ hl.2.2.2.1).2 (n _ hl.2.2.2.2.1).2, h.fb.keep hk (n _ hl.2.2.2.2.2.1).2 (n _ hl.2.2.2.2.2.2.1).2 (n _ hl.2.2.2.2.2.2.2).2, hl, Nat.le_trans hs hk.size⟩

structure BX (P : Par) (W : World) (D : Nat → Nat → Int) : Prop where
  sx : SX P W
  k00 : W.cell? ⟨P.q, 0, none⟩ = some (.slice (some ⟨P.gL, 0, none⟩) P.a.size P.cL)
  k01 : W.cell? ⟨P.q, 1, none⟩ = some (.slice (some ⟨P.gF, 0, none⟩) P.a.size P.cF)
  k10 : W.cell? ⟨P.q + 1, 0, none⟩ = some (.slice (some ⟨P.gL', 0, none⟩) P.b.size P.cL')
  k11 : W.cell? ⟨P.q + 1, 1, none⟩ = some (.slice (some ⟨P.gF', 0, none⟩) P.b.size P.cF')
  k2 : W.cell? ⟨P.q + 2, 0, none⟩ = some (.slice (some ⟨P.top, 0, none⟩) P.a.size P.a.size)
  tab : Tab W P.top P.top (fun i => P.top + 1 + i) P.a.size P.b.size D
  bd : ∀ s t, s < P.a.size → t < P.b.size → 0 ≤ D s t ∧ D s t ≤ 10000000
  sz : P.q + 3 ≤ W.heap.size
/-- the rows of the table -/
def Par.row (P : Par) (k : Nat) : Prop := ∃ s, s < P.a.size ∧ k = P.top + 1 + s

theorem BX.below {P : Par} {W W' : World} {D : Nat → Nat → Int} (h : BX P W D) (hb : Below W.heap.size W W') : BX P W' D := by
  have hs := h.sz
  have mv : ∀ b o v, b < P.q + 3 → W.cell? ⟨b, o, none⟩ = some v → W'.cell? ⟨b, o, none⟩ = some v := fun b o v hl hc => (hb.cell (p := ⟨b, o, none⟩) (by show b < _; omega)).trans hc
  exact ⟨h.sx.keep (S := fun _ => False) (Keeps.of_below hb) (fun k h => h.elim), mv _ _ _ (by omega) h.k00, mv _ _ _ (by omega) h.k01, mv _ _ _ (by omega) h.k10, mv _ _ _ (by omega) h.k11, mv _ _ _ (by omega) h.k2,
    h.tab.keep (S := fun _ => False) (Keeps.of_below hb) id (fun _ _ => id), h.bd, Nat.le_trans hs hb.size⟩
theorem BX.keepHi {P : Par} {W W' : World} {D : Nat → Nat → Int} {S : Nat → Prop} (h : BX P W D) (hb : Keeps S W W') (hS : ∀ k, S k → P.q + 3 ≤ k) : BX P W' D := by
  have hs := h.sz
  have mv : ∀ b o v, b < P.q + 3 → W.cell? ⟨b, o, none⟩ = some v → W'.cell? ⟨b, o, none⟩ = some v := fun b o v hl hc => (hb.cell (p := ⟨b, o, none⟩) (by show b < _; omega) (fun h => by have := hS _ h; simp only at this; omega)).trans hc
  exact ⟨h.sx.keep hb (fun k h => by have := hS k h; simp only [Par.q] at this; omega), mv _ _ _ (by omega) h.k00, mv _ _ _ (by omega) h.k01, mv _ _ _ (by omega) h.k10, mv _ _ _ (by omega) h.k11, mv _ _ _ (by omega) h.k2,
    h.tab.keep hb (fun h => by have := hS _ h; simp only [Par.q] at this; omega) (fun i hi h => by have := hS _ h; simp only [Par.q] at this; omega), h.bd, Nat.le_trans hs hb.size⟩
theorem BX.rows {P : Par} {W W' : World} {D D' : Nat → Nat → Int} (h : BX P W D) (hk : Keeps P.row W W') (ht : Tab W' P.top P.top (fun i => P.top + 1 + i) P.a.size P.b.size D') (hb : ∀ s t, s < P.a.size → t < P.b.size → 0 ≤ D' s t ∧ D' s t ≤ 10000000) : BX P W' D' := by
  have hs := h.sz
  have mv : ∀ b o v, P.q ≤ b → b < P.q + 3 → W.cell? ⟨b, o, none⟩ = some v → W'.cell? ⟨b, o, none⟩ = some v := fun b o v h0 hl hc => (hk.cell (p := ⟨b, o, none⟩) (by show b < _; omega) (fun ⟨s, hs, e⟩ => by simp only [Par.q] at h0 e; omega)).trans hc
  exact ⟨h.sx.keep hk (fun k ⟨s, _, e⟩ => by omega), mv _ _ _ (by omega) (by omega) h.k00, mv _ _ _ (by omega) (by omega) h.k01, mv _ _ _ (by omega) (by omega) h.k10, mv _ _ _ (by omega) (by omega) h.k11, mv _ _ _ (by omega) (by omega) h.k2, ht, hb, Nat.le_trans hs hk.size⟩
theorem Ints.keep {W W' : World} {lo : Nat} {v : Value} {R : List Int} {S : Nat → Prop} (h : Ints W lo v R) (hk : Keeps S W W') (hS : ∀ k, S k → k < lo) : Ints W' lo v R := by
  obtain ⟨A, c, e, h⟩ := h.val
  refine ⟨A, c, e, h.imp id (fun ⟨g, a, b, d⟩ => ⟨g, a, b, fun i hi => ?_⟩)⟩
  exact (hk.cell (p := ⟨g, i, none⟩) (World.block_lt_of_cell? W _ (d i hi)) (fun hg => by have := hS g hg; omega)).trans (d i hi)
theorem Ints.below {W W' : World} {lo : Nat} {v : Value} {R : List Int} (h : Ints W lo v R) (hb : Below W.heap.size W W') : Ints W' lo v R := h.keep (S := fun _ => False) (Keeps.of_below hb) (fun _ h => h.elim)

/-- the fill of two roots, in the frame -/
theorem BX.fillAt {P : Par} {W : World} {D : Nat → Nat → Int} (h : BX P W D) (ha : P.a.size ≤ 1000000) (hb : P.b.size ≤ 1000000) {R S : List Int} (hR : IsRoots P.xs P.a.size R) (hS : IsRoots P.ys P.b.size S) {r q : Nat} (hr : r < R.length) (hq : q < S.length)
    (hO : DoneO P.xs P.ys R r D) (hI : DoneI P.xs P.ys S (rx R r) q D) :
    Calls Try.prog 46 #[.int .i64 (rx R r : Nat), .int .i64 (rx S q : Nat), .pointer (some ⟨P.q, 0, none⟩), .pointer (some ⟨P.q + 1, 0, none⟩), .pointer (some ⟨P.q + 2, 0, none⟩)] W fun e w' => e = .returned (.tuple #[]) ∧
      ∃ D', BX P w' D' ∧ DoneO P.xs P.ys R r D' ∧ DoneI P.xs P.ys S (rx R r) (q + 1) D' ∧ Keeps P.row W w' := by
  have lx : P.xs.length = P.a.size := post_len _ _ _
  have ly : P.ys.length = P.b.size := post_len _ _ _
  rw [← lx] at hR
  rw [← ly] at hS
  have gx : Good P.xs := post_good P.a
  have gy : Good P.ys := post_good P.b
  obtain ⟨_, hi, hli⟩ := rx_spec hR hr
  obtain ⟨_, hk, hlk⟩ := rx_spec hS hq
  have hl := h.sx.lt
  have li := gx.lf_le _ hi
  have lk := gy.lf_le _ hk
  refine (fill P.xs P.ys P.a.size P.b.size (rx R r) (rx S q) (by omega) (by omega) ha hb W P.q (P.q + 1) (P.q + 2) P.gL P.gF P.gN P.gL' P.gF' P.gN' P.top P.top P.cL P.cF P.cN P.cL' P.cF' P.cN' P.a.size (fun i => P.top + 1 + i) D h.k00 h.k01 h.k10 h.k11 h.k2 h.sx.fa h.sx.fb h.tab h.bd
    (fun s h1 h2 => ?_) (fun t h1 h2 => ?_) (by omega) (by omega) (fun s hs => ?_)).mono ?_
  · refine ⟨?_, by have := gx.lf_le s (by omega); omega⟩
    rcases Nat.lt_or_ge s (rx R r) with h | h
    · exact gx.lam h hi h1
    · rw [show s = rx R r by omega]; exact Nat.le_refl _
  · refine ⟨?_, by have := gy.lf_le t (by omega); omega⟩
    rcases Nat.lt_or_ge t (rx S q) with h | h
    · exact gy.lam h hk h1
    · rw [show t = rx S q by omega]; exact Nat.le_refl _
  · simp only [Par.q]
    refine ⟨?_, ?_, ?_, ?_, ?_, ?_, ?_, ?_, ?_⟩ <;> omega
  · rintro e w' ⟨rfl, hkp, F, hrec, hF, htab⟩
    obtain ⟨s1, s2⟩ := fill_step gx gy hR hS hr hq hrec hO hI
    refine ⟨rfl, _, h.rows hkp htab (fun s t hs ht => ?_), s1, s2, hkp⟩
    split
    · have := hF (s - lf P.xs (rx R r) + 1) (t - lf P.ys (rx S q) + 1)
      omega
    · exact h.bd s t hs ht


theorem SX.at {W : World} {P : Par} (h : SX P W) {a b : Nd} {b5 b6 gL gF gN gL' gF' gN' cL cF cN cL' cF' cN' top : Nat} (e : P = ⟨a, b, b5, b6, gL, gF, gN, gL', gF', gN', cL, cF, cN, cL', cF', cN', top⟩) :
    W.cell? ⟨b5, 0, none⟩ = some (.slice (some ⟨gL, 0, none⟩) a.size cL) ∧ W.cell? ⟨b5, 1, none⟩ = some (.slice (some ⟨gF, 0, none⟩) a.size cF) ∧ W.cell? ⟨b5, 2, none⟩ = some (.slice (some ⟨gN, 0, none⟩) a.size cN) ∧
    W.cell? ⟨b6, 0, none⟩ = some (.slice (some ⟨gL', 0, none⟩) b.size cL') ∧ W.cell? ⟨b6, 1, none⟩ = some (.slice (some ⟨gF', 0, none⟩) b.size cF') ∧ W.cell? ⟨b6, 2, none⟩ = some (.slice (some ⟨gN', 0, none⟩) b.size cN') ∧
    Flat W (post a 0 0) a.size gL gF gN ∧ Flat W (post b 0 0) b.size gL' gF' gN' := by
  subst e
  exact ⟨h.c50, h.c51, h.c52, h.c60, h.c61, h.c62, h.fa, h.fb⟩
theorem lf_small (t : Nd) (ht : t.size ≤ 1000000) : ∀ i, i < t.size → lf (post t 0 0) i ≤ 1000000 := fun i hi => by
  have := (post_good t).lf_le i (by rw [post_len]; exact hi)
  omega
/-- the three boxes of the filler -/
theorem BX.start {P : Par} {W1 : World} (hs : SX P W1) (ht : Tab W1 P.top P.top (fun i => P.top + 1 + i) P.a.size P.b.size (fun _ _ => 0)) (hq : W1.heap.size = P.q) :
    BX P (((W1.alloc (.cells #[.slice (some ⟨P.gL, 0, none⟩) P.a.size P.cL, .slice (some ⟨P.gF, 0, none⟩) P.a.size P.cF, .slice (some ⟨P.gN, 0, none⟩) P.a.size P.cN] 66)).alloc (.cells #[.slice (some ⟨P.gL', 0, none⟩) P.b.size P.cL', .slice (some ⟨P.gF', 0, none⟩) P.b.size P.cF', .slice (some ⟨P.gN', 0, none⟩) P.b.size P.cN'] 66)).alloc (.cells #[.slice (some ⟨P.top, 0, none⟩) P.a.size P.a.size] 30)) (fun _ _ => 0) := by
  generalize ho0 : (Obj.cells #[.slice (some ⟨P.gL, 0, none⟩) P.a.size P.cL, .slice (some ⟨P.gF, 0, none⟩) P.a.size P.cF, .slice (some ⟨P.gN, 0, none⟩) P.a.size P.cN] 66) = o0
  generalize ho1 : (Obj.cells #[.slice (some ⟨P.gL', 0, none⟩) P.b.size P.cL', .slice (some ⟨P.gF', 0, none⟩) P.b.size P.cF', .slice (some ⟨P.gN', 0, none⟩) P.b.size P.cN'] 66) = o1
  generalize ho2 : (Obj.cells #[.slice (some ⟨P.top, 0, none⟩) P.a.size P.a.size] 30) = o2
  have hb : Below W1.heap.size W1 (((W1.alloc o0).alloc o1).alloc o2) := (((Below.refl _ W1).alloc (Nat.le_refl _) _).alloc (by simp) _).alloc (by simp; omega) _
  have h0 : (((W1.alloc o0).alloc o1).alloc o2).heap[P.q]? = some o0 := by
    rw [Below.heap_alloc _ _ _ (by simp; omega), Below.heap_alloc _ _ _ (by simp; omega), ← hq]; exact heap_alloc_new _ _
  have h1 : (((W1.alloc o0).alloc o1).alloc o2).heap[P.q + 1]? = some o1 := by
    rw [Below.heap_alloc _ _ _ (by simp; omega), ← hq]
    have := heap_alloc_new (W1.alloc o0) o1
    simpa using this
  have h2 : (((W1.alloc o0).alloc o1).alloc o2).heap[P.q + 2]? = some o2 := by
    rw [← hq]
    have := heap_alloc_new ((W1.alloc o0).alloc o1) o2
    simpa using this
  refine ⟨hs.keep (S := fun _ => False) (Keeps.of_below hb) (fun _ h => h.elim), ?_, ?_, ?_, ?_, ?_, ht.keep (S := fun _ => False) (Keeps.of_below hb) id (fun _ _ => id), fun _ _ _ _ => ⟨by omega, by omega⟩, by simp; omega⟩
  · simp only [World.cell?, h0]; rw [← ho0]; rfl
  · simp only [World.cell?, h0]; rw [← ho0]; rfl
  · simp only [World.cell?, h1]; rw [← ho1]; rfl
  · simp only [World.cell?, h1]; rw [← ho1]; rfl
  · simp only [World.cell?, h2]; rw [← ho2]; rfl
end Go.Proofs.Ytjijfgkmjachnaa

namespace Go.Proofs.Ytjijfgkmjachnaa
set_option linter.unusedVariables false
set_option linter.unusedSimpArgs false
open Go.RowKit

def SubT (a b : Nd) (T : Nat → Nat → Int) : Prop :=
  ∀ i k, i < a.size → k < b.size → T (nm (post a 0 0) i) (nm (post b 0 0) k) = td (nd (post a 0 0) i) (nd (post b 0 0) k)

set_option maxRecDepth 100000 in
set_option maxHeartbeats 600000 in
theorem subtrees (a b : Nd) (A B : Option Addr) (cA cB : Nat) (w : World) (hA : RN w a A cA) (hB : RN w b B cB) (ha : a.size ≤ 1000000) (hb : b.size ≤ 1000000) :
    Calls Try.prog 30 #[a.val A cA, b.val B cB] w fun e w' => ∃ g bs T, e = .returned (.slice (some ⟨g, 0, none⟩) a.size a.size) ∧ Tab w' w.heap.size g bs a.size b.size T ∧ SubT a b T ∧ Below w.heap.size w w' := by
  obtain ⟨w0, hw0⟩ : ∃ w0, ((w.alloc (.cells #[.int .i64 a.kind, .string a.text, .int .i64 a.pos, .int .i64 a.fin, .slice A a.kids.length cA] 24)).alloc (.cells #[.int .i64 b.kind, .string b.text, .int .i64 b.pos, .int .i64 b.fin, .slice B b.kids.length cB] 24)) = w0 := ⟨_, rfl⟩
  have hbw : Below w.heap.size w w0 := by rw [← hw0]; exact ((Below.refl _ _).alloc (Nat.le_refl _) _).alloc (by simp) _
  have hsz : w0.heap.size = w.heap.size + 2 := by rw [← hw0]; simp
  have ok : X30.Ok ⟨a, b, A, B, cA, cB, w.heap.size, w.heap.size + 1, w0⟩ := by
    have h1 : w0.heap[w.heap.size + 1]? = some (.cells #[.int .i64 b.kind, .string b.text, .int .i64 b.pos, .int .i64 b.fin, .slice B b.kids.length cB] 24 (0, 0)) := by
      rw [← hw0]
      have := heap_alloc_new (w.alloc (.cells #[.int .i64 a.kind, .string a.text, .int .i64 a.pos, .int .i64 a.fin, .slice A a.kids.length cA] 24)) (.cells #[.int .i64 b.kind, .string b.text, .int .i64 b.pos, .int .i64 b.fin, .slice B b.kids.length cB] 24)
      simpa using this
    have h0 : w0.heap[w.heap.size]? = some (.cells #[.int .i64 a.kind, .string a.text, .int .i64 a.pos, .int .i64 a.fin, .slice A a.kids.length cA] 24 (0, 0)) := by
      rw [← hw0, Below.heap_alloc _ _ _ (by simp)]
      exact heap_alloc_new _ _
    refine ⟨⟨?_, ?_, ?_, ?_, ?_⟩, ⟨?_, ?_, ?_, ?_, ?_⟩, RN.keep hbw hA, RN.keep hbw hB, ha, hb⟩ <;> simp [World.cell?, h0, h1]
  have OK := Lib.hid ok
  have HBW := Lib.hid hbw
  have HSZ := Lib.hid hsz
  clear ok hbw hsz hA hB
  unfold Nd.val
  go_enter Try.func30, Try.ntmps30
  go_wp2_with fail
  refine region30 ⟨a, b, A, B, cA, cB, w.heap.size, w.heap.size + 1, w0⟩ OK.out (.agg #[.int .i64 a.kind, .string a.text, .int .i64 a.pos, .int .i64 a.fin, .slice A a.kids.length cA]) (.agg #[.int .i64 b.kind, .string b.text, .int .i64 b.pos, .int .i64 b.fin, .slice B b.kids.length cB]) _ _ _ ?h0 ?hend
  case h0 =>
    refine ⟨_, _, _, _, _, _, rfl, ⟨(Below.refl _ w0).drew, ?_, ?_, ?_, ?_, ?_, ?_, ?_, ?_, ?_⟩⟩ <;> intro e <;> exact absurd e (by simp [Array.getD])
  intro L a' W hI hall
  obtain ⟨v5, v6, v18, v19, v20, v21, rfl, h⟩ := hI
  obtain ⟨b5, rfl, l5, h5⟩ := h.f4 (hall 4 (by omega))
  obtain ⟨b6, rfl, l6, h6⟩ := h.f5 (hall 5 (by omega))
  rw [hall 6 (by omega)] at h5
  rw [hall 7 (by omega)] at h6
  obtain ⟨gL, gF, gN, cL, cF, cN, rfl, FA⟩ := h.f1 (hall 1 (by omega))
  obtain ⟨gL', gF', gN', cL', cF', cN', rfl, FB⟩ := h.f3 (hall 3 (by omega))
  obtain ⟨x0, x1, x2, e5, h5⟩ := (h5.resolve_left (fun h => by cases h.1)).2
  obtain ⟨y0, y1, y2, e6, h6⟩ := (h6.resolve_left (fun h => by cases h.1)).2
  simp only [Value.agg.injEq, Array.mk.injEq, List.cons.injEq, and_true] at e5 e6
  obtain ⟨rfl, rfl, rfl⟩ := e5
  obtain ⟨rfl, rfl, rfl⟩ := e6
  dsimp only at l5 l6 FA FB h5 h6
  have hq := h.bel
  dsimp only at hq
  have hbel : Below w.heap.size w W := HBW.out.trans (hq.mono (by have := HSZ.out; omega))
  have hlow : w.heap.size ≤ b5 ∧ w.heap.size ≤ b6 := by have := HSZ.out; exact ⟨by omega, by omega⟩
  have c50 : W.cell? ⟨b5, 0, none⟩ = some (.slice (some ⟨gL, 0, none⟩) a.size cL) := by simp [World.cell?, h5]
  have c51 : W.cell? ⟨b5, 1, none⟩ = some (.slice (some ⟨gF, 0, none⟩) a.size cF) := by simp [World.cell?, h5]
  have c52 : W.cell? ⟨b5, 2, none⟩ = some (.slice (some ⟨gN, 0, none⟩) a.size cN) := by simp [World.cell?, h5]
  have c60 : W.cell? ⟨b6, 0, none⟩ = some (.slice (some ⟨gL', 0, none⟩) b.size cL') := by simp [World.cell?, h6]
  have c61 : W.cell? ⟨b6, 1, none⟩ = some (.slice (some ⟨gF', 0, none⟩) b.size cF') := by simp [World.cell?, h6]
  have c62 : W.cell? ⟨b6, 2, none⟩ = some (.slice (some ⟨gN', 0, none⟩) b.size cN') := by simp [World.cell?, h6]
  have bl := World.block_lt_of_cell? W
  have hpa := a.size_pos
  have hpb := b.size_pos
  have sx : SX ⟨a, b, b5, b6, gL, gF, gN, gL', gF', gN', cL, cF, cN, cL', cF', cN', W.heap.size⟩ W :=
    ⟨c50, c51, c52, c60, c61, c62, FA, FB, ⟨bl _ c50, bl _ c60, bl _ (FA.lab0 0 hpa), bl _ (FA.lef 0 hpa), bl _ (FA.num 0 hpa), bl _ (FB.lab0 0 hpb), bl _ (FB.lef 0 hpb), bl _ (FB.num 0 hpb)⟩, Nat.le_refl _⟩
  have hwW : w.heap.size ≤ W.heap.size := hbel.size
  clear hq h h5 h6 hall l5 l6 OK HBW HSZ FA FB bl
  clear h5 h6 hw0
  obtain ⟨P, hP⟩ : ∃ P : Par, P = ⟨a, b, b5, b6, gL, gF, gN, gL', gF', gN', cL, cF, cN, cL', cF', cN', W.heap.size⟩ := ⟨_, rfl⟩
  have EA := Lib.hid (show a = P.a by rw [hP])
  have EB := Lib.hid (show b = P.b by rw [hP])
  have HSX := Lib.hid sx
  rw [← hP] at HSX
  have HBL := Lib.hid hbel
  have HP := Lib.hid hP
  clear hbel sx hP hpa hpb hlow
  unfold frm30
  dsimp only
  go_wp2_with fail
  refine (tableMake a.size b.size W (by omega) (by omega)).mono ?_
  rintro e W1 ⟨rfl, htab, hb1, hs1⟩
  have sx1 := (HSX.out).keep (S := fun _ => False) (Keeps.of_below hb1) (fun _ h => h.elim)
  have HT := Lib.hid htab
  have HS1 := Lib.hid hs1
  have HB1 := Lib.hid hb1
  have HSX1 := Lib.hid sx1
  clear HSX htab hs1 hb1 sx1 c50 c51 c52 c60 c61 c62
  have d50 : W1.cell? ⟨b5, 0, none⟩ = some (.slice (some ⟨gL, 0, none⟩) a.size cL) := by have := HSX1.out.c50; rw [HP.out] at this; exact this
  have d51 : W1.cell? ⟨b5, 1, none⟩ = some (.slice (some ⟨gF, 0, none⟩) a.size cF) := by have := HSX1.out.c51; rw [HP.out] at this; exact this
  have d52 : W1.cell? ⟨b5, 2, none⟩ = some (.slice (some ⟨gN, 0, none⟩) a.size cN) := by have := HSX1.out.c52; rw [HP.out] at this; exact this
  have d60 : W1.cell? ⟨b6, 0, none⟩ = some (.slice (some ⟨gL', 0, none⟩) b.size cL') := by have := HSX1.out.c60; rw [HP.out] at this; exact this
  have d61 : W1.cell? ⟨b6, 1, none⟩ = some (.slice (some ⟨gF', 0, none⟩) b.size cF') := by have := HSX1.out.c61; rw [HP.out] at this; exact this
  have d62 : W1.cell? ⟨b6, 2, none⟩ = some (.slice (some ⟨gN', 0, none⟩) b.size cN') := by have := HSX1.out.c62; rw [HP.out] at this; exact this
  go_wp2_with fail
  refine (filler _ _ _ _ _ _ _ _ _ W1).mono ?_
  rintro e W2 ⟨rfl, rfl⟩
  obtain ⟨W2, hW2⟩ : ∃ W2, (((W1.alloc (.cells #[.slice (some ⟨gL, 0, none⟩) a.size cL, .slice (some ⟨gF, 0, none⟩) a.size cF, .slice (some ⟨gN, 0, none⟩) a.size cN] 66)).alloc (.cells #[.slice (some ⟨gL', 0, none⟩) b.size cL', .slice (some ⟨gF', 0, none⟩) b.size cF', .slice (some ⟨gN', 0, none⟩) b.size cN'] 66)).alloc (.cells #[.slice (some ⟨W.heap.size, 0, none⟩) a.size a.size] 30)) = W2 := ⟨_, rfl⟩
  have bx2 : BX P W2 (fun _ _ => 0) := by
    have h := BX.start HSX1.out (by have := HT.out; rw [HP.out]; exact this) (by rw [HS1.out, HP.out]; rfl)
    rw [← hW2]
    rw [HP.out] at h ⊢
    exact h
  have hbw2 : Below w.heap.size w W2 := by
    have h1 := HBL.out.trans (HB1.out.mono HBL.out.size)
    have hz := h1.size
    rw [← hW2]
    exact ((h1.alloc hz _).alloc (by simp; omega) _).alloc (by simp; omega) _
  have HQ := Lib.hid (show W1.heap.size = P.q by rw [HS1.out, HP.out]; rfl)
  have HBX := Lib.hid bx2
  have HB2 := Lib.hid hbw2
  rw [hW2, HQ.out]
  clear hW2 bx2 hbw2 HT HS1 HB1 HSX1 HBL d50 d51 d52 d60 d61 d62
  obtain ⟨e50, e51, e52, e60, e61, e62, fa, _⟩ := HBX.out.sx.at HP.out
  have HFA := Lib.hid fa
  clear fa
  go_wp2_with fail
  refine (roots (post a 0 0) a.size ha W2 gL gF gN cL cF cN HFA.out (lf_small a ha)).mono ?_
  rintro e W3 ⟨v, R, rfl, hI, hR, hb3⟩
  obtain ⟨vA, vc, rfl, _⟩ := hI.val
  have HI := Lib.hid hI
  have HR := Lib.hid (show IsRoots P.xs P.xs.length R by rw [HP.out]; show IsRoots (post a 0 0) (post a 0 0).length R; rw [post_len]; exact hR)
  have HB3 := Lib.hid (HB2.out.trans (hb3.mono HB2.out.size))
  have HBX3 := Lib.hid (HBX.out.below hb3)
  have HZ := Lib.hid HBX.out.sz
  clear hI hR hb3 HBX HB2 e50 e51 e52 e60 e61 e62 HFA
  go_wp2_with fail
  have hrl : R.length ≤ 1000000 := by have := roots_len HR.out; rw [post_len, ← EA.out] at this; omega
  go_loopw [36] (fun s wr => ∃ (r : Nat) (D : Nat → Nat → Int), s = .int .i64 r ∧ r ≤ R.length ∧ BX P wr D ∧ DoneO P.xs P.ys R r D ∧ Ints wr (P.q + 3) (.slice vA R.length vc) R ∧ Below w.heap.size w wr)
    (fun s _ => R.length - (intOf s).toNat)
  case atStart =>
    exact ⟨0, _, rfl, Nat.zero_le _, HBX3.out, (fun s t hs ht ⟨j, hj, _⟩ => by omega), HI.out.mono HZ.out, HB3.out⟩
  case round =>
    obtain ⟨r, D, rfl, hr, hbx, hO, hI, hbl⟩ := hrel
    by_cases hlt : r < R.length
    · obtain ⟨vA', vc', ev, hv⟩ := hI.val
      obtain ⟨rfl, rfl⟩ : vA = vA' ∧ vc = vc' := by simpa using ev
      obtain ⟨gR, rfl, hgR, hcR⟩ := hv.resolve_left (fun h => by rw [h] at hlt; simp at hlt)
      have hrs := (rx_spec (xs := P.xs) (R := R) HR.out hlt)
      have hcr := hcR r hlt
      rw [hrs.1] at hcr
      have hrn : (r : Int) < R.length := by omega
      obtain ⟨e50, e51, e52, e60, e61, e62, _, fb⟩ := hbx.sx.at HP.out
      have HFB := Lib.hid fb
      have HBX := Lib.hid hbx
      have HO := Lib.hid hO
      have HII := Lib.hid hI
      have HBL := Lib.hid hbl
      have HRS := Lib.hid hrs
      clear hrs hbx hO hI hbl fb hcR hv ev hgR
      go_wp2_with fail
      refine (roots (post b 0 0) b.size hb wr gL' gF' gN' cL' cF' cN' HFB.out (lf_small b hb)).mono ?_
      rintro e W4 ⟨v, S, rfl, hI4, hR4, hb4⟩
      obtain ⟨sA, sc, rfl, hsv⟩ := hI4.val
      have HI4 := Lib.hid hI4
      have HS := Lib.hid (show IsRoots P.ys P.ys.length S by rw [HP.out]; show IsRoots (post b 0 0) (post b 0 0).length S; rw [post_len]; exact hR4)
      have HB4 := Lib.hid (HBL.out.trans (hb4.mono HBL.out.size))
      have HBX4 := Lib.hid (HBX.out.below hb4)
      have HII4 := Lib.hid (HII.out.below hb4)
      have HZ4 := Lib.hid HBX.out.sz
      have HW4 := Lib.hid hb4.size
      clear hI4 hR4 hb4 HBX HBL HII e50 e51 e52 e60 e61 e62 HFB hsv
      go_wp2_with fail
      have hsl : S.length ≤ 1000000 := by have := roots_len HS.out; rw [post_len, ← EB.out] at this; omega
      go_loopw [43] (fun s wr => ∃ (q : Nat) (D : Nat → Nat → Int), s = .int .i64 q ∧ q ≤ S.length ∧ BX P wr D ∧ DoneO P.xs P.ys R r D ∧ DoneI P.xs P.ys S (rx R r) q D ∧ Ints wr (P.q + 3) (.slice (some ⟨gR, 0, none⟩) R.length vc) R ∧ Ints wr (P.q + 3) (.slice sA S.length sc) S ∧ Below w.heap.size w wr)
        (fun s _ => S.length - (intOf s).toNat)
      case atStart =>
        exact ⟨0, _, rfl, Nat.zero_le _, HBX4.out, HO.out, (fun s t hs ht _ ⟨j, hj, _⟩ => by omega), HII4.out, HI4.out.mono HZ4.out, HB4.out⟩
      case round =>
        obtain ⟨q, D2, rfl, hq, hbx, hO, hI2, hI, hS, hbl⟩ := hrel
        by_cases hqt : q < S.length
        · obtain ⟨sA', sc', ev, hv⟩ := hS.val
          obtain ⟨rfl, rfl⟩ : sA = sA' ∧ sc = sc' := by simpa using ev
          obtain ⟨gS, rfl, hgS, hcS⟩ := hv.resolve_left (fun h => by rw [h] at hqt; simp at hqt)
          have hqs := (rx_spec (xs := P.ys) (R := S) HS.out hqt)
          have hcq := hcS q hqt
          rw [hqs.1] at hcq
          have hqn : (q : Int) < S.length := by omega
          have HC := Lib.hid (BX.fillAt hbx (by rw [← EA.out]; exact ha) (by rw [← EB.out]; exact hb) (R := R) (S := S) (by rw [← post_len P.a 0 0]; exact HR.out) (by rw [← post_len P.b 0 0]; exact HS.out) hlt hqt hO hI2)
          have HK := Lib.hid hI
          have HKS := Lib.hid hS
          have HBL := Lib.hid hbl
          clear hqs hbx hO hI2 hI hbl hcS hv ev hgS hS
          go_wp2_with fail
          refine HC.out.mono ?_
          rintro e W5 ⟨rfl, D3, b1, b2, b3, b4⟩
          have HR5 := Lib.hid (show BX P W5 D3 ∧ DoneO P.xs P.ys R r D3 ∧ DoneI P.xs P.ys S (rx R r) (q + 1) D3 from ⟨b1, b2, b3⟩)
          have HK5 := Lib.hid (HK.out.keep b4 (fun k ⟨s, _, e⟩ => by simp only [Par.q]; omega))
          have HKS5 := Lib.hid (HKS.out.keep b4 (fun k ⟨s, _, e⟩ => by simp only [Par.q]; omega))
          have HL5 := Lib.hid (HBL.out.trans (b4.below HBL.out.size (fun k ⟨s, _, e⟩ => by rw [HP.out] at e; simp only at e; omega)))
          clear b1 b2 b3 b4
          go_wp2_with fail
          go_roundw
          case rel => exact ⟨q + 1, D3, by go_num, by omega, HR5.out.1, HR5.out.2.1, HR5.out.2.2, HK5.out, HKS5.out, HL5.out⟩
          case measure => simp [intOf]; omega
        · obtain rfl : q = S.length := by omega
          have HR5 := Lib.hid (show BX P wr D2 ∧ DoneO P.xs P.ys R (r + 1) D2 from ⟨hbx, inner_end HS.out hO hI2⟩)
          have HK := Lib.hid hI
          have HBL := Lib.hid hbl
          clear hbx hO hI2 hI hbl hS
          go_wp2_with fail
          go_roundw
          case rel => exact ⟨r + 1, D2, by go_num, by omega, HR5.out.1, HR5.out.2, HK.out, HBL.out⟩
          case measure => simp [intOf]; omega
    · obtain rfl : r = R.length := by omega
      have HBX := Lib.hid hbx
      have HD := Lib.hid (fun (s t : Nat) (hs : s < a.size) (ht : t < b.size) => outer_end (xs := P.xs) (ys := P.ys) HR.out hO (s := s) (t := t) (by rw [post_len, ← EA.out]; exact hs) (by rw [post_len, ← EB.out]; exact ht))
      obtain ⟨e50, e51, e52, e60, e61, e62, fa, fb⟩ := hbx.sx.at HP.out
      have HFA := Lib.hid fa
      have HFB := Lib.hid fb
      have HBL := Lib.hid hbl
      clear hbx hO hI hbl fa fb
      go_wp2_with fail
      refine (tableMake a.size b.size wr (by omega) (by omega)).mono ?_
      rintro e W5 ⟨rfl, htab, hb5, hs5⟩
      have HT := Lib.hid htab
      have HBX5 := Lib.hid (HBX.out.below hb5)
      have HB5 := Lib.hid (HBL.out.trans (hb5.mono HBL.out.size))
      have hwr := HBL.out.size
      have HZr := Lib.hid HBX.out.sz
      clear htab hb5 hs5 e50 e51 e52 e60 e61 e62 HFA HFB HBX HBL
      go_wp2_with fail
      obtain ⟨G, hG⟩ : ∃ G, wr.heap.size = G := ⟨_, rfl⟩
      rw [hG] at HT hwr HZr ⊢
      clear hG
      go_loopw [62] (fun s wz => ∃ (i : Nat) (T : Nat → Nat → Int), s = .int .i64 i ∧ i ≤ a.size ∧ BX P wz D ∧ Tab wz G G (fun i => G + 1 + i) a.size b.size T ∧
          (∀ i' k', i' < i → k' < b.size → T (nm (post a 0 0) i') (nm (post b 0 0) k') = D i' k') ∧ Below w.heap.size w wz)
        (fun s _ => a.size - (intOf s).toNat)
      case atStart =>
        exact ⟨0, _, rfl, Nat.zero_le _, HBX5.out, HT.out, (fun i' k' h => by omega), HB5.out⟩
      case round =>
        obtain ⟨i, T, rfl, hi, hbx, hT, hd, hbl⟩ := hrel
        by_cases hia : i < a.size
        · have hin : (i : Int) < a.size := by omega
          have z0 := hbx.tab.outer i (by rw [← EA.out]; exact hia)
          rw [HP.out] at z0
          dsimp only at z0
          have HBX := Lib.hid hbx
          have HTT := Lib.hid hT
          have HDD := Lib.hid hd
          have HBL := Lib.hid hbl
          clear hbx hT hd hbl
          go_wp2_with fail
          clear z0
          go_loopw [69] (fun s wz => ∃ (k : Nat) (T : Nat → Nat → Int), s = .int .i64 k ∧ k ≤ b.size ∧ BX P wz D ∧ Tab wz G G (fun i => G + 1 + i) a.size b.size T ∧
              (∀ i' k', (i' < i ∧ k' < b.size) ∨ (i' = i ∧ k' < k) → T (nm (post a 0 0) i') (nm (post b 0 0) k') = D i' k') ∧ Below w.heap.size w wz)
            (fun s _ => b.size - (intOf s).toNat)
          case atStart =>
            exact ⟨0, T, rfl, Nat.zero_le _, HBX.out, HTT.out, (fun i' k' h => by rcases h with h | h; exact HDD.out i' k' h.1 h.2; omega), HBL.out⟩
          case round =>
            clear HBX HTT HDD HBL
            obtain ⟨k, T2, rfl, hk, hbx, hT, hd, hbl⟩ := hrel
            by_cases hkb : k < b.size
            · have hkn : (k : Int) < b.size := by omega
              have ni := nm_lt a i hia
              have nk := nm_lt b k hkb
              have z0 := hbx.tab.inner i k (by rw [← EA.out]; exact hia) (by rw [← EB.out]; exact hkb)
              rw [HP.out] at z0
              dsimp only at z0
              obtain ⟨_, _, z1, _, _, z2, fa, fb⟩ := hbx.sx.at HP.out
              have z3 := fa.num i hia
              have z4 := fb.num k hkb
              have z5 := hT.outer _ ni
              have z6 := hT.inner _ _ ni nk
              have z7 := hT.free _ _ ni nk
              obtain ⟨ii, hii⟩ : ∃ ii, nm (post a 0 0) i = ii := ⟨_, rfl⟩
              obtain ⟨kk, hkk⟩ : ∃ kk, nm (post b 0 0) k = kk := ⟨_, rfl⟩
              rw [hii] at z3 z5 z6 z7 ni
              rw [hkk] at z4 z6 z7 nk
              have ni' : (ii : Int) < a.size := by omega
              have nk' : (kk : Int) < b.size := by omega
              obtain ⟨rb, hrb⟩ : ∃ rb, G + 1 + ii = rb := ⟨_, rfl⟩
              rw [hrb] at z5 z6 z7
              have HII := Lib.hid hii
              have HKK := Lib.hid hkk
              have HRB := Lib.hid hrb
              have HBX := Lib.hid hbx
              have HTT := Lib.hid hT
              have HDD := Lib.hid hd
              have HBL := Lib.hid hbl
              clear hbx hT hd hbl fa fb hii hkk hrb
              go_wp2_with fail
              go_still_tail 15, (by kernel_rfl)
              go_wp2_with fail
              go_roundw
              case rel =>
                have hrb := HRB.out
                have hii := HII.out
                have hkk := HKK.out
                have hzr := HZr.out
                refine ⟨k + 1, upd T2 ii kk (D i k), by go_num, by omega, ?_, ?_, fun i' k' h => ?_, ?_⟩
                · exact HBX.out.keepHi (S := fun b => b = rb) ((Keeps.refl (fun b => b = rb) _).setCell (p := ⟨rb, kk, none⟩) (.inl rfl) _).drew (fun b hb => by rw [hb]; omega)
                · have := (HTT.out.set ni nk (D i k)).drewN 1
                  rw [← hrb]
                  exact this
                · by_cases he : i' = i ∧ k' = k
                  · obtain ⟨rfl, rfl⟩ := he
                    rw [hii, hkk]
                    exact upd_same _ _ _ _
                  · have hlt : i' < a.size ∧ k' < b.size := by rcases h with h | h <;> exact ⟨by omega, by omega⟩
                    rw [upd_other]
                    · exact HDD.out i' k' (by omega)
                    · rintro ⟨h1, h2⟩
                      rw [← hii] at h1
                      rw [← hkk] at h2
                      exact he ⟨nm_inj a _ _ hlt.1 hia h1, nm_inj b _ _ hlt.2 hkb h2⟩
                · exact (HBL.out.setCell (p := ⟨rb, kk, none⟩) (by show w.heap.size ≤ rb; omega) _).drew
              case measure => simp [intOf]; omega
            · obtain rfl : k = b.size := by omega
              have HBX := Lib.hid hbx
              have HTT := Lib.hid hT
              have HDD := Lib.hid hd
              have HBL := Lib.hid hbl
              clear hbx hT hd hbl
              go_wp2_with fail
              go_roundw
              case rel => exact ⟨i + 1, T2, by go_num, by omega, HBX.out, HTT.out, fun i' k' h1 h2 => HDD.out i' k' (by omega), HBL.out⟩
              case measure => simp [intOf]; omega
        · obtain rfl : i = a.size := by omega
          have HTT := Lib.hid hT
          have HDD := Lib.hid hd
          have HBL := Lib.hid hbl
          clear hbx hT hd hbl
          go_wp2_with fail
          go_ret
          refine ⟨G, (fun i => G + 1 + i), T, rfl, ?_, fun i k hi hk => ?_, HBL.out⟩
          · have h := HTT.out
            exact ⟨h.outer, h.inner, h.free, h.inj, h.ne, fun i hi => ⟨by have := (h.lo i hi).1; omega, (h.lo i hi).2⟩, ⟨by have := h.glo.1; omega, h.glo.2⟩⟩
          · rw [HDD.out i k hi hk, HD.out i k hi hk]
            have ea := EA.out
            have eb := EB.out
            show ((td (nd (post P.a 0 0) i) (nd (post P.b 0 0) k) : Nat) : Int) = _
            rw [← ea, ← eb]
end Go.Proofs.Ytjijfgkmjachnaa
