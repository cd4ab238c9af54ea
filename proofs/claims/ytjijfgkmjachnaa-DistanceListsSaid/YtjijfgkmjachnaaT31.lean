import Derived.Test.YtjijfgkmjachnaaT30
import Derived.Test.YtjijfgkmjachnaaShelf
namespace Go.Proofs.Ytjijfgkmjachnaa
set_option linter.unusedVariables false
set_option linter.unusedSimpArgs false
open Go.RowKit Go.Shelf Go.Maps Go.Sort

theorem sortsIn (m : Nat) : AnyZI.SortsIn Try.prog Try.laysSorted_ren Fence.wide m :=
  ⟨fun blk off cap ss W hH hblk hsz => callsIn_wide.2 (Try.slices_Sort_int blk off cap ss W hH hblk hsz),
   fun p cap W => callsIn_wide.2 (Try.slices_Sort_int_none p cap W)⟩

theorem values_any (mb : Option Nat) (w : World) :
    Calls Try.prog 48 #[.map mb] w fun e w' => e = .returned (.func (.func 53) #[] #[.pointer (some ⟨w.heap.size, 0, none⟩)]) ∧ w' = w.alloc (.cells #[.map mb] 84) :=
  (callsIn_wide (n := 5)).1 (values_in 5 mb w)

theorem sorted_any {H : Type} (Bm b nn : Nat) (D0 : DataW H) (w : World) (hBm : Bm < w.heap.size)
    (hm : w.cell? ⟨Bm, 0, none⟩ = some (.map (some b))) (hown : w.ownsMap Try.prog 3 (plainElem Try.prog 3) b nn D0) (hmax : Maps.size D0 ≤ 1000000) :
    Calls Try.prog 47 #[.func (.func 53) #[] #[.pointer (some ⟨Bm, 0, none⟩)]] w fun e w' => ∃ (v : Value) (ss : List Int), e = .returned v ∧ (∃ ps, AllI D0 ps ∧ ss = ps.map (·.2)) ∧
      w'.ownsRow w.heap.size 3 1 v ss.length ((ss.mergeSort (fun x y => decide (x ≤ y))).map encZ) ∧ Below w.heap.size w w' := by
  have hseq := values_gives (n := 2) (by omega) Bm b nn D0 w hBm hm hown
  have cS := AnyZI.sorted_in Try.laysSorted Fence.wide 5 trivial trivial trivial trivial rfl (by omega) (sortsIn _) (enters_of Try.func52 (by kernel_rfl) rfl) 53 #[.pointer (some ⟨Bm, 0, none⟩)] trivial (enters_of Try.func53 (by kernel_rfl) rfl) _ _ (by simp only [maxLen]; omega) (by omega) _ hseq
  refine ((callsIn_wide (n := 5)).1 cS).mono ?_
  rintro e w' ⟨v, ss, h1, h2, h3, h4, h5⟩
  exact ⟨v, ss, h1, h2, h3, h5⟩

/-- A value that is a slice of the ints R. -/
structure Ints (w : World) (lo : Nat) (v : Value) (R : List Int) : Prop where
  val : ∃ A c, v = .slice A R.length c ∧ (R = [] ∨ ∃ g, A = some ⟨g, 0, none⟩ ∧ lo ≤ g ∧ ∀ i, i < R.length → w.cell? ⟨g, i, none⟩ = some (.int .i64 (R.getD i 0)))

theorem ints_of_row {w : World} {base : Nat} {v : Value} {R : List Int} (h : w.ownsRow base 3 1 v R.length (R.map encZ)) : Ints w base v R := by
  obtain ⟨h1, h⟩ := h
  rcases h with ⟨rfl, h0⟩ | ⟨g, cap, cur, rfl, hg, hc, hle, _, hsz, hcur⟩
  · have hR : R = [] := List.length_eq_zero_iff.1 h0
    subst hR
    exact ⟨none, 0, rfl, .inl rfl⟩
  · refine ⟨_, cap, rfl, .inr ⟨g, rfl, hg, fun i hi => ?_⟩⟩
    unfold World.cell?
    rw [hc]
    have : cur.toList[i]? = some (encZ (R.getD i 0)) := by
      have h2 : (cur.toList.take (R.length * 1))[i]? = some (encZ (R.getD i 0)) := by
        rw [hcur, List.getElem?_map, List.getElem?_eq_getElem hi]; simp [List.getD, hi]
      rw [List.getElem?_take] at h2
      simpa [hi] using h2
    simpa using this

theorem Ints.mono {w : World} {lo lo' : Nat} {v : Value} {R : List Int} (h : Ints w lo v R) (hl : lo' ≤ lo) : Ints w lo' v R := by
  obtain ⟨A, c, e, h⟩ := h.val
  exact ⟨A, c, e, h.imp id (fun ⟨g, a, b, d⟩ => ⟨g, a, by omega, d⟩)⟩

/-- R are the roots: strictly up; the last place of each value of lf. -/
def IsRoots (xs : List Ent) (n : Nat) (R : List Int) : Prop :=
  R.Pairwise (· < ·) ∧ ∀ i : Int, i ∈ R ↔ ∃ k : Nat, i = k ∧ k < n ∧ ∀ j, k < j → j < n → lf xs j ≠ lf xs k

def RootMap {H : Type} (xs : List Ent) (k : Nat) (D : DataW H) : Prop :=
  (∀ x : Int, has D (.int .i64 x) = true ↔ ∃ i : Nat, i < k ∧ x = lf xs i) ∧
  (∀ i : Nat, i < k → (∀ j, i < j → j < k → lf xs j ≠ lf xs i) → ∀ zd, D.atKey (.int .i64 (lf xs i)) zd = .lit (.int .i64 i))

theorem rootMap_nil {H : Type} (xs : List Ent) : RootMap xs 0 (.map [] : DataW H) :=
  ⟨fun x => by constructor
               · intro h; simp [has, DataW.atKey] at h
               · rintro ⟨i, hi, _⟩; omega, fun i hi => by omega⟩

theorem rootMap_put {H : Type} {xs : List Ent} {k : Nat} {D : DataW H} (h : RootMap xs k D) (hD : IsMap D) : RootMap xs (k + 1) (D.put (.int .i64 (lf xs k)) (.lit (.int .i64 k))) := by
  obtain ⟨h1, h2⟩ := h
  refine ⟨fun x => ?_, fun i hi hl zd => ?_⟩
  · by_cases hx : x = lf xs k
    · subst hx
      rw [has_put_same hD (by simp [WideAt.IsKeyLit])]
      exact ⟨fun _ => ⟨k, by omega, rfl⟩, fun _ => rfl⟩
    · rw [has_put_other (by simpa using hx), h1]
      constructor
      · rintro ⟨i, hi, e⟩; exact ⟨i, by omega, e⟩
      · rintro ⟨i, hi, e⟩
        refine ⟨i, ?_, e⟩
        rcases Nat.lt_or_ge i k with h | h
        · exact h
        · exact absurd (show x = lf xs k by rw [e, show i = k by omega]) hx
  · rcases Nat.lt_or_ge i k with h | h
    · have hne : lf xs k ≠ lf xs i := hl k h (by omega)
      rw [atKey_put_other (by simp; omega)]
      exact h2 i h (fun j hj hjk => hl j hj (by omega)) zd
    · obtain rfl : i = k := by omega
      rw [atKey_put_same hD (by simp [WideAt.IsKeyLit])]

/-- among the indices below n with the same lf as i there is a last one. -/
theorem exists_last (xs : List Ent) (n : Nat) : ∀ (d i : Nat), n - i ≤ d → i < n → ∃ k, k < n ∧ i ≤ k ∧ lf xs k = lf xs i ∧ ∀ j, k < j → j < n → lf xs j ≠ lf xs k
  | 0, i, h, hi => by omega
  | d + 1, i, h, hi => by
    by_cases hq : ∃ j, i < j ∧ j < n ∧ lf xs j = lf xs i
    · obtain ⟨j, h1, h2, h3⟩ := hq
      obtain ⟨k, a, b, c, e⟩ := exists_last xs n d j (by omega) h2
      exact ⟨k, a, by omega, by rw [c, h3], e⟩
    · exact ⟨i, hi, Nat.le_refl _, rfl, fun j hj hjn hl => hq ⟨j, hj, hjn, hl⟩⟩

theorem roots_of {H : Type} {xs : List Ent} {n : Nat} {D : DataW H} (h : RootMap xs n D) {ps : List (Int × Int)} (hA : AllI D ps) :
    IsRoots xs n ((ps.map (·.2)).mergeSort (fun x y => decide (x ≤ y))) := by
  obtain ⟨h1, h2⟩ := h
  obtain ⟨_, hnd, hmem, hval⟩ := hA
  have hp : ∀ p ∈ ps, ∃ k : Nat, k < n ∧ p = (((lf xs k : Nat) : Int), (k : Int)) ∧ ∀ j, k < j → j < n → lf xs j ≠ lf xs k := by
    intro p hp
    obtain ⟨i, hi, e⟩ := (h1 p.1).1 ((hmem p.1).1 (List.mem_map.2 ⟨p, hp, rfl⟩))
    obtain ⟨k, k1, k2, k3, k4⟩ := exists_last xs n _ i (Nat.le_refl _) hi
    have hv := hval p hp
    have ha := h2 k k1 k4
    refine ⟨k, k1, ?_, k4⟩
    have e1 : p.1 = (lf xs k : Nat) := by rw [e, k3]
    have := hv (.lit (.int .i64 0))
    rw [e1, ha] at this
    simp at this
    exact Prod.ext e1 this.symm
  have hnd2 : (ps.map (·.2)).Nodup := by
    rw [List.Nodup, List.pairwise_map] at hnd ⊢
    refine hnd.imp_of_mem ?_
    intro a b ha hb hne e
    obtain ⟨k, _, rfl, _⟩ := hp a ha
    obtain ⟨l, _, rfl, _⟩ := hp b hb
    apply hne
    have : k = l := by simp at e; omega
    rw [this]
  have tr : ∀ a b c : Int, decide (a ≤ b) = true → decide (b ≤ c) = true → decide (a ≤ c) = true := fun a b c h1 h2 => by simp only [decide_eq_true_eq] at *; omega
  have to : ∀ a b : Int, (decide (a ≤ b) || decide (b ≤ a)) = true := fun a b => by simp only [Bool.or_eq_true, decide_eq_true_eq]; omega
  have hperm := List.mergeSort_perm (ps.map (·.2)) (fun x y => decide (x ≤ y))
  have hs := List.pairwise_mergeSort tr to (ps.map (·.2))
  refine ⟨?_, fun i => ?_⟩
  · have hn3 := hperm.nodup_iff.2 hnd2
    refine (hs.and hn3).imp ?_
    rintro a b ⟨h1, h2⟩
    simp only [decide_eq_true_eq] at h1
    omega
  · rw [hperm.mem_iff, List.mem_map]
    constructor
    · rintro ⟨p, hpm, rfl⟩
      obtain ⟨k, k1, rfl, k2⟩ := hp p hpm
      exact ⟨k, rfl, k1, k2⟩
    · rintro ⟨k, rfl, k1, k2⟩
      obtain ⟨p, hpm, e⟩ := List.mem_map.1 ((hmem (lf xs k : Nat)).2 ((h1 _).2 ⟨k, k1, rfl⟩))
      refine ⟨p, hpm, ?_⟩
      have := hval p hpm (.lit (.int .i64 0))
      rw [e, h2 k k1 k2] at this
      simp at this
      exact this.symm
end Go.Proofs.Ytjijfgkmjachnaa
