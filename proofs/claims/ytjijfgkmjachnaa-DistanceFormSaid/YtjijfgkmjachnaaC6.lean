/- Seat 37, texts merged: the walks of the exported functions. Lemmas for the laws of chapter 37; no conditions of their own beyond what each states. -/
import Derived.Test.YtjijfgkmjachnaaC5
import Derived.Test.YtjijfgkmjachnaaC1
import Derived.Deep.RegionHeld3
import Derived.Deep.DrawnRows
namespace Go.Proofs.Ytjijfgkmjachnaa
set_option linter.unusedVariables false
set_option linter.unusedSimpArgs false
open Go.RowKit

def cells5 (t : Nd) (A : Option Addr) (c : Nat) : List Value := [.int .i64 t.kind, .string t.text, .int .i64 t.pos, .int .i64 t.fin, .slice A t.kids.length c]
theorem RN.two {W : World} {m : Nat} {a b : Nd} {A B : Option Addr} {cA cB : Nat} (hA : RN W a A cA) (hB : RN W b B cB)
    (h : W.heap[m]? = some (.cells (cells5 a A cA ++ cells5 b B cB).toArray 24 (0, 0))) : RN W (asN [a, b]) (some ⟨m, 0, none⟩) 2 := by
  have hc : ∀ o v, (cells5 a A cA ++ cells5 b B cB)[o]? = some v → W.cell? ⟨m, o, none⟩ = some v := fun o v e => by
    unfold World.cell?; rw [h]; simpa using e
  refine .mk (asN [a, b]) m 0 2 (fun i => if i = 0 then A else B) (fun i => if i = 0 then cA else cB) (by simp [asN, Nd.kids]) (by simp [asN, Nd.kids]) (fun i hi => ?_) (fun i hi => ?_)
  · have : i = 0 ∨ i = 1 := by simp [asN, Nd.kids] at hi; omega
    rcases this with rfl | rfl
    · exact ⟨hc _ _ rfl, hc _ _ rfl, hc _ _ rfl, hc _ _ rfl, hc _ _ rfl⟩
    · exact ⟨hc _ _ rfl, hc _ _ rfl, hc _ _ rfl, hc _ _ rfl, hc _ _ rfl⟩
  · have : i = 0 ∨ i = 1 := by simp [asN, Nd.kids] at hi; omega
    rcases this with rfl | rfl
    · exact hA
    · exact hB

theorem SubT.zero {a b : Nd} {T : Nat → Nat → Int} (h : SubT a b T) : T 0 0 = td a b := by
  have ha := a.size_pos
  have hb := b.size_pos
  have := h (a.size - 1) (b.size - 1) (by omega) (by omega)
  simp only [nm, nd, post_last] at this
  exact this

theorem heap3 (w : World) (o0 o1 o2 : Obj) : (((w.alloc o0).alloc o1).alloc o2).heap[w.heap.size]? = some o0 ∧ (((w.alloc o0).alloc o1).alloc o2).heap[w.heap.size + 1]? = some o1 ∧ (((w.alloc o0).alloc o1).alloc o2).heap[w.heap.size + 1 + 1]? = some o2 := by
  refine ⟨?_, ?_, ?_⟩
  · rw [Below.heap_alloc _ _ _ (by simp; omega), Below.heap_alloc _ _ _ (by simp)]; exact heap_alloc_new _ _
  · rw [Below.heap_alloc _ _ _ (by simp)]
    have := heap_alloc_new (w.alloc o0) o1
    simpa using this
  · have := heap_alloc_new ((w.alloc o0).alloc o1) o2
    simpa using this
theorem At5.of {W : World} {b : Nat} {t : Nd} {A : Option Addr} {c : Nat} (h : W.heap[b]? = some (.cells (cells5 t A c).toArray 24 (0, 0))) : At5 W b 0 t A c := by
  have hc : ∀ o v, (cells5 t A c)[o]? = some v → W.cell? ⟨b, o, none⟩ = some v := fun o v e => by
    unfold World.cell?; rw [h]; simpa using e
  exact ⟨hc _ _ rfl, hc _ _ rfl, hc _ _ rfl, hc _ _ rfl, hc _ _ rfl⟩

def dV (a b : Nd) : Int := if bigAny [a, b] then 0 else (td a b : Nat)
def dC (a b : Nd) : Int := if bigAny [a, b] then 8 else 0

set_option maxRecDepth 100000 in
set_option maxHeartbeats 1000000 in
theorem Distance (a b : Nd) (A B : Option Addr) (cA cB : Nat) (w : World) (hA : RN w a A cA) (hB : RN w b B cB) (ha : a.size ≤ 1000000) (hb : b.size ≤ 1000000) :
    Calls Try.prog 12 #[a.val A cA, b.val B cB] w fun e w' => e = .returned (.tuple #[.int .i64 (dV a b), .int .i64 (dC a b)]) ∧ Below w.heap.size w w' := by
  have HL : ∀ (w1 : World) (m : Nat), Below w.heap.size w w1 → w1.heap[m]? = some (.cells (cells5 a A cA ++ cells5 b B cB).toArray 24 (0, 0)) →
      Calls Try.prog 29 #[.slice (some ⟨m, 0, none⟩) 2 2] w1 fun e w' => e = .returned (.bool (bigAny [a, b])) ∧ Below w1.heap.size w1 w' := fun w1 m h1 h2 =>
    large [a, b] _ 2 w1 (RN.two (RN.keep h1 hA) (RN.keep h1 hB) h2) (by simp; omega)
  have HS : ∀ (w1 : World), Below w.heap.size w w1 → Calls Try.prog 30 #[a.val A cA, b.val B cB] w1 fun e w' => ∃ g bs T, e = .returned (.slice (some ⟨g, 0, none⟩) a.size a.size) ∧ Tab w' w1.heap.size g bs a.size b.size T ∧ SubT a b T ∧ Below w1.heap.size w1 w' :=
    fun w1 h1 => subtrees a b A B cA cB w1 (RN.keep h1 hA) (RN.keep h1 hB) ha hb
  have hpa := a.size_pos
  have hpb := b.size_pos
  unfold Nd.val at HS ⊢
  have HL := Lib.hid HL
  have HS := Lib.hid HS
  clear hA hB
  go_enter Try.func12, Try.ntmps12
  go_wp2_with fail
  refine (HL.out _ _ ?_ ?_).mono ?_
  · exact (((Below.refl _ _).alloc (Nat.le_refl _) _).alloc (by simp) _).alloc (by simp; omega) _
  · have := heap_alloc_new ((w.alloc (.cells (cells5 a A cA).toArray 24)).alloc (.cells (cells5 b B cB).toArray 24)) (.cells (cells5 a A cA ++ cells5 b B cB).toArray 24)
    simpa [cells5] using this
  rintro e w' ⟨rfl, hb1⟩
  have hbw : Below w.heap.size w w' := ((((Below.refl _ _).alloc (Nat.le_refl _) _).alloc (by simp) _).alloc (by simp; omega) _).trans (hb1.mono (by simp; omega))
  obtain ⟨h0, h1, _⟩ := heap3 w (.cells (cells5 a A cA).toArray 24) (.cells (cells5 b B cB).toArray 24) (.cells (cells5 a A cA ++ cells5 b B cB).toArray 24)
  have p1 : At5 w' w.heap.size 0 a A cA := At5.keep (At5.of h0) hb1 (by simp [cells5]; omega)
  have p2 : At5 w' (w.heap.size + 1) 0 b B cB := At5.keep (At5.of h1) hb1 (by simp [cells5])
  obtain ⟨a0, a1, a2, a3, a4⟩ := p1
  obtain ⟨b0, b1, b2, b3, b4⟩ := p2
  have HB := Lib.hid hbw
  clear hb1 hbw h0 h1 HL
  cases hq : bigAny [a, b] with
  | true =>
    have HQ := Lib.hid hq
    clear hq
    go_wp2_with fail
    go_ret2
    exact ⟨by simp [dV, dC, HQ.out], HB.out⟩
  | false =>
    have HQ := Lib.hid hq
    clear hq
    go_wp2_with fail
    refine (HS.out w' HB.out).mono ?_
    rintro e w2 ⟨g, bs, T, rfl, hT, hS, hb2⟩
    have z0 := hT.outer 0 hpa
    have z1 := hT.inner 0 0 hpa hpb
    rw [hS.zero] at z1
    have hsz : (0 : Int) < a.size := by omega
    have hsz' : (0 : Int) < b.size := by omega
    have HB2 := Lib.hid (HB.out.trans (hb2.mono HB.out.size))
    clear hT hS hb2 HS
    go_wp2_with fail
    go_ret2
    exact ⟨by simp [dV, dC, HQ.out], HB2.out⟩
end Go.Proofs.Ytjijfgkmjachnaa

namespace Go.Proofs.Ytjijfgkmjachnaa
set_option linter.unusedVariables false
set_option linter.unusedSimpArgs false
open Go.RowKit

theorem dC_eq (a b : Nd) : dC a b = 0 ∨ dC a b = 8 := by unfold dC; split <;> simp
theorem dV_bd (a b : Nd) : 0 ≤ dV a b := by unfold dV; split <;> omega

set_option maxRecDepth 100000 in
set_option maxHeartbeats 1000000 in
theorem Within (a b : Nd) (A B : Option Addr) (cA cB : Nat) (m : Int) (w : World) (hA : RN w a A cA) (hB : RN w b B cB) (ha : a.size ≤ 1000000) (hb : b.size ≤ 1000000) :
    Calls Try.prog 19 #[a.val A cA, b.val B cB, .int .i64 m] w fun e w' => e = .returned (.tuple #[.bool (decide (dC a b = 0) && decide (dV a b ≤ m)), .int .i64 (dC a b)]) ∧ Below w.heap.size w w' := by
  have HS : ∀ (w1 : World), Below w.heap.size w w1 → Calls Try.prog 12 #[a.val A cA, b.val B cB] w1 fun e w' => e = .returned (.tuple #[.int .i64 (dV a b), .int .i64 (dC a b)]) ∧ Below w1.heap.size w1 w' :=
    fun w1 h1 => Distance a b A B cA cB w1 (RN.keep h1 hA) (RN.keep h1 hB) ha hb
  have hc := dC_eq a b
  unfold Nd.val at HS ⊢
  have HS := Lib.hid HS
  clear hA hB
  generalize dV a b = v at *
  go_enter Try.func19, Try.ntmps19
  go_wp2_with fail
  refine (HS.out _ ((((Below.refl _ _).alloc (Nat.le_refl _) _).alloc (by simp) _))).mono ?_
  rintro e w' ⟨rfl, hb1⟩
  have HB := Lib.hid (((((Below.refl _ _).alloc (Nat.le_refl _) _).alloc (by simp) _) : Below w.heap.size w _).trans (hb1.mono (by simp; omega)))
  clear hb1 HS
  rcases hc with h | h
  · have HH := Lib.hid h
    rw [h]
    clear h
    by_cases hm : v ≤ m
    · go_wp2_with fail
      go_ret2
      exact ⟨by simp [hm, HH.out], HB.out⟩
    · go_wp2_with fail
      go_ret2
      exact ⟨by simp [hm, HH.out], HB.out⟩
  · have HH := Lib.hid h
    rw [h]
    clear h
    go_wp2_with fail
    go_ret2
    exact ⟨by simp [HH.out], HB.out⟩
end Go.Proofs.Ytjijfgkmjachnaa

namespace Go.Proofs.Ytjijfgkmjachnaa
set_option linter.unusedVariables false
set_option linter.unusedSimpArgs false
open Go.RowKit

set_option maxRecDepth 100000 in
set_option maxHeartbeats 1000000 in
theorem Subtrees (a b : Nd) (A B : Option Addr) (cA cB : Nat) (w : World) (hA : RN w a A cA) (hB : RN w b B cB) (ha : a.size ≤ 1000000) (hb : b.size ≤ 1000000) :
    Calls Try.prog 13 #[a.val A cA, b.val B cB] w fun e w' => ((bigAny [a, b] = true ∧ e = .returned (.tuple #[.slice none 0 0, .int .i64 8])) ∨ (bigAny [a, b] = false ∧ ∃ g bs T, e = .returned (.tuple #[.slice (some ⟨g, 0, none⟩) a.size a.size, .int .i64 0]) ∧ Tab w' w.heap.size g bs a.size b.size T ∧ SubT a b T)) ∧ Below w.heap.size w w' := by
  have HL : ∀ (w1 : World) (m : Nat), Below w.heap.size w w1 → w1.heap[m]? = some (.cells (cells5 a A cA ++ cells5 b B cB).toArray 24 (0, 0)) →
      Calls Try.prog 29 #[.slice (some ⟨m, 0, none⟩) 2 2] w1 fun e w' => e = .returned (.bool (bigAny [a, b])) ∧ Below w1.heap.size w1 w' := fun w1 m h1 h2 =>
    large [a, b] _ 2 w1 (RN.two (RN.keep h1 hA) (RN.keep h1 hB) h2) (by simp; omega)
  have HS : ∀ (w1 : World), Below w.heap.size w w1 → Calls Try.prog 30 #[a.val A cA, b.val B cB] w1 fun e w' => ∃ g bs T, e = .returned (.slice (some ⟨g, 0, none⟩) a.size a.size) ∧ Tab w' w1.heap.size g bs a.size b.size T ∧ SubT a b T ∧ Below w1.heap.size w1 w' :=
    fun w1 h1 => subtrees a b A B cA cB w1 (RN.keep h1 hA) (RN.keep h1 hB) ha hb
  have hpa := a.size_pos
  have hpb := b.size_pos
  unfold Nd.val at HS ⊢
  have HL := Lib.hid HL
  have HS := Lib.hid HS
  clear hA hB
  go_enter Try.func13, Try.ntmps13
  go_wp2_with fail
  refine (HL.out _ _ ?_ ?_).mono ?_
  · exact (((Below.refl _ _).alloc (Nat.le_refl _) _).alloc (by simp) _).alloc (by simp; omega) _
  · have := heap_alloc_new ((w.alloc (.cells (cells5 a A cA).toArray 24)).alloc (.cells (cells5 b B cB).toArray 24)) (.cells (cells5 a A cA ++ cells5 b B cB).toArray 24)
    simpa [cells5] using this
  rintro e w' ⟨rfl, hb1⟩
  have hbw : Below w.heap.size w w' := ((((Below.refl _ _).alloc (Nat.le_refl _) _).alloc (by simp) _).alloc (by simp; omega) _).trans (hb1.mono (by simp; omega))
  obtain ⟨h0, h1, _⟩ := heap3 w (.cells (cells5 a A cA).toArray 24) (.cells (cells5 b B cB).toArray 24) (.cells (cells5 a A cA ++ cells5 b B cB).toArray 24)
  have p1 : At5 w' w.heap.size 0 a A cA := At5.keep (At5.of h0) hb1 (by simp [cells5]; omega)
  have p2 : At5 w' (w.heap.size + 1) 0 b B cB := At5.keep (At5.of h1) hb1 (by simp [cells5])
  obtain ⟨a0, a1, a2, a3, a4⟩ := p1
  obtain ⟨b0, b1, b2, b3, b4⟩ := p2
  have HB := Lib.hid hbw
  clear hb1 hbw h0 h1 HL
  cases hq : bigAny [a, b] with
  | true =>
    have HQ := Lib.hid hq
    clear hq
    go_wp2_with fail
    go_ret2
    exact ⟨.inl ⟨HQ.out, rfl⟩, HB.out⟩
  | false =>
    have HQ := Lib.hid hq
    clear hq
    go_wp2_with fail
    refine (HS.out w' HB.out).mono ?_
    rintro e w2 ⟨g, bs, T, rfl, hT, hS, hb2⟩
    have HT := Lib.hid (show Tab w2 w.heap.size g bs a.size b.size T from ⟨hT.outer, hT.inner, hT.free, hT.inj, hT.ne, fun i hi => ⟨by have := (hT.lo i hi).1; have := HB.out.size; omega, (hT.lo i hi).2⟩, ⟨by have := hT.glo.1; have := HB.out.size; omega, hT.glo.2⟩⟩)
    have HST := Lib.hid hS
    have HB2 := Lib.hid (HB.out.trans (hb2.mono HB.out.size))
    clear hT hS hb2 HS
    go_wp2_with fail
    go_ret2
    exact ⟨.inr ⟨HQ.out, g, bs, T, rfl, HT.out, HST.out⟩, HB2.out⟩
end Go.Proofs.Ytjijfgkmjachnaa

namespace Go.Proofs.Ytjijfgkmjachnaa
set_option linter.unusedVariables false
set_option linter.unusedSimpArgs false
open Go.RowKit

/-- the first least -/
def nearF (a : Nd) : List Nd → Nat → Int × Int → Int × Int
  | [], _, p => p
  | x :: xs, i, p => nearF a xs (i + 1) (if p.2 < 0 ∨ (td a x : Nat) < p.2 then ((i : Nat), (td a x : Nat)) else p)
def near (a : Nd) (l : List Nd) : Int × Int := nearF a l 0 (0, -1)
theorem nearF_append (a : Nd) (xs ys : List Nd) : ∀ i p, nearF a (xs ++ ys) i p = nearF a ys (i + xs.length) (nearF a xs i p) := by
  induction xs with
  | nil => intro i p; rfl
  | cons x xs ih => intro i p; simp only [List.cons_append, nearF, ih, List.length_cons]; congr 1; omega
theorem nearF_take (a : Nd) (l : List Nd) (k : Nat) (h : k < l.length) (p : Int × Int) : nearF a (l.take (k + 1)) 0 p =
    (if (nearF a (l.take k) 0 p).2 < 0 ∨ (td a l[k] : Nat) < (nearF a (l.take k) 0 p).2 then (((k : Nat) : Int), ((td a l[k] : Nat) : Int)) else nearF a (l.take k) 0 p) := by
  rw [List.take_succ_eq_append_getElem h, nearF_append]
  simp only [nearF, List.length_take, Nat.min_eq_left (Nat.le_of_lt h), Nat.zero_add]

def nearR (a : Nd) (l : List Nd) : Value := .tuple (if bigAny [a] || bigAny l then #[.int .i64 0, .int .i64 0, .int .i64 8] else if l = [] then #[.int .i64 0, .int .i64 0, .int .i64 7] else #[.int .i64 (near a l).1, .int .i64 (near a l).2, .int .i64 0])
theorem RN.one {W : World} {m : Nat} {a : Nd} {A : Option Addr} {cA : Nat} (hA : RN W a A cA)
    (h : W.heap[m]? = some (.cells (cells5 a A cA).toArray 24 (0, 0))) : RN W (asN [a]) (some ⟨m, 0, none⟩) 1 := by
  have hc : ∀ o v, (cells5 a A cA)[o]? = some v → W.cell? ⟨m, o, none⟩ = some v := fun o v e => by
    unfold World.cell?; rw [h]; simpa using e
  refine .mk (asN [a]) m 0 1 (fun i => A) (fun i => cA) (by simp [asN, Nd.kids]) (by simp [asN, Nd.kids]) (fun i hi => ?_) (fun i hi => ?_)
  · have : i = 0 := by simp [asN, Nd.kids] at hi; omega
    subst this
    exact ⟨hc _ _ rfl, hc _ _ rfl, hc _ _ rfl, hc _ _ rfl, hc _ _ rfl⟩
  · have : i = 0 := by simp [asN, Nd.kids] at hi; omega
    subst this
    exact hA

set_option maxRecDepth 100000 in
set_option maxHeartbeats 1000000 in
theorem Nearest (a : Nd) (l : List Nd) (A B : Option Addr) (cA cB : Nat) (w : World) (hA : RN w a A cA) (hB : RN w (asN l) B cB) (ha : a.size ≤ 1000000) (hb : ∀ t ∈ l, t.size ≤ 1000000) (hl : l.length ≤ 1024) :
    Calls Try.prog 24 #[a.val A cA, .slice B l.length cB] w fun e w' => e = .returned (nearR a l) ∧ Below w.heap.size w w' := by
  have HL : ∀ (w1 : World) (m : Nat), Below w.heap.size w w1 → w1.heap[m]? = some (.cells (cells5 a A cA).toArray 24 (0, 0)) →
      Calls Try.prog 29 #[.slice (some ⟨m, 0, none⟩) 1 1] w1 fun e w' => e = .returned (.bool (bigAny [a])) ∧ Below w1.heap.size w1 w' := fun w1 m h1 h2 =>
    large [a] _ 1 w1 (RN.one (RN.keep h1 hA) h2) (by simp; omega)
  have HL2 : ∀ (w1 : World), Below w.heap.size w w1 → Calls Try.prog 29 #[.slice B l.length cB] w1 fun e w' => e = .returned (.bool (bigAny l)) ∧ Below w1.heap.size w1 w' := fun w1 h1 =>
    large l B cB w1 (RN.keep h1 hB) (fun t ht => by have := hb t ht; omega)
  have HS : ∀ (w1 : World) (b : Nd) (B : Option Addr) (cB : Nat), Below w.heap.size w w1 → b.size ≤ 1000000 → RN w1 b B cB → Calls Try.prog 30 #[a.val A cA, b.val B cB] w1 fun e w' => ∃ g bs T, e = .returned (.slice (some ⟨g, 0, none⟩) a.size a.size) ∧ Tab w' w1.heap.size g bs a.size b.size T ∧ SubT a b T ∧ Below w1.heap.size w1 w' :=
    fun w1 b B cB h1 hb hB => subtrees a b A B cA cB w1 (RN.keep h1 hA) hB ha hb
  have hpa := a.size_pos
  unfold Nd.val at HS ⊢
  have HL := Lib.hid HL
  have HL2 := Lib.hid HL2
  have HS := Lib.hid HS
  have HRB := Lib.hid hB
  have HSB := Lib.hid hb
  clear hA hB hb
  have hlz : ¬ (1024 : Int) < l.length := by omega
  go_enter Try.func24, Try.ntmps24
  go_wp2_with fail
  refine (HL.out _ _ ?_ ?_).mono ?_
  · exact ((Below.refl _ _).alloc (Nat.le_refl _) _).alloc (by simp) _
  · have := heap_alloc_new (w.alloc (.cells (cells5 a A cA).toArray 24)) (.cells (cells5 a A cA).toArray 24)
    simpa [cells5] using this
  rintro e w' ⟨rfl, hb1⟩
  have hbw : Below w.heap.size w w' := (((Below.refl _ _).alloc (Nat.le_refl _) _).alloc (by simp) _).trans (hb1.mono (by simp; omega))
  have h0 : ((w.alloc (.cells (cells5 a A cA).toArray 24)).alloc (.cells (cells5 a A cA).toArray 24)).heap[w.heap.size]? = some (.cells (cells5 a A cA).toArray 24 (0, 0)) := by
    rw [Below.heap_alloc _ _ _ (by simp)]; exact heap_alloc_new _ _
  have p1 : At5 w' w.heap.size 0 a A cA := At5.keep (At5.of h0) hb1 (by simp; omega)
  have HP1 := Lib.hid p1
  have HB := Lib.hid hbw
  clear hb1 hbw h0 HL p1
  cases hq : bigAny [a] with
  | true =>
    have HQ := Lib.hid hq
    clear hq
    go_wp2_with fail
    go_ret3
    exact ⟨by simp [nearR, HQ.out], HB.out⟩
  | false =>
    have HQ := Lib.hid hq
    clear hq
    go_wp2_with fail
    refine (HL2.out w' HB.out).mono ?_
    rintro e w2 ⟨rfl, hb2⟩
    have HB2 := Lib.hid (HB.out.trans (hb2.mono HB.out.size))
    have HP2 := Lib.hid (At5.keep HP1.out hb2 HP1.out.lt)
    clear hb2 HP1 HB HL2
    cases hq2 : bigAny l with
    | true =>
      have HQ2 := Lib.hid hq2
      clear hq2
      go_wp2_with fail
      go_ret3
      exact ⟨by simp [nearR, HQ.out, HQ2.out], HB2.out⟩
    | false =>
      have HQ2 := Lib.hid hq2
      clear hq2
      by_cases hl0 : l = []
      · have hlen : l.length = 0 := by rw [hl0]; rfl
        have HL0 := Lib.hid hl0
        rw [hlen]
        clear hl0 hlen
        go_wp2_with fail
        go_ret3
        have hn : nearR a l = .tuple #[.int .i64 0, .int .i64 0, .int .i64 7] := by unfold nearR; rw [HQ.out, HQ2.out, if_neg (by simp), if_pos HL0.out]
        exact ⟨by rw [hn]; rfl, HB2.out⟩
      · have hpos : 0 < (l.length : Int) := by have := List.length_pos_iff.2 hl0; omega
        have hne : ¬ (l.length : Int) = 0 := by omega
        have HL0 := Lib.hid hl0
        clear hl0
        go_wp2_with fail
        rw [show ((l.length : Int) == 0) = false by simpa using hne]
        clear hne hpos
        go_loopw [7, 8, 31] (fun x y s wr => ∃ k : Nat, s = .int .i64 k ∧ k ≤ l.length ∧ x = .int .i64 (nearF a (l.take k) 0 (0, -1)).1 ∧ y = .int .i64 (nearF a (l.take k) 0 (0, -1)).2 ∧ -1 ≤ (nearF a (l.take k) 0 (0, -1)).2 ∧ Below w.heap.size w wr ∧ At5 wr w.heap.size 0 a A cA)
          (fun _ _ s _ => l.length - (intOf s).toNat)
        case atStart => exact ⟨0, rfl, Nat.zero_le _, rfl, rfl, by simp [nearF], HB2.out, HP2.out⟩
        case round =>
          obtain ⟨k, rfl, hk, rfl, rfl, hge, hbl, hat⟩ := hrel
          by_cases hlt : k < l.length
          · have hkn : (k : Int) < l.length := by omega
            obtain ⟨bb, oo, As, cs, rfl, hcell, hsub⟩ : ∃ bb oo, ∃ (As : Nat → Option Addr) (cs : Nat → Nat), B = some ⟨bb, oo, none⟩ ∧ (∀ (i : Nat) (h : i < l.length), At5 w bb (oo + i * 5) l[i] (As i) (cs i)) ∧ (∀ (i : Nat) (h : i < l.length), RN w l[i] (As i) (cs i)) := by
              rcases HRB.out with ⟨_, b, o, _, As, cs, hc, hm, hcell, hsub⟩ | ⟨_, _, _, h⟩
              · exact ⟨b, o, As, cs, rfl, hcell, hsub⟩
              · rw [asN_kids] at h; rw [h] at hlt; simp at hlt
            have q := At5.keep (hcell k hlt) hbl (hcell k hlt).lt
            have hr := RN.keep hbl (hsub k hlt)
            have hkz := HSB.out _ (List.getElem_mem hlt)
            have HSS := Lib.hid (hkz)
            have hnt := nearF_take a l k hlt (0, -1)
            have HNT := Lib.hid hnt
            obtain ⟨t, ht⟩ : ∃ t, l[k] = t := ⟨_, rfl⟩
            rw [ht] at q hr HSS HNT
            have htp := t.size_pos
            obtain ⟨q0, q1, q2, q3, q4⟩ := q
            have hat2 := At5.keep hat ((Below.refl wr.heap.size wr).alloc (Nat.le_refl _) (.cells #[.int .i64 t.kind, .string t.text, .int .i64 t.pos, .int .i64 t.fin, .slice (As k) t.kids.length (cs k)] 24)) hat.lt
            obtain ⟨s0, s1, s2, s3, s4⟩ := hat2
            obtain ⟨r0, r1, r2, r3, r4⟩ := hat
            have HAT := Lib.hid (show At5 wr w.heap.size 0 a A cA from ⟨r0, r1, r2, r3, r4⟩)
            have HHR := Lib.hid hr
            have HBL := Lib.hid hbl
            obtain ⟨N, hN⟩ : ∃ N, nearF a (l.take k) 0 (0, -1) = N := ⟨_, rfl⟩
            rw [hN] at HNT hge ⊢
            clear hcell hsub hr hbl hkz hnt ht hN
            go_wp2_with fail
            refine (HS.out _ t (As k) (cs k) (HBL.out.alloc HBL.out.size _) HSS.out (RN.keep ((Below.refl _ _).alloc (Nat.le_refl _) _) HHR.out)).mono ?_
            rintro e w3 ⟨g, bs, T, rfl, hT, hS, hb3⟩
            have z0 := hT.outer 0 hpa
            have z1 := hT.inner 0 0 hpa htp
            rw [hS.zero] at z1
            have hsz : (0 : Int) < a.size := by omega
            have hsz' : (0 : Int) < t.size := by omega
            have HB3 := Lib.hid ((HBL.out.alloc HBL.out.size _).trans (hb3.mono (HBL.out.alloc HBL.out.size _).size))
            have HAT3 := Lib.hid (At5.keep (At5.keep HAT.out ((Below.refl _ _).alloc (Nat.le_refl _) _) HAT.out.lt) hb3 (Nat.lt_of_lt_of_le HAT.out.lt (by simp)))
            clear hT hS hb3 s0 s1 s2 s3 s4 r0 r1 r2 r3 r4 q0 q1 q2 q3 q4
            obtain ⟨d, hd⟩ : ∃ d : Nat, td a t = d := ⟨_, rfl⟩
            rw [hd] at z1 HNT
            by_cases c1 : N.2 < 0
            · go_wp2_with fail
              go_roundw
              case rel =>
                have e := HNT.out
                rw [if_pos (.inl c1)] at e
                exact ⟨k + 1, by go_num, by omega, by rw [e], by rw [e], by rw [e]; show (-1 : Int) ≤ (d : Nat); omega, HB3.out, HAT3.out⟩
              case measure => simp [intOf]; omega
            · by_cases c2 : (d : Int) < N.2
              · go_wp2_with fail
                go_roundw
                case rel =>
                  have e := HNT.out
                  rw [if_pos (.inr c2)] at e
                  exact ⟨k + 1, by go_num, by omega, by rw [e], by rw [e], by rw [e]; show (-1 : Int) ≤ (d : Nat); omega, HB3.out, HAT3.out⟩
                case measure => simp [intOf]; omega
              · go_wp2_with fail
                go_roundw
                case rel =>
                  have e := HNT.out
                  rw [if_neg (by omega)] at e
                  exact ⟨k + 1, by go_num, by omega, by rw [e], by rw [e], by rw [e]; exact hge, HB3.out, HAT3.out⟩
                case measure => simp [intOf]; omega
          · obtain rfl : k = l.length := by omega
            rw [List.take_length]
            clear hat
            go_wp2_with fail
            go_ret3
            have hn : nearR a l = .tuple #[.int .i64 (near a l).1, .int .i64 (near a l).2, .int .i64 0] := by unfold nearR; rw [HQ.out, HQ2.out, if_neg (by simp), if_neg HL0.out]
            exact ⟨by rw [hn]; rfl, hbl⟩
end Go.Proofs.Ytjijfgkmjachnaa

namespace Go.Proofs.Ytjijfgkmjachnaa
set_option linter.unusedVariables false
set_option linter.unusedSimpArgs false
open Go.RowKit

def tdAt (l : List Nd) (i k : Nat) : Int := (td (l.getD i (.mk 0 ByteArray.empty 0 0 [])) (l.getD k (.mk 0 ByteArray.empty 0 0 [])) : Nat)
/-- what the matrix holds: below and above the diagonal the distance of the later one and the earlier one -/
def mx (l : List Nd) (i k : Nat) : Int := if k < i then tdAt l i k else if i < k then tdAt l k i else 0

/-- what the loops have written -/
structure MxI (l : List Nd) (i k : Nat) (T : Nat → Nat → Int) : Prop where
  a : ∀ s t, s < i → t < i → T s t = mx l s t
  b : ∀ t, t < k → T i t = mx l i t ∧ T t i = mx l t i
  c : ∀ s, T s s = 0

attribute [local go_sem ↓] Go.wp_at_zero Go.wp_at_succ

set_option maxRecDepth 100000 in
set_option maxHeartbeats 2000000 in
theorem Matrix (l : List Nd) (B : Option Addr) (cB : Nat) (w : World) (hB : RN w (asN l) B cB) (hb : ∀ t ∈ l, t.size ≤ 1000000) (hl : l.length ≤ 1024) :
    Calls Try.prog 23 #[.slice B l.length cB] w fun e w' => ((bigAny l = true ∧ e = .returned (.tuple #[.slice none 0 0, .int .i64 8])) ∨ (bigAny l = false ∧ ∃ g bs, e = .returned (.tuple #[.slice (some ⟨g, 0, none⟩) l.length l.length, .int .i64 0]) ∧ Tab w' w.heap.size g bs l.length l.length (mx l))) ∧ Below w.heap.size w w' := by
  have HL2 := Lib.hid (large l B cB w hB (fun t ht => by have := hb t ht; omega))
  have HRB := Lib.hid hB
  have HSB := Lib.hid hb
  clear hB hb
  have hlz : ¬ (1024 : Int) < l.length := by omega
  go_enter Try.func23, Try.ntmps23
  go_wp2_with fail
  refine HL2.out.mono ?_
  rintro e w1 ⟨rfl, hb1⟩
  have HB1 := Lib.hid hb1
  clear hb1 HL2
  cases hq2 : bigAny l with
  | true =>
    have HQ2 := Lib.hid hq2
    clear hq2
    go_wp2_with fail
    go_ret2
    exact ⟨.inl ⟨HQ2.out, rfl⟩, HB1.out⟩
  | false =>
    have HQ2 := Lib.hid hq2
    clear hq2
    go_wp2_with fail
    refine (tableMake l.length l.length w1 (by omega) (by omega)).mono ?_
    rintro e w2 ⟨rfl, hT, hb2, _⟩
    have HT := Lib.hid hT
    have HB2 := Lib.hid (HB1.out.trans (hb2.mono HB1.out.size))
    have HG := Lib.hid HB1.out.size
    clear hT hb2
    obtain ⟨G, hG⟩ : ∃ G, w1.heap.size = G := ⟨_, rfl⟩
    rw [hG] at HT HG ⊢
    clear hG HB1
    go_wp2_with fail
    go_loopw [21] (fun s wr => ∃ (i : Nat) (T : Nat → Nat → Int), s = .int .i64 i ∧ i ≤ l.length ∧ Tab wr G G (fun i => G + 1 + i) l.length l.length T ∧ MxI l i 0 T ∧ Below w.heap.size w wr)
      (fun s _ => l.length - (intOf s).toNat)
    case atStart => exact ⟨0, _, rfl, Nat.zero_le _, HT.out, ⟨fun s t h => by omega, fun t h => by omega, fun s => rfl⟩, HB2.out⟩
    case round =>
      obtain ⟨i, T, rfl, hi, hT, hM, hbl⟩ := hrel
      by_cases hil : i < l.length
      · have hin : (i : Int) < l.length := by omega
        have HTT := Lib.hid hT
        have HMM := Lib.hid hM
        have HBL := Lib.hid hbl
        clear hT hM hbl
        obtain ⟨bb, oo, As, cs, rfl, hcell, hsub⟩ : ∃ bb oo, ∃ (As : Nat → Option Addr) (cs : Nat → Nat), B = some ⟨bb, oo, none⟩ ∧ (∀ (i : Nat) (h : i < l.length), At5 w bb (oo + i * 5) l[i] (As i) (cs i)) ∧ (∀ (i : Nat) (h : i < l.length), RN w l[i] (As i) (cs i)) := by
          rcases HRB.out with ⟨_, b, o, _, As, cs, hc, hm, hcell, hsub⟩ | ⟨_, _, _, h⟩
          · exact ⟨b, o, As, cs, rfl, hcell, hsub⟩
          · rw [asN_kids] at h; rw [h] at hil; simp at hil
        have HCE := Lib.hid hcell
        have HSU := Lib.hid hsub
        clear hcell hsub
        go_wp2_with fail
        go_loopw [25] (fun s wr => ∃ (k : Nat) (T : Nat → Nat → Int), s = .int .i64 k ∧ k ≤ i ∧ Tab wr G G (fun i => G + 1 + i) l.length l.length T ∧ MxI l i k T ∧ Below w.heap.size w wr)
          (fun s _ => i - (intOf s).toNat)
        case atStart => exact ⟨0, T, rfl, Nat.zero_le _, HTT.out, HMM.out, HBL.out⟩
        case round =>
          obtain ⟨k, T2, rfl, hk, hT, hM, hbl⟩ := hrel
          by_cases hkl : k < i
          · have hkn : (k : Int) < i := by omega
            have hkm : (k : Int) < l.length := by omega
            have q := At5.keep (HCE.out i hil) hbl (HCE.out i hil).lt
            have p := At5.keep (HCE.out k (by omega)) hbl (HCE.out k (by omega)).lt
            have hx := RN.keep hbl (HSU.out i hil)
            have hy := RN.keep hbl (HSU.out k (by omega))
            obtain ⟨x, hx0⟩ : ∃ x, l[i] = x := ⟨_, rfl⟩
            obtain ⟨y, hy0⟩ : ∃ y, l[k] = y := ⟨_, rfl⟩
            rw [hx0] at q hx
            rw [hy0] at p hy
            have HS := Lib.hid (fun (w1 : World) (h1 : Below wr.heap.size wr w1) => subtrees x y (As i) (As k) (cs i) (cs k) w1 (RN.keep h1 hx) (RN.keep h1 hy) (by rw [← hx0]; exact HSB.out _ (List.getElem_mem _)) (by rw [← hy0]; exact HSB.out _ (List.getElem_mem _)))
            unfold Nd.val at HS
            have hxp := x.size_pos
            have hyp := y.size_pos
            obtain ⟨q0, q1, q2, q3, q4⟩ := q
            obtain ⟨p0, p1, p2, p3, p4⟩ := p
            have z0 := hT.outer i hil
            have z1 := hT.inner i k hil (by omega)
            have z2 := hT.free i k hil (by omega)
            have HTT2 := Lib.hid hT
            have HM2 := Lib.hid hM
            have HBL2 := Lib.hid hbl
            have HX0 := Lib.hid hx0
            have HY0 := Lib.hid hy0
            clear hT hM hbl hx hy hx0 hy0
            have HSK := Lib.hid (show ∀ W', Below wr.heap.size wr W' → (W'.cell? ⟨G, i, none⟩ = some (.slice (some ⟨G + 1 + i, 0, none⟩) l.length l.length) ∧ W'.cell? ⟨bb, oo + i * 5, none⟩ = some (.int .i64 x.kind) ∧ W'.cell? ⟨bb, oo + i * 5 + 1, none⟩ = some (.string x.text) ∧ W'.cell? ⟨bb, oo + i * 5 + 2, none⟩ = some (.int .i64 x.pos) ∧ W'.cell? ⟨bb, oo + i * 5 + 3, none⟩ = some (.int .i64 x.fin) ∧ W'.cell? ⟨bb, oo + i * 5 + 4, none⟩ = some (.slice (As i) x.kids.length (cs i)) ∧ W'.cell? ⟨bb, oo + k * 5, none⟩ = some (.int .i64 y.kind) ∧ W'.cell? ⟨bb, oo + k * 5 + 1, none⟩ = some (.string y.text) ∧ W'.cell? ⟨bb, oo + k * 5 + 2, none⟩ = some (.int .i64 y.pos) ∧ W'.cell? ⟨bb, oo + k * 5 + 3, none⟩ = some (.int .i64 y.fin) ∧ W'.cell? ⟨bb, oo + k * 5 + 4, none⟩ = some (.slice (As k) y.kids.length (cs k))) from fun W' h => by
              have b : ∀ p v, wr.cell? p = some v → W'.cell? p = some v := fun p v e => (h.cell (World.block_lt_of_cell? wr _ e)).trans e
              exact ⟨b _ _ z0, b _ _ q0, b _ _ q1, b _ _ q2, b _ _ q3, b _ _ q4, b _ _ p0, b _ _ p1, b _ _ p2, b _ _ p3, b _ _ p4⟩)
            have HST := Lib.hid (show ∀ W', Below wr.heap.size wr W' → W'.cell? ⟨G + 1 + i, k, none⟩ = some (.int .i64 (T2 i k)) ∧ W'.frozen? ⟨G + 1 + i, k, none⟩ = false from fun W' h =>
              ⟨(h.cell (p := ⟨G + 1 + i, k, none⟩) (World.block_lt_of_cell? wr _ z1)).trans z1, (World.frozen?_of_block (h.block _ (World.block_lt_of_cell? wr _ z1))).trans z2⟩)
            have hbbG : bb < G := by have := (HCE.out i hil).lt; have := HG.out; omega
            have HSK2 := Lib.hid (show ∀ W' v, Below wr.heap.size wr W' → ((W'.setCell ⟨G + 1 + i, k, none⟩ v).cell? ⟨G, i, none⟩ = some (.slice (some ⟨G + 1 + i, 0, none⟩) l.length l.length) ∧ (W'.setCell ⟨G + 1 + i, k, none⟩ v).cell? ⟨bb, oo + i * 5, none⟩ = some (.int .i64 x.kind) ∧ (W'.setCell ⟨G + 1 + i, k, none⟩ v).cell? ⟨bb, oo + i * 5 + 1, none⟩ = some (.string x.text) ∧ (W'.setCell ⟨G + 1 + i, k, none⟩ v).cell? ⟨bb, oo + i * 5 + 2, none⟩ = some (.int .i64 x.pos) ∧ (W'.setCell ⟨G + 1 + i, k, none⟩ v).cell? ⟨bb, oo + i * 5 + 3, none⟩ = some (.int .i64 x.fin) ∧ (W'.setCell ⟨G + 1 + i, k, none⟩ v).cell? ⟨bb, oo + i * 5 + 4, none⟩ = some (.slice (As i) x.kids.length (cs i)) ∧ (W'.setCell ⟨G + 1 + i, k, none⟩ v).cell? ⟨bb, oo + k * 5, none⟩ = some (.int .i64 y.kind) ∧ (W'.setCell ⟨G + 1 + i, k, none⟩ v).cell? ⟨bb, oo + k * 5 + 1, none⟩ = some (.string y.text) ∧ (W'.setCell ⟨G + 1 + i, k, none⟩ v).cell? ⟨bb, oo + k * 5 + 2, none⟩ = some (.int .i64 y.pos) ∧ (W'.setCell ⟨G + 1 + i, k, none⟩ v).cell? ⟨bb, oo + k * 5 + 3, none⟩ = some (.int .i64 y.fin) ∧ (W'.setCell ⟨G + 1 + i, k, none⟩ v).cell? ⟨bb, oo + k * 5 + 4, none⟩ = some (.slice (As k) y.kids.length (cs k))) from fun W' v h => by
              have b : ∀ p u, p.block ≠ G + 1 + i → wr.cell? p = some u → (W'.setCell ⟨G + 1 + i, k, none⟩ v).cell? p = some u := fun p u hn e => (cell_set_other _ _ _ _ (fun h => hn h)).trans ((h.cell (World.block_lt_of_cell? wr _ e)).trans e)
              exact ⟨b _ _ (by show G ≠ _; omega) z0, b _ _ (by show bb ≠ _; omega) q0, b _ _ (by show bb ≠ _; omega) q1, b _ _ (by show bb ≠ _; omega) q2, b _ _ (by show bb ≠ _; omega) q3, b _ _ (by show bb ≠ _; omega) q4, b _ _ (by show bb ≠ _; omega) p0, b _ _ (by show bb ≠ _; omega) p1, b _ _ (by show bb ≠ _; omega) p2, b _ _ (by show bb ≠ _; omega) p3, b _ _ (by show bb ≠ _; omega) p4⟩)
            have hy1 : (0 : Int) < y.size := by omega
            have hx1 : (0 : Int) < x.size := by omega
            go_wp2_with fail
            go_region_with ((go_at_call 30; refine (HS.out _ ((Below.refl _ wr).drew)).mono ?_; rintro e w3 ⟨g, bs, T, rfl, hTT, hSS, hb3⟩; have y0 := hTT.outer 0 hxp; have y1 := hTT.inner 0 0 hxp hyp; rw [hSS.zero] at y1; have HTT := Lib.hid hTT; have hb4 : Below wr.heap.size wr w3 := ((Below.refl _ wr).drew).trans hb3; obtain ⟨s1, s2⟩ := HST.out w3 hb4; have z0 := (HSK.out w3 hb4).1; clear hTT hSS hb3))
            all_goals
              obtain ⟨d, hd⟩ : ∃ d : Nat, td x y = d := ⟨_, rfl⟩
              rw [hd]
              obtain ⟨W5, hW5⟩ : ∃ W5, w3.setCell ⟨G + 1 + i, k, none⟩ (.int .i64 (d : Nat)) = W5 := ⟨_, rfl⟩
              have t5 : Tab W5 G G (fun i => G + 1 + i) l.length l.length (upd T2 i k (d : Nat)) := by
                rw [← hW5]
                exact (HTT2.out.keep (S := fun _ => False) (Keeps.of_below hb4) id (fun _ _ => id)).set hil (by omega) _
              have hb5 : Below w.heap.size w W5 := by
                rw [← hW5]
                exact (HBL2.out.trans (hb4.mono HBL2.out.size)).setCell (p := ⟨G + 1 + i, k, none⟩) (by have := HG.out; show _ ≤ G + 1 + i; omega) _
              rw [hW5]
              have HD := Lib.hid hd
              have a0 := t5.outer i hil
              have a1 := t5.outer k (by omega)
              have a2 := t5.inner i k hil (by omega)
              rw [upd_same] at a2
              have a3 := t5.inner k i (by omega) hil
              have a4 := t5.free k i (by omega) hil
              have HT5 := Lib.hid t5
              have HB5 := Lib.hid hb5
              clear hW5 t5 hb5 hb4 s1 s2 y0 y1 HTT z0 z1 z2 q0 q1 q2 q3 q4 p0 p1 p2 p3 p4 hd HSK HSK2 HST
              go_wp2_with fail
              go_still_tail 13, (by kernel_rfl)
              go_wp2_with fail
              go_roundw
              case rel =>
                have hM := HM2.out
                have hd := HD.out
                have e : tdAt l i k = (d : Nat) := by
                  rw [← hd, ← HX0.out, ← HY0.out]
                  unfold tdAt
                  simp [List.getD, hil, show k < l.length by omega]
                refine ⟨k + 1, upd (upd T2 i k (d : Nat)) k i (d : Nat), by go_num, by omega, ?_, ⟨fun s t hs ht => ?_, fun t ht => ?_, fun s => ?_⟩, ?_⟩
                · exact (HT5.out.set (by omega) hil _).drewN 1
                · rw [upd_other _ _ _ _ _ _ (by omega), upd_other _ _ _ _ _ _ (by omega)]
                  exact hM.a s t hs ht
                · by_cases htk : t = k
                  · subst htk
                    refine ⟨?_, ?_⟩
                    · rw [upd_other _ _ _ _ _ _ (by omega), upd_same]
                      unfold mx; rw [if_pos hkl, e]
                    · rw [upd_same]
                      unfold mx; rw [if_neg (by omega), if_pos hkl, e]
                  · rw [upd_other _ _ _ _ _ _ (by omega), upd_other _ _ _ _ _ _ (by omega), upd_other _ _ _ _ _ _ (by omega), upd_other _ _ _ _ _ _ (by omega)]
                    exact hM.b t (by omega)
                · rw [upd_other _ _ _ _ _ _ (by omega), upd_other _ _ _ _ _ _ (by omega)]
                  exact hM.c s
                · exact (HB5.out.setCell (p := ⟨G + 1 + k, i, none⟩) (by have := HG.out; show _ ≤ G + 1 + k; omega) _).drew
              case measure => simp [intOf]; omega
          · obtain rfl : k = i := by omega
            have HTT := Lib.hid hT
            have HMM := Lib.hid hM
            have HBL := Lib.hid hbl
            clear hT hM hbl
            go_wp2_with fail
            go_roundw
            case rel =>
              have hM := HMM.out
              refine ⟨k + 1, T2, by go_num, by omega, HTT.out, ⟨fun s t hs ht => ?_, fun t h => by omega, hM.c⟩, HBL.out⟩
              by_cases hs' : s = k
              · subst hs'
                by_cases ht' : t = s
                · subst ht'
                  rw [hM.c]; unfold mx; simp
                · exact (hM.b t (by omega)).1
              · by_cases ht' : t = k
                · subst ht'
                  exact (hM.b s (by omega)).2
                · exact hM.a s t (by omega) (by omega)
            case measure => simp [intOf]; omega
      · obtain rfl : i = l.length := by omega
        have HTT := Lib.hid hT
        have HMM := Lib.hid hM
        have HBL := Lib.hid hbl
        clear hT hM hbl
        go_wp2_with fail
        go_ret2
        refine ⟨.inr ⟨HQ2.out, G, (fun i => G + 1 + i), rfl, ?_⟩, HBL.out⟩
        have h := HTT.out.congr (T' := mx l) (fun i j hi hj => (HMM.out.a i j hi hj).symm)
        have hg := HG.out
        exact ⟨h.outer, h.inner, h.free, h.inj, h.ne, fun i hi => ⟨by have := (h.lo i hi).1; omega, (h.lo i hi).2⟩, ⟨by have := h.glo.1; omega, h.glo.2⟩⟩
end Go.Proofs.Ytjijfgkmjachnaa
