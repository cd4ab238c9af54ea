import Derived.Test.YtjijfgkmjachnaaT39
namespace Go.Proofs.Ytjijfgkmjachnaa
set_option linter.unusedVariables false
set_option linter.unusedSimpArgs false
open Go.RowKit

set_option maxRecDepth 100000 in
set_option maxHeartbeats 1000000 in
theorem Subtrees (a b : Nd) (A B : Option Addr) (cA cB : Nat) (w : World) (hA : RN w a A cA) (hB : RN w b B cB) (ha : a.size ≤ 1000000) (hb : b.size ≤ 1000000) :
    Calls Try.prog 13 #[a.val A cA, b.val B cB] w fun e w' => ((bigAny [a, b] = true ∧ e = .returned (.tuple #[.slice none 0 0, .int .i64 8])) ∨ (bigAny [a, b] = false ∧ ∃ g bs T, e = .returned (.tuple #[.slice (some ⟨g, 0, none⟩) a.size a.size, .int .i64 0]) ∧ Tab w' w.heap.size g bs a.size b.size T ∧ SubT a b T)) ∧ Below w.heap.size w w' := by
  have HL : ∀ (w1 : World) (m : Nat), Below w.heap.size w w1 → w1.heap[m]? = some (.cells (cells5 a A cA ++ cells5 b B cB).toArray 24 (0, 0)) →
      Calls Try.prog 29 #[.slice (some ⟨m, 0, none⟩) 2 2] w1 fun e w' => e = .returned (.bool (bigAny [a, b])) ∧ Below w1.heap.size w1 w' := fun w1 m h1 h2 =>
    large [a, b] _ 2 w1 (RN.two (RN.keep h1 hA) (RN.keep h1 hB) h2) (by simp; omega)
  have HS : ∀ (w1 : World), Below w.heap.size w w1 → Calls Try.prog 30 #[a.val A cA, b.val B cB] w1 fun e w' => ∃ g bs T, e = .returned (.slice (some ⟨g, 0, none⟩) a.size a.size) ∧ Tab w' w1.heap.size g bs a.size b.size T ∧ SubT a b T ∧ Below w1.heap.size w1 w' :=
    fun w1 h1 => subtrees a b A B cA cB w1 (RN.keep h1 hA) (RN.keep h1 hB) ha hb
  have hpa := a.size_pos
  have hpb := b.size_pos
  unfold Nd.val at HS ⊢
  have HL := Lib.hid HL
  have HS := Lib.hid HS
  clear hA hB
  go_enter Try.func13, Try.ntmps13
  go_wp2_with fail
  refine (HL.out _ _ ?_ ?_).mono ?_
  · exact (((Below.refl _ _).alloc (Nat.le_refl _) _).alloc (by simp) _).alloc (by simp; omega) _
  · have := heap_alloc_new ((w.alloc (.cells (cells5 a A cA).toArray 24)).alloc (.cells (cells5 b B cB).toArray 24)) (.cells (cells5 a A cA ++ cells5 b B cB).toArray 24)
    simpa [cells5] using this
  rintro e w' ⟨rfl, hb1⟩
  have hbw : Below w.heap.size w w' := ((((Below.refl _ _).alloc (Nat.le_refl _) _).alloc (by simp) _).alloc (by simp; omega) _).trans (hb1.mono (by simp; omega))
  obtain ⟨h0, h1, _⟩ := heap3 w (.cells (cells5 a A cA).toArray 24) (.cells (cells5 b B cB).toArray 24) (.cells (cells5 a A cA ++ cells5 b B cB).toArray 24)
  have p1 : At5 w' w.heap.size 0 a A cA := At5.keep (At5.of h0) hb1 (by simp [cells5]; omega)
  have p2 : At5 w' (w.heap.size + 1) 0 b B cB := At5.keep (At5.of h1) hb1 (by simp [cells5])
  obtain ⟨a0, a1, a2, a3, a4⟩ := p1
  obtain ⟨b0, b1, b2, b3, b4⟩ := p2
  have HB := Lib.hid hbw
  clear hb1 hbw h0 h1 HL
  cases hq : bigAny [a, b] with
  | true =>
    have HQ := Lib.hid hq
    clear hq
    go_wp2_with fail
    go_ret2
    exact ⟨.inl ⟨HQ.out, rfl⟩, HB.out⟩
  | false =>
    have HQ := Lib.hid hq
    clear hq
    go_wp2_with fail
    refine (HS.out w' HB.out).mono ?_
    rintro e w2 ⟨g, bs, T, rfl, hT, hS, hb2⟩
    have HT := Lib.hid (show Tab w2 w.heap.size g bs a.size b.size T from ⟨hT.outer, hT.inner, hT.free, hT.inj, hT.ne, fun i hi => ⟨by have := (hT.lo i hi).1; have := HB.out.size; omega, (hT.lo i hi).2⟩, ⟨by have := hT.glo.1; have := HB.out.size; omega, hT.glo.2⟩⟩)
    have HST := Lib.hid hS
    have HB2 := Lib.hid (HB.out.trans (hb2.mono HB.out.size))
    clear hT hS hb2 HS
    go_wp2_with fail
    go_ret2
    exact ⟨.inr ⟨HQ.out, g, bs, T, rfl, HT.out, HST.out⟩, HB2.out⟩
end Go.Proofs.Ytjijfgkmjachnaa
