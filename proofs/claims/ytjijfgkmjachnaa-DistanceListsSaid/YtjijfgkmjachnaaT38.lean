import Derived.Test.YtjijfgkmjachnaaT36
import Derived.Test.YtjijfgkmjachnaaT7
namespace Go.Proofs.Ytjijfgkmjachnaa
set_option linter.unusedVariables false
set_option linter.unusedSimpArgs false
open Go.RowKit

def cells5 (t : Nd) (A : Option Addr) (c : Nat) : List Value := [.int .i64 t.kind, .string t.text, .int .i64 t.pos, .int .i64 t.fin, .slice A t.kids.length c]
theorem RN.two {W : World} {m : Nat} {a b : Nd} {A B : Option Addr} {cA cB : Nat} (hA : RN W a A cA) (hB : RN W b B cB)
    (h : W.heap[m]? = some (.cells (cells5 a A cA ++ cells5 b B cB).toArray 24 (0, 0))) : RN W (asN [a, b]) (some ⟨m, 0, none⟩) 2 := by
  have hc : ∀ o v, (cells5 a A cA ++ cells5 b B cB)[o]? = some v → W.cell? ⟨m, o, none⟩ = some v := fun o v e => by
    unfold World.cell?; rw [h]; simpa using e
  refine .mk (asN [a, b]) m 0 2 (fun i => if i = 0 then A else B) (fun i => if i = 0 then cA else cB) (by simp [asN, Nd.kids]) (by simp [asN, Nd.kids]) (fun i hi => ?_) (fun i hi => ?_)
  · have : i = 0 ∨ i = 1 := by simp [asN, Nd.kids] at hi; omega
    rcases this with rfl | rfl
    · exact ⟨hc _ _ rfl, hc _ _ rfl, hc _ _ rfl, hc _ _ rfl, hc _ _ rfl⟩
    · exact ⟨hc _ _ rfl, hc _ _ rfl, hc _ _ rfl, hc _ _ rfl, hc _ _ rfl⟩
  · have : i = 0 ∨ i = 1 := by simp [asN, Nd.kids] at hi; omega
    rcases this with rfl | rfl
    · exact hA
    · exact hB

theorem SubT.zero {a b : Nd} {T : Nat → Nat → Int} (h : SubT a b T) : T 0 0 = td a b := by
  have ha := a.size_pos
  have hb := b.size_pos
  have := h (a.size - 1) (b.size - 1) (by omega) (by omega)
  simp only [nm, nd, post_last] at this
  exact this

theorem heap3 (w : World) (o0 o1 o2 : Obj) : (((w.alloc o0).alloc o1).alloc o2).heap[w.heap.size]? = some o0 ∧ (((w.alloc o0).alloc o1).alloc o2).heap[w.heap.size + 1]? = some o1 ∧ (((w.alloc o0).alloc o1).alloc o2).heap[w.heap.size + 1 + 1]? = some o2 := by
  refine ⟨?_, ?_, ?_⟩
  · rw [Below.heap_alloc _ _ _ (by simp; omega), Below.heap_alloc _ _ _ (by simp)]; exact heap_alloc_new _ _
  · rw [Below.heap_alloc _ _ _ (by simp)]
    have := heap_alloc_new (w.alloc o0) o1
    simpa using this
  · have := heap_alloc_new ((w.alloc o0).alloc o1) o2
    simpa using this
theorem At5.of {W : World} {b : Nat} {t : Nd} {A : Option Addr} {c : Nat} (h : W.heap[b]? = some (.cells (cells5 t A c).toArray 24 (0, 0))) : At5 W b 0 t A c := by
  have hc : ∀ o v, (cells5 t A c)[o]? = some v → W.cell? ⟨b, o, none⟩ = some v := fun o v e => by
    unfold World.cell?; rw [h]; simpa using e
  exact ⟨hc _ _ rfl, hc _ _ rfl, hc _ _ rfl, hc _ _ rfl, hc _ _ rfl⟩

def dV (a b : Nd) : Int := if bigAny [a, b] then 0 else (td a b : Nat)
def dC (a b : Nd) : Int := if bigAny [a, b] then 8 else 0

set_option maxRecDepth 100000 in
set_option maxHeartbeats 1000000 in
theorem Distance (a b : Nd) (A B : Option Addr) (cA cB : Nat) (w : World) (hA : RN w a A cA) (hB : RN w b B cB) (ha : a.size ≤ 1000000) (hb : b.size ≤ 1000000) :
    Calls Try.prog 12 #[a.val A cA, b.val B cB] w fun e w' => e = .returned (.tuple #[.int .i64 (dV a b), .int .i64 (dC a b)]) ∧ Below w.heap.size w w' := by
  have HL : ∀ (w1 : World) (m : Nat), Below w.heap.size w w1 → w1.heap[m]? = some (.cells (cells5 a A cA ++ cells5 b B cB).toArray 24 (0, 0)) →
      Calls Try.prog 29 #[.slice (some ⟨m, 0, none⟩) 2 2] w1 fun e w' => e = .returned (.bool (bigAny [a, b])) ∧ Below w1.heap.size w1 w' := fun w1 m h1 h2 =>
    large [a, b] _ 2 w1 (RN.two (RN.keep h1 hA) (RN.keep h1 hB) h2) (by simp; omega)
  have HS : ∀ (w1 : World), Below w.heap.size w w1 → Calls Try.prog 30 #[a.val A cA, b.val B cB] w1 fun e w' => ∃ g bs T, e = .returned (.slice (some ⟨g, 0, none⟩) a.size a.size) ∧ Tab w' w1.heap.size g bs a.size b.size T ∧ SubT a b T ∧ Below w1.heap.size w1 w' :=
    fun w1 h1 => subtrees a b A B cA cB w1 (RN.keep h1 hA) (RN.keep h1 hB) ha hb
  have hpa := a.size_pos
  have hpb := b.size_pos
  unfold Nd.val at HS ⊢
  have HL := Lib.hid HL
  have HS := Lib.hid HS
  clear hA hB
  go_enter Try.func12, Try.ntmps12
  go_wp2_with fail
  refine (HL.out _ _ ?_ ?_).mono ?_
  · exact (((Below.refl _ _).alloc (Nat.le_refl _) _).alloc (by simp) _).alloc (by simp; omega) _
  · have := heap_alloc_new ((w.alloc (.cells (cells5 a A cA).toArray 24)).alloc (.cells (cells5 b B cB).toArray 24)) (.cells (cells5 a A cA ++ cells5 b B cB).toArray 24)
    simpa [cells5] using this
  rintro e w' ⟨rfl, hb1⟩
  have hbw : Below w.heap.size w w' := ((((Below.refl _ _).alloc (Nat.le_refl _) _).alloc (by simp) _).alloc (by simp; omega) _).trans (hb1.mono (by simp; omega))
  obtain ⟨h0, h1, _⟩ := heap3 w (.cells (cells5 a A cA).toArray 24) (.cells (cells5 b B cB).toArray 24) (.cells (cells5 a A cA ++ cells5 b B cB).toArray 24)
  have p1 : At5 w' w.heap.size 0 a A cA := At5.keep (At5.of h0) hb1 (by simp [cells5]; omega)
  have p2 : At5 w' (w.heap.size + 1) 0 b B cB := At5.keep (At5.of h1) hb1 (by simp [cells5])
  obtain ⟨a0, a1, a2, a3, a4⟩ := p1
  obtain ⟨b0, b1, b2, b3, b4⟩ := p2
  have HB := Lib.hid hbw
  clear hb1 hbw h0 h1 HL
  cases hq : bigAny [a, b] with
  | true =>
    have HQ := Lib.hid hq
    clear hq
    go_wp2_with fail
    go_ret2
    exact ⟨by simp [dV, dC, HQ.out], HB.out⟩
  | false =>
    have HQ := Lib.hid hq
    clear hq
    go_wp2_with fail
    refine (HS.out w' HB.out).mono ?_
    rintro e w2 ⟨g, bs, T, rfl, hT, hS, hb2⟩
    have z0 := hT.outer 0 hpa
    have z1 := hT.inner 0 0 hpa hpb
    rw [hS.zero] at z1
    have hsz : (0 : Int) < a.size := by omega
    have hsz' : (0 : Int) < b.size := by omega
    have HB2 := Lib.hid (HB.out.trans (hb2.mono HB.out.size))
    clear hT hS hb2 HS
    go_wp2_with fail
    go_ret2
    exact ⟨by simp [dV, dC, HQ.out], HB2.out⟩
end Go.Proofs.Ytjijfgkmjachnaa
