/- Seat 37, texts merged: the walk of DistanceBounds. Lemmas for the laws of chapter 37; no conditions of their own beyond what each states. -/
import Derived.Test.YtjijfgkmjachnaaC8
import Derived.Deep.RegionHeld3
import Derived.Deep.DrawnRows
import Derived.WalkLawsBesides
namespace Go.Proofs.Ytjijfgkmjachnaa
set_option linter.unusedVariables false
set_option linter.unusedSimpArgs false
set_option linter.unusedVariables false
set_option linter.unusedSimpArgs false
open Go.RowKit
attribute [local go_sem ↓] Go.wp_at_zero Go.wp_at_succ

theorem trans_b {a b c : World} (h : Below a.heap.size a b) (hb : Below b.heap.size b c) : Below a.heap.size a c := h.trans (hb.mono h.size)
theorem heap2' (w : World) (a b : Nd) (A B : Option Addr) (cA cB : Nat) (W : World) (hW : (w.alloc (.cells (cells5 a A cA).toArray 24)).alloc (.cells (cells5 b B cB).toArray 24) = W) :
    At5 W w.heap.size 0 a A cA ∧ At5 W (w.heap.size + 1) 0 b B cB ∧ Below w.heap.size w W := by
  subst hW
  have h0 := heap_alloc_new w (.cells (cells5 a A cA).toArray 24)
  have h1 := heap_alloc_new (w.alloc (.cells (cells5 a A cA).toArray 24)) (.cells (cells5 b B cB).toArray 24)
  have hb : Below (w.heap.size + 1) (w.alloc (.cells (cells5 a A cA).toArray 24)) ((w.alloc (.cells (cells5 a A cA).toArray 24)).alloc (.cells (cells5 b B cB).toArray 24)) := (Below.refl _ _).alloc (by simp) _
  refine ⟨(At5.of h0).keep hb (by omega), ?_, ((Below.refl _ _).alloc (Nat.le_refl _) _).alloc (by simp) _⟩
  have := At5.of h1
  simpa using this

set_option maxRecDepth 100000 in
set_option maxHeartbeats 4000000 in
theorem lawBounds (a b : Nd) (A B : Option Addr) (cA cB : Nat) (w : World) (hA : RN w a A cA) (hB : RN w b B cB) (la : LabW a) (lb : LabW b) :
    Calls Try.prog 6 #[a.val A cA, b.val B cB] w fun e w' => e = .returned (.bool true) ∧ Below w.heap.size w w' := by
  obtain ⟨w0, hw0⟩ : ∃ w0, (w.alloc (.cells (cells5 a A cA).toArray 24)).alloc (.cells (cells5 b B cB).toArray 24) = w0 := ⟨_, rfl⟩
  obtain ⟨pa, pb, hb0⟩ := heap2' w a b A B cA cB w0 hw0
  have HCE := Lib.hid (show ∀ W, Below w0.heap.size w0 W → At5 W w.heap.size 0 a A cA ∧ At5 W (w.heap.size + 1) 0 b B cB from fun W h => ⟨pa.below h, pb.below h⟩)
  have HT := Lib.hid (show ∀ W, Below w0.heap.size w0 W → Below w.heap.size w W from fun W h => hb0.trans (h.mono hb0.size))
  have HA := Lib.hid (show ∀ W, Below w0.heap.size w0 W → RN W a A cA from fun W h => RN.keep h (RN.keep hb0 hA))
  have HB := Lib.hid (show ∀ W, Below w0.heap.size w0 W → RN W b B cB from fun W h => RN.keep h (RN.keep hb0 hB))
  have hw1 : ((w.alloc (.cells #[.int .i64 a.kind, .string a.text, .int .i64 a.pos, .int .i64 a.fin, .slice A a.kids.length cA] 24)).alloc (.cells #[.int .i64 b.kind, .string b.text, .int .i64 b.pos, .int .i64 b.fin, .slice B b.kids.length cB] 24)) = w0 := hw0
  clear hw0 pa pb hb0 hA hB
  have HF1 := Lib.hid (fun W (h : Below w0.heap.size w0 W) => lawfew a b 30 A B cA cB W (HA.out W h) (HB.out W h) (by omega) (by omega))
  have HD := Lib.hid (fun W (h : Below w0.heap.size w0 W) (s1 : a.size ≤ 1000000) (s2 : b.size ≤ 1000000) => Distance a b A B cA cB W (HA.out W h) (HB.out W h) s1 s2)
  have HBO := Lib.hid (fun W (h : Below w0.heap.size w0 W) (x y : Nd) (X Y : Option Addr) (cX cY : Nat) (hX : RN W x X cX) (hY : RN W y Y cY) (s1 : x.size ≤ 1000000) (s2 : y.size ≤ 1000000) (l1 : LabW x) (l2 : LabW y) => Bound x y X Y cX cY W hX hY s1 s2 l1 l2)
  have HCA := Lib.hid (fun W (h : Below w0.heap.size w0 W) (s1 : a.size ≤ 1000000) => refCount a.size a A cA W (Nat.le_refl _) (HA.out W h) (by omega))
  have HCB := Lib.hid (fun W (h : Below w0.heap.size w0 W) (s1 : b.size ≤ 1000000) => refCount b.size b B cB W (Nat.le_refl _) (HB.out W h) (by omega))
  unfold Nd.val at HF1 HD HBO HCA HCB ⊢
  go_enter Try.func6, Try.ntmps6
  go_wp2_with fail
  refine (awake w0).mono ?_
  rintro e w1 ⟨rfl, hb⟩
  have H1 := Lib.hid hb
  obtain ⟨⟨a0, a1, a2, a3, a4⟩, b0, b1, b2, b3, b4⟩ := HCE.out _ H1.out
  clear hb hw1
  go_wp2_with fail
  refine (HF1.out w1 H1.out).mono ?_
  rintro e w2 ⟨rfl, hb⟩
  clear a0 a1 a2 a3 a4 b0 b1 b2 b3 b4
  have H2 := Lib.hid (H1.out.trans (hb.mono H1.out.size))
  obtain ⟨⟨a0, a1, a2, a3, a4⟩, b0, b1, b2, b3, b4⟩ := HCE.out _ H2.out
  clear hb HF1
  cases hq : FewB a 30 && FewB b 30 with
  | false =>
    clear hq
    go_wp2_with fail
    go_ret
    exact ⟨rfl, HT.out _ H2.out⟩
  | true =>
    have HQ := Lib.hid hq
    clear hq
    have sa : a.size ≤ 30 := by have := HQ.out; simp only [Bool.and_eq_true] at this; have := FewB_size this.1; omega
    have sb : b.size ≤ 30 := by have := HQ.out; simp only [Bool.and_eq_true] at this; have := FewB_size this.2; omega
    obtain ⟨d, hd⟩ : ∃ d, td a b = d := ⟨_, rfl⟩
    obtain ⟨lo, hlo⟩ : ∃ lo, boundV a b = lo := ⟨_, rfl⟩
    obtain ⟨x, hx⟩ : ∃ x, a.size = x := ⟨_, rfl⟩
    obtain ⟨y, hy⟩ : ∃ y, b.size = y := ⟨_, rfl⟩
    have f1 : lo ≤ d := by rw [← hd, ← hlo]; exact td_bound a b
    have f2 : d + 1 ≤ x + y := by rw [← hd, ← hx, ← hy]; exact td_le a b
    have f3 : (x : Int) - y ≤ lo ∧ (y : Int) - x ≤ lo := by rw [← hlo, ← hx, ← hy]; exact bound_ge a b
    have D1 := Lib.hid (fun W h => HD.out W h (by omega) (by omega))
    have D2 := Lib.hid (fun W h => HBO.out W h a b A B cA cB (HA.out W h) (HB.out W h) (by omega) (by omega) la lb)
    have D3 := Lib.hid (fun W h => HBO.out W h a a A A cA cA (HA.out W h) (HA.out W h) (by omega) (by omega) la la)
    have D4 := Lib.hid (fun W h => HBO.out W h b a B A cB cA (HB.out W h) (HA.out W h) (by omega) (by omega) lb la)
    have HCA2 := Lib.hid (fun W h => HCA.out W h (by omega))
    have HCB2 := Lib.hid (fun W h => HCB.out W h (by omega))
    rw [dV_small (by omega) (by omega), dC_small (by omega) (by omega), hd] at D1
    rw [hlo] at D2
    rw [bound_self] at D3
    rw [bound_comm, hlo] at D4
    rw [hx] at HCA2 sa
    rw [hy] at HCB2 sb
    have HX := Lib.hid (And.intro hd (And.intro hlo (And.intro hx hy)))
    clear HD HBO HCA HCB hd hlo hx hy la lb
    go_wp2_with fail
    refine (D1.out w2 H2.out).mono ?_
    rintro e w3 ⟨rfl, hb⟩
    clear a0 a1 a2 a3 a4 b0 b1 b2 b3 b4
    have h3 := H2.out.trans (hb.mono H2.out.size)
    obtain ⟨⟨a0, a1, a2, a3, a4⟩, b0, b1, b2, b3, b4⟩ := HCE.out _ h3
    clear hb
    go_wp2_with fail
    have HK := Lib.hid (show ∀ W, Below w0.heap.size w0 W → (Below w0.heap.size w0 W ∧ (W.cell? ⟨w.heap.size, 0, none⟩ = some (.int .i64 a.kind) ∧ W.cell? ⟨w.heap.size, 1, none⟩ = some (.string a.text) ∧ W.cell? ⟨w.heap.size, 2, none⟩ = some (.int .i64 a.pos) ∧ W.cell? ⟨w.heap.size, 3, none⟩ = some (.int .i64 a.fin) ∧ W.cell? ⟨w.heap.size, 4, none⟩ = some (.slice A a.kids.length cA)) ∧
        (W.cell? ⟨w.heap.size + 1, 0, none⟩ = some (.int .i64 b.kind) ∧ W.cell? ⟨w.heap.size + 1, 1, none⟩ = some (.string b.text) ∧ W.cell? ⟨w.heap.size + 1, 2, none⟩ = some (.int .i64 b.pos) ∧ W.cell? ⟨w.heap.size + 1, 3, none⟩ = some (.int .i64 b.fin) ∧ W.cell? ⟨w.heap.size + 1, 4, none⟩ = some (.slice B b.kids.length cB))) from fun W h => by
      obtain ⟨⟨a0, a1, a2, a3, a4⟩, b0, b1, b2, b3, b4⟩ := HCE.out W h
      exact ⟨h, ⟨a0, a1, a2, a3, a4⟩, b0, b1, b2, b3, b4⟩)
    clear a0 a1 a2 a3 a4 b0 b1 b2 b3 b4
    go_region_held3 (fun W => Below w0.heap.size w0 W ∧ (W.cell? ⟨w.heap.size, 0, none⟩ = some (.int .i64 a.kind) ∧ W.cell? ⟨w.heap.size, 1, none⟩ = some (.string a.text) ∧ W.cell? ⟨w.heap.size, 2, none⟩ = some (.int .i64 a.pos) ∧ W.cell? ⟨w.heap.size, 3, none⟩ = some (.int .i64 a.fin) ∧ W.cell? ⟨w.heap.size, 4, none⟩ = some (.slice A a.kids.length cA)) ∧
        (W.cell? ⟨w.heap.size + 1, 0, none⟩ = some (.int .i64 b.kind) ∧ W.cell? ⟨w.heap.size + 1, 1, none⟩ = some (.string b.text) ∧ W.cell? ⟨w.heap.size + 1, 2, none⟩ = some (.int .i64 b.pos) ∧ W.cell? ⟨w.heap.size + 1, 3, none⟩ = some (.int .i64 b.fin) ∧ W.cell? ⟨w.heap.size + 1, 4, none⟩ = some (.slice B b.kids.length cB)))
      (first | exact HK.out _ h4 | exact HK.out _ h3.drew)
      (first | (go_at_call 21; (with_reducible refine (HCA2.out _ ?_).mono ?_); (first | exact h4 | exact h3.drew); (rintro e w4 ⟨rfl, hb⟩); (first | (have h4 := trans_b h4 hb) | (have h4 := trans_b h3.drew hb))) | (go_at_call 21; (with_reducible refine (HCB2.out _ ?_).mono ?_); (first | exact h4 | exact h3.drew); (rintro e w4 ⟨rfl, hb⟩); (first | (have h4 := trans_b h4 hb) | (have h4 := trans_b h3.drew hb))))
    have H4 := Lib.hid h4
    obtain ⟨⟨a0, a1, a2, a3, a4⟩, b0, b1, b2, b3, b4⟩ := HCE.out _ h4
    clear hb h3 h4
    go_wp2_with fail
    refine (D2.out _ H4.out).mono ?_
    rintro e w5 ⟨rfl, hb⟩
    clear a0 a1 a2 a3 a4 b0 b1 b2 b3 b4
    have H5 := Lib.hid (trans_b H4.out hb)
    obtain ⟨⟨a0, a1, a2, a3, a4⟩, b0, b1, b2, b3, b4⟩ := HCE.out _ H5.out
    clear hb
    go_wp2_with fail
    refine (D3.out _ H5.out).mono ?_
    rintro e w6 ⟨rfl, hb⟩
    clear a0 a1 a2 a3 a4 b0 b1 b2 b3 b4
    have H6 := Lib.hid (trans_b H5.out hb)
    obtain ⟨⟨a0, a1, a2, a3, a4⟩, b0, b1, b2, b3, b4⟩ := HCE.out _ H6.out
    clear hb
    go_wp2_with fail
    refine (D4.out _ H6.out).mono ?_
    rintro e w7 ⟨rfl, hb⟩
    have H7 := Lib.hid (trans_b H6.out hb)
    clear hb
    go_wp2_with fail
    go_ret
    exact ⟨by simp, HT.out _ H7.out⟩
end Go.Proofs.Ytjijfgkmjachnaa
