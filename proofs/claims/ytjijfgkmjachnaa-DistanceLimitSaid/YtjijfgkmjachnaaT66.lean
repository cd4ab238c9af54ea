/- wide, walked. -/
import Derived.Test.YtjijfgkmjachnaaT63
namespace Go.Proofs.Ytjijfgkmjachnaa
set_option linter.unusedVariables false
set_option linter.unusedSimpArgs false
open Go.RowKit

def wideN (n : Nat) : Nd := .mk 11 ⟨#[]⟩ 0 0 (List.replicate (n - 1) nmA)
theorem sizes_rep (k : Nat) : Nd.sizes (List.replicate k nmA) = k := by
  induction k with
  | zero => rfl
  | succ k ih => rw [List.replicate_succ, Nd.sizes_cons, ih, Nd.size_eq]; show 1 + Nd.sizes [] + k = _; rw [Nd.sizes_nil]; omega
theorem wide_size (n : Nat) (h : 1 ≤ n) : (wideN n).size = n := by rw [Nd.size_eq]; show 1 + Nd.sizes (List.replicate (n - 1) nmA) = n; rw [sizes_rep]; omega
theorem own_wide {w : World} {base : Nat} {v : Value} {k : Nat} (h : w.ownsRow base 24 5 v k (wxs k)) (hk : k ≤ 100000) : ∃ A c, v = .slice A k c ∧ k ≤ c ∧ ∀ t : Nd, t.kids = List.replicate k nmA → RNS w (fun b => base ≤ b) t A c := by
  rcases h.2 with ⟨rfl, rfl⟩ | ⟨g, cap, cur, rfl, hb, hg, hkc, hcm, hcs, htake⟩
  · exact ⟨none, 0, rfl, Nat.le_refl _, fun t ht => .nil _ _ _ (by rw [ht]; rfl)⟩
  · refine ⟨_, cap, rfl, hkc, fun t ht => ?_⟩
    have hl : t.kids.length = k := by rw [ht, List.length_replicate]
    have h2 : w.ownsRow base 24 5 (.slice (some ⟨g, 0, none⟩) (List.replicate k nmA).length cap) (List.replicate k nmA).length (cellsL (List.replicate k nmA) (fun _ => none) (fun _ => 0)) := by
      rw [List.length_replicate]; exact h
    have hrow := own_nodes h2
    refine .mk t g 0 cap (fun _ => none) (fun _ => 0) hb (by omega) (by omega) (fun i hi => ?_) (fun i hi => ?_)
    · have := hrow i (by rw [List.length_replicate]; omega)
      rw [Nat.zero_add]
      have e : t.kids[i] = (List.replicate k nmA)[i]'(by rw [List.length_replicate]; omega) := by simp [ht]
      rw [e]
      exact this
    · have e : t.kids[i] = nmA := by simp [ht]
      rw [e]
      exact .nil _ _ _ rfl

set_option maxRecDepth 100000 in
set_option maxHeartbeats 1000000 in
theorem wide (n : Nat) (h1 : 1 ≤ n) (hn : n ≤ 1000) (w : World) :
    Calls Try.prog 25 #[.int .i64 (n : Nat)] w fun e w' => (∃ A c, e = .returned ((wideN n).val A c) ∧ RNS w' (fun b => w.heap.size ≤ b) (wideN n) A c) ∧ Below w.heap.size w w' := by
  go_enter Try.func25, Try.ntmps25
  go_wp2_with fail
  obtain ⟨w1, hw1⟩ : ∃ w1, w.alloc (.cells #[.int .i64 0, .string ⟨#[]⟩, .int .i64 0, .int .i64 0, .slice none 0 0] 24) = w1 := ⟨_, rfl⟩
  rw [hw1]
  have hz1 : w1.heap.size = w.heap.size + 1 := by rw [← hw1]; simp
  have hr1 : w1.heap[w.heap.size]? = some (.cells #[.int .i64 0, .string ⟨#[]⟩, .int .i64 0, .int .i64 0, .slice none 0 0] 24 (0, 0)) := by rw [← hw1]; exact heap_alloc_new _ _
  have hbw : Below w.heap.size w w1 := by rw [← hw1]; exact (Below.refl _ _).alloc (Nat.le_refl _) _
  obtain ⟨w2, hw2⟩ : ∃ w2, w1.alloc (.cells #[.int .i64 11, .string ⟨#[]⟩, .int .i64 0, .int .i64 0, .slice none 0 0] 24) = w2 := ⟨_, rfl⟩
  rw [hw2]
  have hp2 : w2.heap[w1.heap.size]? = some (.cells #[.int .i64 11, .string ⟨#[]⟩, .int .i64 0, .int .i64 0, .slice none 0 0] 24 (0, 0)) := by rw [← hw2]; exact heap_alloc_new _ _
  have hb12 : Below w1.heap.size w1 w2 := by rw [← hw2]; exact (Below.refl _ _).alloc (Nat.le_refl _) _
  have H1 := Lib.hid (And.intro hr1 (And.intro hbw hz1))
  rw [hz1] at hp2
  have HP := Lib.hid hp2
  have HB := Lib.hid hb12
  clear hw1 hw2 hr1 hbw hz1 hp2 hb12
  go_loopw [7] (fun c wr => ∃ (k : Nat) (v : Value), c = .int .i64 k ∧ k ≤ n - 1 ∧ Hid (Below w1.heap.size w1 wr ∧ wr.ownsRow w1.heap.size 24 5 v k (wxs k) ∧ v.ownBlock ≠ some (w.heap.size + 1) ∧ wr.heap[w.heap.size + 1]? = some (.cells #[.int .i64 11, .string ⟨#[]⟩, .int .i64 0, .int .i64 0, v] 24 (0, 0)))) (fun c _ => n - (intOf c).toNat)
  case atStart => exact ⟨0, .slice none 0 0, rfl, Nat.zero_le _, Lib.hid ⟨HB.out, World.ownsRow_nil _ _ _ _, by simp [Value.ownBlock], HP.out⟩⟩
  case round =>
    obtain ⟨k, v, rfl, hk, HR⟩ := hrel
    by_cases hlt : k < n - 1
    · have hlt' : (k : Int) < (n : Int) - 1 := by omega
      go_wp2_with fail
      refine region25 w1 (w.heap.size + 1) k v (by omega) (by rw [H1.out.2.2]; exact Nat.le_refl _) HR.out.2.2.1 _ (by rfl) (by rfl) _ _ HR.out.1 HR.out.2.1 HR.out.2.2.2 ?_
      intro f W g cap hb hown hg hp
      simp only [ds25, setAll, List.setIfInBounds_toArray, List.set_cons_zero, List.set_cons_succ, Nat.zero_add, Nat.reduceAdd]
      have HX := Lib.hid (And.intro hb (And.intro hown (And.intro hg hp)))
      clear hb hown hg hp
      go_wp2_with fail
      go_roundw
      case rel => exact ⟨k + 1, .slice (some ⟨g, 0, none⟩) (k + 1) cap, by go_num, by omega, Lib.hid ⟨HX.out.1, HX.out.2.1, by simp only [Value.ownBlock, ne_eq, Option.some.injEq]; exact HX.out.2.2.1, HX.out.2.2.2⟩⟩
      case measure => simp [intOf]; omega
    · obtain rfl : k = n - 1 := by omega
      have hge : ¬ ((n - 1 : Nat) : Int) < (n : Int) - 1 := by omega
      obtain ⟨A, c, rfl, hkc, hrn⟩ := own_wide HR.out.2.1 (by omega)
      have hp := HR.out.2.2.2
      have hr : wr.heap[w.heap.size]? = some (.cells #[.int .i64 0, .string ⟨#[]⟩, .int .i64 0, .int .i64 0, .slice none 0 0] 24 (0, 0)) := (HR.out.1.block _ (by have := H1.out.2.2; omega)).trans H1.out.1
      have a := At5.of (t := wideN n) (A := A) (c := c) (b := w.heap.size + 1) (W := wr) (by rw [hp]; simp [cells5, wideN, Nd.kind, Nd.text, Nd.pos, Nd.fin, Nd.kids])
      have z := At5.of (t := Nd.mk 0 ⟨#[]⟩ 0 0 []) (A := none) (c := 0) hr
      have fz : ∀ j, wr.frozen? ⟨w.heap.size, j, none⟩ = false := fun j => by simp [World.frozen?, hr]
      obtain ⟨V, hV⟩ : ∃ V, set5 wr w.heap.size 0 (wideN n) A c = V := ⟨_, rfl⟩
      have hz : At5 V w.heap.size 0 (wideN n) A c := by rw [← hV]; exact set5_at z.some5
      have hbw : Below w.heap.size w V := by rw [← hV]; exact set5_below (H1.out.2.1.trans (HR.out.1.mono (by have := H1.out.2.2; omega))) _ _ _ _ _ (Nat.le_refl _)
      have hrV : RNS V (fun b => w.heap.size ≤ b) (wideN n) A c := by
        have h0 := hrn (wideN n) rfl
        refine (h0.keep (w1 := V) fun b hb hlt => ?_).mono fun b hb => by have := H1.out.2.2; omega
        rw [← hV]
        exact set5_block _ _ _ _ _ _ _ (by have := H1.out.2.2; omega)
      have HZ := Lib.hid (And.intro hrV hbw)
      unfold set5 at hV
      simp only [Nat.zero_add] at hV
      obtain ⟨a0, a1, a2, a3, a4⟩ := a
      obtain ⟨z0, z1, z2, z3, z4⟩ := z
      obtain ⟨T, hT⟩ : ∃ T, wideN n = T := ⟨_, rfl⟩
      have e0 : (11 : Int) = T.kind := by rw [← hT]; rfl
      rw [hT] at hz a0 a1 a2 a3 a4 hV HZ
      have HT := Lib.hid hT
      obtain ⟨x0, x1, x2, x3, x4⟩ := hz
      clear hp hr hrn hT e0
      go_wp2_with fail
      try rw [hV]
      refine bodyPost_ret (v := T.val A c) (by simp [results, Try.results25, go_sem, x0, x1, x2, x3, x4, Nd.val]) rfl ⟨⟨A, c, by rw [HT.out], by rw [HT.out]; exact HZ.out.1⟩, HZ.out.2⟩
end Go.Proofs.Ytjijfgkmjachnaa
