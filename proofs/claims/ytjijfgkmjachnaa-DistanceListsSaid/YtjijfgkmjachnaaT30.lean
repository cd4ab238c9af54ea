import Derived.Test.YtjijfgkmjachnaaT21
import Derived.Test.YtjijfgkmjachnaaT14
import Derived.Shelf.SlIterI.Sorted
import Derived.Shelf.SlIter.AllValues
namespace Go.Proofs.Ytjijfgkmjachnaa
set_option linter.unusedVariables false
set_option linter.unusedSimpArgs false
open Go.RowKit Go.Shelf Go.Maps Go.Sort
attribute [local go_sem] Oper.semAt_some

def ValI {H : Type} (D0 : DataW H) (p : Int × Int) : Prop := ∀ zd, D0.atKey (.int .i64 p.1) zd = .lit (.int .i64 p.2)
def AllI {H : Type} (D0 : DataW H) (ps : List (Int × Int)) : Prop :=
  (ps.map (·.1)).Perm (intKeys D0) ∧ (ps.map (·.1)).Nodup ∧ (∀ x, x ∈ ps.map (·.1) ↔ has D0 (.int .i64 x) = true) ∧ ∀ p ∈ ps, ValI D0 p

set_option maxRecDepth 100000 in
set_option maxHeartbeats 1000000 in
theorem values1_in {H : Type} (n : Nat) (hn : 1 ≤ n) (l Bm b nn : Nat) (D0 : DataW H) (J : List Int → World → Prop)
    (hY : ∀ pre x W, J pre W → pre.length < Maps.size D0 → YieldAt FW (n - 1) Try.prog l #[encZ x] W fun e W' =>
      (e = .returned (.bool true) ∧ J (pre ++ [x]) W' ∧ KeepsWalks W W'))
    (W : World) (hJ : AbidesFrom W.heap.size J) (hm : W.cell? ⟨Bm, 0, none⟩ = some (.map (some b))) (hown : W.ownsMap Try.prog 3 (plainElem Try.prog 3) b nn D0) (h0 : J [] W) :
    CallsIn FW n Try.prog 53 #[.func (.yield l) #[] #[], .pointer (some ⟨Bm, 0, none⟩)] W fun e W' => (∃ v, e = .returned v) ∧
      (∃ xs, (∃ ps, AllI D0 ps ∧ xs = ps.map (·.2)) ∧ J xs W') := by
  refine callsIn_of_wp Try.func53 rfl trivial ?_ rfl
  simp only [Try.ntmps53, List.size_toArray, List.length_cons, List.length_nil, Nat.reduceAdd, Nat.reduceSub, Array.replicate_succ, Array.replicate_zero, List.push_toArray, List.append_toArray, List.nil_append, List.cons_append]
  gi_wp2_with (first
    | (gi_at_range; refine wpListIn_range_own _ rfl _ 84 rfl 3 3 (int_keyed Try.underlying3) Try.underlying84 _ b nn _ rfl hown ?_; intro w0 hrg0 hg0 hs0)
    | fail)
  go_frame
  gi_loopw [4] (fun _ wr => ∃ (left : Lit → Bool) (cnt : Nat) (ps : List (Int × Int)), wr.ranges Try.prog 3 (plainElem Try.prog 3) b W.heap.size nn D0 left cnt ∧ ps.length + cnt ≤ Maps.size D0 ∧ CollectedI D0 left (ps.map (·.1)) ∧ (∀ p ∈ ps, ValI D0 p) ∧ J (ps.map (·.2)) wr)
    (fun _ wr => wr.rangeLeft b W.heap.size)
  case atStart =>
    exact ⟨_, _, [], hrg0, by simp, CollectedI.start D0, by simp, hJ [] W w0 none h0 hg0 (fun r e => by cases e)⟩
  case round =>
    obtain ⟨left, cnt, ps, hrg, hcs, hC, hV, hJs⟩ := hrel
    gi_wp2_with (first
      | (gi_at_next; refine wpListIn_next_ranges _ rfl _ rfl 3 (int_keyed Try.underlying3) (plainElem Try.prog 3) encZ (Value.int .i64) (fun key kl hk => by obtain ⟨x, hx, _⟩ := Maps.keyOf_i64 Try.underlying3 hk; exact ⟨x, hx⟩) (fun v y hv => by obtain ⟨c, rfl, _⟩ := plainElem_int_inv Try.underlying3 hv; exact ⟨c, rfl⟩) b W.heap.size nn _ _ _ rfl hrg ?_ ?_)
      | fail)
    · intro hc0 hl0
      gi_wp2_with fail
      go_end0
      exact ⟨⟨_, rfl⟩, _, ⟨ps, ⟨hC.perm hown (int_keyed Try.underlying3) Try.underlying3 hl0, hC.1, fun x => by rw [hC.2 x, hl0]; simp, hV⟩, rfl⟩, hJs⟩
    · intro x c kl yd yp w2 cnt2 hkey hlk hv hat hrg2 hlt hg2 hs2 hen
      obtain ⟨x', ex, rfl, _⟩ := Maps.keyOf_i64 Try.underlying3 hkey
      obtain rfl : x = x' := encZ_inj ex
      obtain ⟨c', ec, ez, _⟩ := plainElem_int_inv Try.underlying3 hv
      obtain rfl : c = c' := by simpa using ec
      obtain rfl : yd = .lit (.int .i64 c) := (Prod.mk.inj ez).1
      have hJ2 : J (ps.map (·.2)) w2 := hJ _ wr w2 (some W.heap.size) hJs hg2 (fun r e => by cases e; exact ⟨Nat.le_refl _, hrg.iter_walk⟩)
      obtain ⟨fn, tmps, assign, body, hy, hR⟩ := hY (ps.map (·.2)) c w2 hJ2 (by simp; omega)
      clear hs2
      gi_wp2_with fail
      refine hR.mono ?_
      have hC2 : CollectedI D0 (fun z => left z && !z.sameKey (.int .i64 x)) ((ps ++ [(x, c)]).map (·.1)) := by simpa using hC.step hlk hat
      have hV2 : ∀ p ∈ ps ++ [(x, c)], ValI D0 p := fun p hp => (List.mem_append.1 hp).elim (hV p) (fun e => by simp at e; subst e; exact hat)
      rintro e W3 ⟨rfl, hJ3, hk3⟩
      gi_wp2_with fail
      have hrg3 := hrg2.of_walks hk3
      go_roundw
      case rel => exact ⟨_, cnt2, ps ++ [(x, c)], hrg3, by simp; omega, hC2, hV2, by simpa using hJ3⟩
      case measure => rw [hrg3.left_eq, hrg.left_eq]; exact hlt

theorem values_in (n : Nat) (mb : Option Nat) (w : World) :
    CallsIn FW n Try.prog 48 #[.map mb] w fun e w' => e = .returned (.func (.func 53) #[] #[.pointer (some ⟨w.heap.size, 0, none⟩)]) ∧ w' = w.alloc (.cells #[.map mb] 84) := by
  refine callsIn_of_wp Try.func48 rfl trivial ?_ rfl
  simp only [Try.ntmps48, List.size_toArray, List.length_cons, List.length_nil, Nat.reduceAdd, Nat.reduceSub, Array.replicate_succ, Array.replicate_zero, List.push_toArray, List.append_toArray, List.nil_append, List.cons_append]
  gi_wp2_with fail
  go_ret
  exact ⟨rfl, rfl⟩

theorem values_gives {H : Type} (n : Nat) (hn : 1 ≤ n) (Bm b nn : Nat) (D0 : DataW H) (w : World) (hBm : Bm < w.heap.size)
    (hm : w.cell? ⟨Bm, 0, none⟩ = some (.map (some b))) (hown : w.ownsMap Try.prog 3 (plainElem Try.prog 3) b nn D0) :
    SeqGives FW n Try.prog 53 #[.pointer (some ⟨Bm, 0, none⟩)] encZ (fun xs => ∃ ps, AllI D0 ps ∧ xs = ps.map (·.2)) (Maps.size D0) w := fun l J W hW hJ hY h0 => by
  have hown' : W.ownsMap Try.prog 3 (plainElem Try.prog 3) b nn D0 := by
    have hbl := hown.lt
    obtain ⟨es, clock, hb, Ft, hs, hD⟩ := hown
    exact ⟨es, clock, (hW.block b hbl).trans hb, Ft, hs, hD⟩
  exact values1_in n hn l Bm b nn D0 J hY W hJ ((hW.cell (p := ⟨Bm, 0, none⟩) hBm).trans hm) hown' h0
end Go.Proofs.Ytjijfgkmjachnaa
