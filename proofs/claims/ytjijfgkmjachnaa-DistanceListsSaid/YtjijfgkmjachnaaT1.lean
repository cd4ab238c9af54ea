import Derived.Test.YtjijfgkmjachnaaBase
import Derived.Test.YtjijfgkmjachnaaProg
import Derived.LoopTactic
import Derived.Outline
namespace Go.Proofs.Ytjijfgkmjachnaa
set_option linter.unusedVariables false
set_option linter.unusedSimpArgs false
open Go.RowKit

theorem sizes_take_succ (l : List Nd) (k : Nat) (h : k < l.length) : Nd.sizes (l.take (k + 1)) = Nd.sizes (l.take k) + (l[k]).size := by
  rw [List.take_succ_eq_append_getElem h, Nd.sizes_append]; simp [Nd.sizes_cons, Nd.sizes_nil]
theorem sizes_take_le (l : List Nd) (k : Nat) : Nd.sizes (l.take k) ≤ Nd.sizes l := by
  conv => rhs; rw [← List.take_append_drop k l]
  rw [Nd.sizes_append]; omega

theorem ret_nat {a b : Nat} (h : a = b) : Ending.returned (.int .i64 (a : Int)) = .returned (.int .i64 (b : Int)) := by rw [h]
set_option maxHeartbeats 400000 in
theorem refCount (n : Nat) : ∀ (t : Nd) (A : Option Addr) (c : Nat) (w : World), t.size ≤ n → RN w t A c → t.size ≤ 9223372036854775807 →
    Calls Try.prog 21 #[t.val A c] w fun e w' => e = .returned (.int .i64 t.size) ∧ Below w.heap.size w w' := by
  induction n with
  | zero => intro t A c w h; have := t.size_pos; omega
  | succ n ih =>
    intro t A c w hn hR hb
    have hlen := hR.len
    unfold Nd.val
    go_enter Try.func21, Try.ntmps21
    go_wp2_with fail
    go_loopw [3, 4] (fun out i wr => ∃ k : Nat, k ≤ t.kids.length ∧ i = .int .i64 k ∧ out = .int .i64 ((1 + Nd.sizes (t.kids.take k) : Nat) : Int) ∧ Below w.heap.size w wr ∧ w.heap.size < wr.heap.size ∧ wr.cell? ⟨w.heap.size, 4, none⟩ = some (.slice A t.kids.length c)) (fun _ i _ => t.kids.length - (intOf i).toNat)
    case atStart => exact ⟨0, Nat.zero_le _, rfl, by simp [Nd.sizes_nil], (Below.refl _ _).alloc (Nat.le_refl _) _, by simp, by simp⟩
    case round =>
      obtain ⟨k, hk, rfl, rfl, hbw, hlt, hc4⟩ := hrel
      have hle := sizes_take_le t.kids k
      have hse := t.size_eq
      by_cases hlk : k < t.kids.length
      · obtain ⟨b, o, A', c', rfl, ⟨p0, p1, p2, p3, p4⟩, hRk⟩ := (hR.keep hbw).get k hlk
        have hsk := t.size_get k hlk
        have hts := sizes_take_succ t.kids k hlk
        have hle' := sizes_take_le t.kids (k + 1)
        have HS := Lib.hid hts
        rw [hts] at hle'
        clear hts
        have hsum : 1 + Nd.sizes (t.kids.take k) + (t.kids[k]).size ≤ 9223372036854775807 := by omega
        clear hse
        go_wp2_with fail
        refine (ih t.kids[k] A' c' wr (by omega) hRk (by omega)).mono ?_
        rintro e w' ⟨rfl, hb'⟩
        have hc4' : w'.cell? ⟨w.heap.size, 4, none⟩ = some (.slice (some ⟨b, o, none⟩) t.kids.length c) := (hb'.cell (p := ⟨w.heap.size, 4, none⟩) hlt).trans hc4
        have hb2 := hb'.size
        clear hc4
        go_wp2_with fail
        go_roundw
        case rel => exact ⟨k + 1, hlk, by go_num, by rw [HS.out]; go_num, hbw.trans (hb'.mono (by omega)), by omega, hc4'⟩
        case measure => simp [intOf]; omega
      · clear hse
        go_wp2_with fail
        go_ret
        exact ⟨ret_nat (by rw [t.size_eq, List.take_of_length_le (by omega)]), hbw⟩
end Go.Proofs.Ytjijfgkmjachnaa
