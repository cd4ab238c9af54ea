import Derived.Test.YtjijfgkmjachnaaT6
namespace Go.Proofs.Ytjijfgkmjachnaa
set_option linter.unusedVariables false
set_option linter.unusedSimpArgs false
open Go.RowKit

theorem large1 (t : Nd) (A : Option Addr) (c : Nat) (w : World) (hR : RN w t A c) (hsz : t.size ≤ 9223372036854775807) :
    Calls Try.prog 39 #[t.val A c] w fun e w' => e = .returned (.bool (decide (256 < t.size))) ∧ Below w.heap.size w w' := by
  have hc := fun w1 (hb : Below w.heap.size w w1) => Count t A c w1 (hR.keep hb) hsz
  unfold Nd.val at hc ⊢
  have HC := Lib.hid hc
  clear hc hR
  go_enter Try.func39, Try.ntmps39
  go_wp2_with fail
  refine (HC.out _ ((Below.refl _ _).alloc (by simp) _)).mono ?_
  rintro e w' ⟨rfl, hb⟩
  go_wp2_with fail
  go_ret
  exact ⟨ret_bool (decide_eq_decide.2 (by omega)), ((Below.refl _ _).alloc (Nat.le_refl _) _).trans (hb.mono (by simp))⟩

/-- the list as the kids of a node -/
def asN (l : List Nd) : Nd := .mk 0 ByteArray.empty 0 0 l
theorem asN_kids (l : List Nd) : (asN l).kids = l := rfl

set_option maxHeartbeats 400000 in
theorem IndexFunc (l : List Nd) (A : Option Addr) (c : Nat) (w : World) (hR : RN w (asN l) A c) (hsz : ∀ t ∈ l, t.size ≤ 9223372036854775807) :
    Calls Try.prog 44 #[.slice A l.length c, .func (.func 39) #[] #[]] w fun e w' => (∃ i : Int, e = .returned (.int .i64 i) ∧ -1 ≤ i ∧ i ≤ l.length ∧ (l.any (fun t => decide (256 < t.size)) = decide (0 ≤ i))) ∧ Below w.heap.size w w' := by
  have hlen := hR.len
  rw [asN_kids] at hlen
  go_enter Try.func44, Try.ntmps44
  go_wp2_with fail
  go_loopw [5, 8] (fun _ i wr => ∃ k : Nat, k ≤ l.length ∧ i = .int .i64 k ∧ Below w.heap.size w wr ∧ Hid ((l.take k).any (fun t => decide (256 < t.size)) = false)) (fun _ i _ => l.length - (intOf i).toNat)
  case atStart => exact ⟨0, Nat.zero_le _, rfl, Below.refl _ _, rfl⟩
  case round =>
    obtain ⟨k, hk, rfl, hbw, HA⟩ := hrel
    by_cases hlk : k < l.length
    · obtain ⟨b, o, A', c', rfl, ⟨p0, p1, p2, p3, p4⟩, hRk⟩ := (hR.keep hbw).get k hlk
      simp only [asN_kids] at p0 p1 p2 p3 p4 hRk
      have hl := large1 l[k] A' c' wr hRk (hsz _ (List.getElem_mem _))
      have HL := Lib.hid hl
      clear hl
      have hts : (l.take (k + 1)).any (fun t => decide (256 < t.size)) = decide (256 < (l[k]).size) := by
        rw [List.take_succ_eq_append_getElem hlk, List.any_append, HA.out]; simp
      have HT := Lib.hid hts
      clear hts hsz
      go_wp2_with fail
      refine HL.out.mono ?_
      clear HL
      rintro e w' ⟨rfl, hb⟩
      have hb2 := hb.size
      have hbw2 : Below w.heap.size w w' := hbw.trans (hb.mono hbw.size)
      clear hb
      cases hq : decide (256 < (l[k]).size) with
      | true =>
        have HQ := Lib.hid hq
        clear hq
        go_wp2_with fail
        go_ret
        refine ⟨⟨k, rfl, by omega, by omega, ?_⟩, hbw2⟩
        rw [decide_eq_true (by omega : (0 : Int) ≤ k), List.any_eq_true]
        exact ⟨l[k], List.getElem_mem _, HQ.out⟩
      | false =>
        rw [hq] at HT
        clear hq
        go_wp2_with fail
        go_roundw
        case rel => exact ⟨k + 1, hlk, by go_num, hbw2, HT⟩
        case measure => simp [intOf]; omega
    · go_wp2_with fail
      go_ret
      refine ⟨⟨-1, rfl, by omega, by omega, ?_⟩, hbw⟩
      have h := HA.out
      rw [List.take_of_length_le (by omega)] at h
      rw [h]; rfl

theorem ContainsFunc (l : List Nd) (A : Option Addr) (c : Nat) (w : World) (hR : RN w (asN l) A c) (hsz : ∀ t ∈ l, t.size ≤ 9223372036854775807) :
    Calls Try.prog 38 #[.slice A l.length c, .func (.func 39) #[] #[]] w fun e w' => e = .returned (.bool (l.any fun t => decide (256 < t.size))) ∧ Below w.heap.size w w' := by
  have HC := Lib.hid (IndexFunc l A c w hR hsz)
  clear hR hsz
  go_enter Try.func38, Try.ntmps38
  go_wp2_with fail
  refine HC.out.mono ?_
  rintro e w' ⟨⟨i, rfl, h1, h2, h3⟩, hb⟩
  have H3 := Lib.hid h3
  clear h3
  go_wp2_with fail
  go_ret
  exact ⟨ret_bool H3.out.symm, hb⟩

def bigAny (l : List Nd) : Bool := l.any fun t => decide (256 < t.size)
theorem large (l : List Nd) (A : Option Addr) (c : Nat) (w : World) (hR : RN w (asN l) A c) (hsz : ∀ t ∈ l, t.size ≤ 9223372036854775807) :
    Calls Try.prog 29 #[.slice A l.length c] w fun e w' => e = .returned (.bool (bigAny l)) ∧ Below w.heap.size w w' := by
  have HC := Lib.hid (ContainsFunc l A c w hR hsz)
  clear hR hsz
  go_enter Try.func29, Try.ntmps29
  go_wp2_with fail
  refine HC.out.mono ?_
  rintro e w' ⟨rfl, hb⟩
  go_wp2_with fail
  go_ret
  exact ⟨rfl, hb⟩
end Go.Proofs.Ytjijfgkmjachnaa
