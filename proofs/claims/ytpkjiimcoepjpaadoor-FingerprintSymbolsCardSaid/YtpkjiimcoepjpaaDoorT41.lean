/- Few: trees of at most so many nodes. -/
import Derived.Test.YtpkjiimcoepjpaaDoorC7
namespace Go.Proofs.YtpkjiimcoepjpaaDoor
set_option linter.unusedVariables false
set_option linter.unusedSimpArgs false
open Go.RowKit

def fewN : Nat → Nd → Int → Int
  | 0, _, _ => -1
  | n + 1, t, left => if left < 1 ∨ 40 < t.text.size then -1 else t.kids.foldl (fun l k => if 0 ≤ l then fewN n k l else l) (left - 1)

theorem fewN_bd (n : Nat) : ∀ t left, -1 ≤ fewN n t left ∧ (fewN n t left ≤ left ∨ fewN n t left = -1) := by
  induction n with
  | zero => intro t left; simp [fewN]
  | succ n ih =>
    intro t left
    simp only [fewN]
    split
    · simp
    · rename_i h
      have key : ∀ (l : List Nd) (x : Int), -1 ≤ x → (-1 ≤ l.foldl (fun l k => if 0 ≤ l then fewN n k l else l) x ∧ (l.foldl (fun l k => if 0 ≤ l then fewN n k l else l) x ≤ x ∨ l.foldl (fun l k => if 0 ≤ l then fewN n k l else l) x = -1)) := by
        intro l
        induction l with
        | nil => intro x hx; simp [hx]
        | cons k ks ihl =>
          intro x hx
          simp only [List.foldl_cons]
          split
          · have h1 := ih k x
            have h2 := ihl (fewN n k x) h1.1
            refine ⟨h2.1, ?_⟩
            omega
          · exact ihl x hx
      have := key t.kids (left - 1) (by omega)
      omega

theorem foldl_take_succ {α β : Type} (f : β → α → β) (b : β) (l : List α) (k : Nat) (h : k < l.length) : (l.take (k + 1)).foldl f b = f ((l.take k).foldl f b) (l[k]) := by
  rw [List.take_succ_eq_append_getElem h, List.foldl_append]; rfl
theorem foldl_stuck (n : Nat) : ∀ (l : List Nd) (x : Int), x < 0 → l.foldl (fun l k => if 0 ≤ l then fewN n k l else l) x = x := by
  intro l
  induction l with
  | nil => intro x _; rfl
  | cons k ks ih => intro x hx; simp only [List.foldl_cons]; rw [if_neg (by omega)]; exact ih x hx
theorem foldl_drop_stuck (n : Nat) (l : List Nd) (k : Nat) (x : Int) (h : (l.take k).foldl (fun l k => if 0 ≤ l then fewN n k l else l) x < 0) :
    l.foldl (fun l k => if 0 ≤ l then fewN n k l else l) x = (l.take k).foldl (fun l k => if 0 ≤ l then fewN n k l else l) x := by
  conv => lhs; rw [← List.take_append_drop k l]
  rw [List.foldl_append]; exact foldl_stuck n _ _ h

theorem ret_i {a b : Int} (h : a = b) : Ending.returned (.int .i64 a) = .returned (.int .i64 b) := by rw [h]
def fstep (n : Nat) (l : Int) (k : Nd) : Int := if 0 ≤ l then fewN n k l else l

set_option maxRecDepth 100000 in
set_option maxHeartbeats 800000 in
theorem reffew (n : Nat) : ∀ (t : Nd) (left : Int) (A : Option Addr) (c : Nat) (w : World), t.size ≤ n → RN w t A c → left ≤ 1000 → -9223372036854775808 ≤ left →
    Calls Tryd.prog 30 #[t.val A c, .int .i64 left] w fun e w' => e = .returned (.int .i64 (fewN n t left)) ∧ Below w.heap.size w w' := by
  induction n with
  | zero => intro t left A c w h; have := t.size_pos; omega
  | succ n ih =>
    intro t left A c w hn hR h1 h0
    have hlen := hR.len
    unfold Nd.val
    by_cases hl : left < 1
    · have d1 : decide (left < 1) = true := by simpa using hl
      have HF := Lib.hid (show fewN (n + 1) t left = -1 by simp only [fewN]; rw [if_pos (.inl hl)])
      go_enter Tryd.func30, Tryd.ntmps30
      go_wp2_with fail
      go_ret
      exact ⟨ret_i HF.out.symm, (Below.refl _ _).alloc (by simp) _⟩
    · have d1 : decide (left < 1) = false := by simpa using hl
      by_cases hx : 40 < t.text.size
      · have HF := Lib.hid (show fewN (n + 1) t left = -1 by simp only [fewN]; rw [if_pos (.inr hx)])
        go_enter Tryd.func30, Tryd.ntmps30
        go_wp2_with fail
        go_ret
        exact ⟨ret_i HF.out.symm, (Below.refl _ _).alloc (by simp) _⟩
      · have HF := Lib.hid (show fewN (n + 1) t left = t.kids.foldl (fstep n) (left - 1) by simp only [fewN]; rw [if_neg (by omega)]; rfl)
        go_enter Tryd.func30, Tryd.ntmps30
        go_wp2_with fail
        go_loopw [1, 5] (fun lf i wr => ∃ k : Nat, k ≤ t.kids.length ∧ i = .int .i64 k ∧ lf = .int .i64 ((t.kids.take k).foldl (fstep n) (left - 1)) ∧ -1 ≤ (t.kids.take k).foldl (fstep n) (left - 1) ∧ (t.kids.take k).foldl (fstep n) (left - 1) ≤ 1000 ∧ Below w.heap.size w wr ∧ w.heap.size < wr.heap.size ∧
          wr.cell? ⟨w.heap.size, 4, none⟩ = some (.slice A t.kids.length c)) (fun _ i _ => t.kids.length - (intOf i).toNat)
        case atStart => exact ⟨0, Nat.zero_le _, rfl, rfl, by simp; omega, by simp; omega, (Below.refl _ _).alloc (Nat.le_refl _) _, by simp, by simp⟩
        case round =>
          obtain ⟨k, hk, rfl, rfl, hlo, hhi, hbw, hlt, hc4⟩ := hrel
          generalize hx : (t.kids.take k).foldl (fstep n) (left - 1) = x at *
          have HX := Lib.hid hx
          clear hx
          by_cases hlk : k < t.kids.length
          · obtain ⟨b, o, A', c', rfl, ⟨p0, p1, p2, p3, p4⟩, hRk⟩ := (hR.keep hbw).get k hlk
            have hsk := t.size_get k hlk
            by_cases hx0 : 0 ≤ x
            · go_wp2_with fail
              refine (ih t.kids[k] x A' c' wr (by omega) hRk (by omega) (by omega)).mono ?_
              rintro e w' ⟨rfl, hb'⟩
              have hc4' : w'.cell? ⟨w.heap.size, 4, none⟩ = some (.slice (some ⟨b, o, none⟩) t.kids.length c) := (hb'.cell (p := ⟨w.heap.size, 4, none⟩) hlt).trans hc4
              have hb2 := hb'.size
              have hf := fewN_bd n t.kids[k] x
              have HS := Lib.hid (show (t.kids.take (k + 1)).foldl (fstep n) (left - 1) = fewN n t.kids[k] x by rw [foldl_take_succ _ _ _ _ hlk, HX.out]; simp only [fstep]; rw [if_pos hx0])
              clear hc4
              go_wp2_with fail
              go_roundw
              case rel => exact ⟨k + 1, hlk, by go_num, by rw [HS.out], by rw [HS.out]; exact hf.1, by rw [HS.out]; omega, hbw.trans (hb'.mono (by omega)), by omega, hc4'⟩
              case measure => simp [intOf]; omega
            · go_wp2_with fail
              go_ret
              refine ⟨ret_i ?_, hbw⟩
              rw [HF.out, ← HX.out]
              exact (foldl_drop_stuck n t.kids k (left - 1) (by have := HX.out; unfold fstep at this; rw [this]; omega)).symm
          · go_wp2_with fail
            go_ret
            refine ⟨ret_i ?_, hbw⟩
            have h4 := HX.out
            rw [List.take_of_length_le (by omega)] at h4
            rw [HF.out, h4]
end Go.Proofs.YtpkjiimcoepjpaaDoor

namespace Go.Proofs.YtpkjiimcoepjpaaDoor
set_option linter.unusedVariables false
set_option linter.unusedSimpArgs false
open Go.RowKit

def FewB (t : Nd) (m : Int) : Bool := decide (0 ≤ fewN t.size t m)
theorem refFew (t : Nd) (m : Int) (A : Option Addr) (c : Nat) (w : World) (hR : RN w t A c) (h1 : m ≤ 1000) (h0 : 0 ≤ m) :
    Calls Tryd.prog 11 #[t.val A c, .int .i64 m] w fun e w' => e = .returned (.bool (FewB t m)) ∧ Below w.heap.size w w' := by
  have hR2 : ∀ o, RN (w.alloc o) t A c := fun o => hR.keep ((Below.refl _ _).alloc (Nat.le_refl _) o)
  have hc := fun o => reffew t.size t m A c (w.alloc o) (Nat.le_refl _) (hR2 o) h1 (by omega)
  unfold Nd.val at hc ⊢
  have hC := Lib.hid hc
  clear hc hR2
  go_enter Tryd.func11, Tryd.ntmps11
  go_wp2_with fail
  refine (hC.out _).mono ?_
  rintro e w' ⟨rfl, hb⟩
  go_wp2_with fail
  go_ret
  exact ⟨rfl, ((Below.refl _ _).alloc (Nat.le_refl _) _).trans (hb.mono (by simp))⟩

theorem fewN_size (n : Nat) : ∀ (t : Nd) (left : Int), 0 ≤ fewN n t left → fewN n t left + t.size = left := by
  induction n with
  | zero => intro t left h; simp [fewN] at h
  | succ n ih =>
    intro t left h
    have key : ∀ (l : List Nd) (x : Int), 0 ≤ l.foldl (fun l k => if 0 ≤ l then fewN n k l else l) x → l.foldl (fun l k => if 0 ≤ l then fewN n k l else l) x + Nd.sizes l = x := by
      intro l
      induction l with
      | nil => intro x _; rw [Nd.sizes_nil]; simp
      | cons k l ihl =>
        intro x hx
        rw [List.foldl_cons] at hx ⊢
        by_cases h0 : 0 ≤ x
        · rw [if_pos h0] at hx ⊢
          have h1 := ihl _ hx
          by_cases h2 : 0 ≤ fewN n k x
          · have := ih k x h2
            rw [Nd.sizes_cons]
            omega
          · exfalso
            have := foldl_stuck n l (fewN n k x) (by omega)
            omega
        · exfalso
          rw [if_neg h0] at hx
          have := foldl_stuck n l x (by omega)
          omega
    have ht := t.size_eq
    simp only [fewN] at h ⊢
    by_cases hc : left < 1 ∨ 40 < t.text.size
    · rw [if_pos hc] at h; omega
    · rw [if_neg hc] at h ⊢
      have := key t.kids (left - 1) h
      omega
theorem FewB_size {t : Nd} {m : Int} (h : FewB t m = true) : (t.size : Int) ≤ m := by
  have h0 : 0 ≤ fewN t.size t m := by simpa [FewB] using h
  have := fewN_size _ t m h0
  omega
end Go.Proofs.YtpkjiimcoepjpaaDoor
