import Derived.Test.YtjijfgkmjachnaaT1
import Derived.StillTailTactics
namespace Go.Proofs.Ytjijfgkmjachnaa
set_option linter.unusedVariables false
set_option linter.unusedSimpArgs false
open Go.RowKit

def sameLabel (a b : Nd) : Bool := (a.kind == b.kind) && (a.text.toList == b.text.toList)
theorem refLabel (a b : Nd) (A B : Option Addr) (c d : Nat) (w : World) :
    Calls Try.prog 35 #[a.val A c, b.val B d] w fun e w' => e = .returned (.bool (sameLabel a b)) ∧ Below w.heap.size w w' := by
  unfold Nd.val
  cases h1 : (a.kind == b.kind)
  · go_enter Try.func35, Try.ntmps35
    go_wp2_with fail
    go_ret
    exact ⟨by simp [sameLabel, h1], ((Below.refl _ _).alloc (Nat.le_refl _) _).alloc (by simp) _⟩
  · go_enter Try.func35, Try.ntmps35
    go_wp2_with fail
    go_ret
    exact ⟨by simp [sameLabel, h1], ((Below.refl _ _).alloc (Nat.le_refl _) _).alloc (by simp) _⟩

/-- two trees alike apart from their places -/
def sameN : Nat → Nd → Nd → Bool
  | 0, _, _ => false
  | n + 1, a, b => sameLabel a b && (a.kids.length == b.kids.length) && (List.zipWith (sameN n) a.kids b.kids).all id

theorem allTake {α β : Type} (f : α → β → Bool) (l : List α) (m : List β) (k : Nat) (h : k < l.length) (h' : k < m.length) :
    (List.zipWith f (l.take (k + 1)) (m.take (k + 1))).all id = ((List.zipWith f (l.take k) (m.take k)).all id && f (l[k]) (m[k])) := by
  rw [List.take_succ_eq_append_getElem h, List.take_succ_eq_append_getElem h', List.zipWith_append (by simp; omega)]
  simp [List.all_append]
theorem allOf {α β : Type} (f : α → β → Bool) (l : List α) (m : List β) (hl : l.length = m.length) (k : Nat) (h : k < l.length) (hf : f (l[k]) (m[k]'(by omega)) = false) :
    (List.zipWith f l m).all id = false := by
  rw [List.all_eq_false]
  refine ⟨f (l[k]) (m[k]'(by omega)), ?_, by simp [hf]⟩
  have : (List.zipWith f l m)[k]'(by simp; omega) = f (l[k]) (m[k]'(by omega)) := by simp
  rw [← this]; exact List.getElem_mem _

theorem ret_bool {a b : Bool} (h : a = b) : Ending.returned (.bool a) = .returned (.bool b) := by rw [h]

set_option maxRecDepth 100000 in
set_option maxHeartbeats 800000 in
theorem refSame (n : Nat) : ∀ (a b : Nd) (A B : Option Addr) (c d : Nat) (w : World), a.size ≤ n → RN w a A c → RN w b B d →
    Calls Try.prog 20 #[a.val A c, b.val B d] w fun e w' => e = .returned (.bool (sameN n a b)) ∧ Below w.heap.size w w' := by
  induction n with
  | zero => intro a b A B c d w h; have := a.size_pos; omega
  | succ n ih =>
    intro a b A B c d w hn hA hB
    have hla := hA.len
    have hlb := hB.len
    cases h1 : sameLabel a b with
    | false =>
      have HF := Lib.hid (show sameN (n + 1) a b = false by simp [sameN, h1])
      have hlab := refLabel a b A B c d
      unfold Nd.val at hlab ⊢
      have hL := Lib.hid hlab
      have hQ := Lib.hid h1
      clear hlab h1
      go_enter Try.func20, Try.ntmps20
      go_wp2_with fail
      refine (hL.out _).mono ?_
      rintro e w' ⟨rfl, hb'⟩
      rw [hQ.out]
      go_wp2_with fail
      go_ret
      exact ⟨ret_bool HF.out.symm, (((Below.refl _ _).alloc (Nat.le_refl _) _).alloc (by simp) _).trans (hb'.mono (by simp; omega))⟩
    | true =>
      have hlab := refLabel a b A B c d
      have hQ := Lib.hid h1
      have HG := Lib.hid (show ∀ r, (a.kids.length == b.kids.length) = r → sameN (n + 1) a b = (r && (List.zipWith (sameN n) a.kids b.kids).all id) by intro r hr; simp [sameN, h1, hr])
      unfold Nd.val at hlab ⊢
      have hL := Lib.hid hlab
      clear hlab h1
      cases h2 : (a.kids.length == b.kids.length) with
      | false =>
        have h3 : ((a.kids.length : Int) != (b.kids.length : Int)) = true := by
          rw [bne_iff_ne]; have := beq_eq_false_iff_ne.1 h2; omega
        have HF := Lib.hid (HG.out _ h2)
        clear h2 HG
        go_enter Try.func20, Try.ntmps20
        go_wp2_with fail
        refine (hL.out _).mono ?_
        rintro e w' ⟨rfl, hb'⟩
        rw [hQ.out]
        have k1 : w'.cell? ⟨w.heap.size, 4, none⟩ = some (.slice A a.kids.length c) := (hb'.cell (p := ⟨w.heap.size, 4, none⟩) (by simp; omega)).trans (by simp)
        have k2 : w'.cell? ⟨w.heap.size + 1, 4, none⟩ = some (.slice B b.kids.length d) := (hb'.cell (p := ⟨w.heap.size + 1, 4, none⟩) (by simp)).trans (by simp)
        go_wp2_with fail
        go_ret
        exact ⟨ret_bool (by rw [HF.out]; rfl), (((Below.refl _ _).alloc (Nat.le_refl _) _).alloc (by simp) _).trans (hb'.mono (by simp; omega))⟩
      | true =>
        have h3 : ((a.kids.length : Int) != (b.kids.length : Int)) = false := by
          rw [bne_eq_false_iff_eq]; have := beq_iff_eq.1 h2; omega
        have HE := Lib.hid (beq_iff_eq.1 h2)
        have HF := Lib.hid (HG.out _ h2)
        clear h2 HG
        go_enter Try.func20, Try.ntmps20
        go_wp2_with fail
        refine (hL.out _).mono ?_
        rintro e w' ⟨rfl, hb'⟩
        rw [hQ.out]
        have k1 : w'.cell? ⟨w.heap.size, 4, none⟩ = some (.slice A a.kids.length c) := (hb'.cell (p := ⟨w.heap.size, 4, none⟩) (by simp; omega)).trans (by simp)
        have k2 : w'.cell? ⟨w.heap.size + 1, 4, none⟩ = some (.slice B b.kids.length d) := (hb'.cell (p := ⟨w.heap.size + 1, 4, none⟩) (by simp)).trans (by simp)
        go_wp2_with fail
        go_loopw [5] (fun i wr => ∃ k : Nat, k ≤ a.kids.length ∧ i = .int .i64 k ∧ Below w.heap.size w wr ∧ w.heap.size + 1 < wr.heap.size ∧
          wr.cell? ⟨w.heap.size, 4, none⟩ = some (.slice A a.kids.length c) ∧ wr.cell? ⟨w.heap.size + 1, 4, none⟩ = some (.slice B b.kids.length d) ∧
          Hid ((List.zipWith (sameN n) (a.kids.take k) (b.kids.take k)).all id = true)) (fun i _ => a.kids.length - (intOf i).toNat)
        case atStart => exact ⟨0, Nat.zero_le _, rfl, (((Below.refl _ _).alloc (Nat.le_refl _) _).alloc (by simp) _).trans (hb'.mono (by simp; omega)), by have := hb'.size; simp at this; omega, k1, k2, by simp [Hid]⟩
        case round =>
          obtain ⟨k, hk, rfl, hbw, hlt, c1, c2, HZ⟩ := hrel
          by_cases hlk : k < a.kids.length
          · have hlkb : k < b.kids.length := by have := HE.out; omega
            obtain ⟨b1, o1, A1, d1, rfl, ⟨p0, p1, p2, p3, p4⟩, hR1⟩ := (hA.keep hbw).get k hlk
            obtain ⟨b2, o2, A2, d2, rfl, ⟨q0, q1, q2, q3, q4⟩, hR2⟩ := (hB.keep hbw).get k hlkb
            have hsk := a.size_get k hlk
            go_wp2_with fail
            go_still_tail 10, (by kernel_rfl)
            have hbd : Below wr.heap.size wr wr.drew := (Below.refl _ _).drew
            go_wp2_with fail
            refine (ih a.kids[k] b.kids[k] A1 A2 d1 d2 wr.drew (by omega) (hR1.keep hbd) (hR2.keep hbd)).mono ?_
            rintro e w2 ⟨rfl, hb2⟩
            have hs2 := hb2.size
            have e1 : w2.cell? ⟨w.heap.size, 4, none⟩ = some (.slice (some ⟨b1, o1, none⟩) a.kids.length c) := (hb2.cell (p := ⟨w.heap.size, 4, none⟩) (by simp; omega)).trans c1
            have e2 : w2.cell? ⟨w.heap.size + 1, 4, none⟩ = some (.slice (some ⟨b2, o2, none⟩) b.kids.length d) := (hb2.cell (p := ⟨w.heap.size + 1, 4, none⟩) (by simp; omega)).trans c2
            clear c1 c2 p0 p1 p2 p3 p4 q0 q1 q2 q3 q4
            simp only [World.drew] at hs2
            have hbw2 : Below w.heap.size w w2 := hbw.drew.trans (hb2.mono (by simp; omega))
            clear hb2 hbd
            cases h5 : sameN n a.kids[k] b.kids[k] with
            | true =>
              have HZ' : Hid ((List.zipWith (sameN n) (a.kids.take (k + 1)) (b.kids.take (k + 1))).all id = true) := by
                show _ = true
                rw [allTake _ _ _ _ hlk hlkb, HZ.out, h5]; rfl
              clear h5
              go_wp2_with fail
              go_roundw
              case rel => exact ⟨k + 1, hlk, by go_num, hbw2, by omega, e1, e2, HZ'⟩
              case measure => simp [intOf]; omega
            | false =>
              have HZ' := Lib.hid (allOf (sameN n) a.kids b.kids HE.out k hlk h5)
              clear h5
              go_wp2_with fail
              go_ret
              exact ⟨ret_bool (by rw [HF.out, HZ'.out]; rfl), hbw2⟩
          · go_wp2_with fail
            go_ret
            refine ⟨ret_bool ?_, hbw⟩
            have h4 := HZ.out
            rw [List.take_of_length_le (by omega), List.take_of_length_le (by have := HE.out; omega)] at h4
            rw [HF.out, h4]; rfl
end Go.Proofs.Ytjijfgkmjachnaa
