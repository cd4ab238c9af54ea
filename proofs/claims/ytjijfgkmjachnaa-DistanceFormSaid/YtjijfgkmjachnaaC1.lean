/- Seat 37, texts merged: words, and the walks of the small functions. Lemmas for the laws of chapter 37; no conditions of their own beyond what each states. -/
import Derived.Below
import Derived.WalkKit
import Derived.OwnWalk
import Derived.WalkSmall
import Derived.Lib.Hide
import Derived.Laws.NewBlocks
import Derived.Test.YtjijfgkmjachnaaProg
import Derived.LoopTactic
import Derived.Outline
import Derived.StillTailTactics
import Derived.RangeFuncNested
import Derived.RangeFuncBound
import Derived.RangeFuncCalls
import Derived.RangeFuncLeaves
import Derived.Shelf.Abstract
import Derived.Shelf.RegionOpen
import Derived.OwnWalkIn
import Derived.TacticsInMore
import Derived.LoopNIn
import Derived.LoopIn
import Derived.Deep.OwnRows
import Derived.Laws.StructEq
namespace Go.Proofs.Ytjijfgkmjachnaa
set_option linter.unusedVariables false
set_option linter.unusedSimpArgs false
open Go.RowKit

/-! ### trees -/
inductive Nd where
  | mk (kind : Int) (text : ByteArray) (pos fin : Int) (kids : List Nd)
namespace Nd
def kind : Nd → Int | .mk k _ _ _ _ => k
def text : Nd → ByteArray | .mk _ t _ _ _ => t
def pos : Nd → Int | .mk _ _ a _ _ => a
def fin : Nd → Int | .mk _ _ _ e _ => e
def kids : Nd → List Nd | .mk _ _ _ _ l => l
mutual
def size : Nd → Nat | .mk _ _ _ _ l => 1 + sizes l
def sizes : List Nd → Nat | [] => 0 | t :: ts => size t + sizes ts
end
theorem size_eq (t : Nd) : t.size = 1 + sizes t.kids := by cases t; simp [size, kids]
theorem sizes_nil : sizes [] = 0 := by simp [sizes]
theorem sizes_cons (t : Nd) (ts : List Nd) : sizes (t :: ts) = t.size + sizes ts := by simp [sizes]
theorem sizes_append (a b : List Nd) : sizes (a ++ b) = sizes a + sizes b := by
  induction a with
  | nil => simp [sizes_nil]
  | cons t ts ih => simp [sizes_cons, ih]; omega
theorem size_pos (t : Nd) : 0 < t.size := by rw [size_eq]; omega
theorem size_le_of_mem {t : Nd} {l : List Nd} (h : t ∈ l) : t.size ≤ sizes l := by
  induction l with
  | nil => cases h
  | cons u us ih =>
    rw [sizes_cons]
    rcases List.mem_cons.1 h with rfl | h
    · omega
    · have := ih h; omega
theorem size_kid {t k : Nd} (h : k ∈ t.kids) : k.size < t.size := by
  have := size_le_of_mem h; rw [size_eq t]; omega
theorem size_get (t : Nd) (i : Nat) (h : i < t.kids.length) : (t.kids[i]).size < t.size := size_kid (List.getElem_mem h)
/-- The five cells of a node whose kids lie at A. -/
def cells (t : Nd) (A : Option Addr) (c : Nat) : List Value := [.int .i64 t.kind, .string t.text, .int .i64 t.pos, .int .i64 t.fin, .slice A t.kids.length c]
def val (t : Nd) (A : Option Addr) (c : Nat) : Value := .agg #[.int .i64 t.kind, .string t.text, .int .i64 t.pos, .int .i64 t.fin, .slice A t.kids.length c]
end Nd

/-- The five cells of a node at b, o. -/
structure At5 (w : World) (b o : Nat) (t : Nd) (A : Option Addr) (c : Nat) : Prop where
  c0 : w.cell? ⟨b, o, none⟩ = some (.int .i64 t.kind)
  c1 : w.cell? ⟨b, o + 1, none⟩ = some (.string t.text)
  c2 : w.cell? ⟨b, o + 2, none⟩ = some (.int .i64 t.pos)
  c3 : w.cell? ⟨b, o + 3, none⟩ = some (.int .i64 t.fin)
  c4 : w.cell? ⟨b, o + 4, none⟩ = some (.slice A t.kids.length c)

/-- The kids of t lie at A: each node's cells, and its own kids. -/
inductive RN (w : World) : Nd → Option Addr → Nat → Prop where
  | mk (t : Nd) (b o : Nat) (c : Nat) (As : Nat → Option Addr) (cs : Nat → Nat) (hc : t.kids.length ≤ c) (hm : t.kids.length ≤ 9223372036854775807)
      (hcell : ∀ (i : Nat) (h : i < t.kids.length), At5 w b (o + i * 5) (t.kids[i]) (As i) (cs i))
      (hsub : ∀ (i : Nat) (h : i < t.kids.length), RN w (t.kids[i]) (As i) (cs i)) : RN w t (some ⟨b, o, none⟩) c
  | nil (t : Nd) (c : Nat) (A : Option Addr) (h : t.kids = []) : RN w t A c

theorem At5.lt {w : World} {b o : Nat} {t : Nd} {A : Option Addr} {c : Nat} (h : At5 w b o t A c) : b < w.heap.size := World.block_lt_of_cell? w _ h.c0
theorem At5.keep {w w1 : World} {b o : Nat} {t : Nd} {A : Option Addr} {c : Nat} (h : At5 w b o t A c) {B : Nat} (hb : Below B w w1) (hB : b < B) : At5 w1 b o t A c :=
  ⟨(hb.cell (p := ⟨b, _, none⟩) hB).trans h.c0, (hb.cell (p := ⟨b, _, none⟩) hB).trans h.c1, (hb.cell (p := ⟨b, _, none⟩) hB).trans h.c2, (hb.cell (p := ⟨b, _, none⟩) hB).trans h.c3, (hb.cell (p := ⟨b, _, none⟩) hB).trans h.c4⟩
theorem RN.keep {w w1 : World} (hb : Below w.heap.size w w1) {t : Nd} {A : Option Addr} {c : Nat} (h : RN w t A c) : RN w1 t A c := by
  induction h with
  | mk t b o c As cs hc hm hcell _ ih => exact .mk t b o c As cs hc hm (fun i hi => (hcell i hi).keep hb (hcell i hi).lt) ih
  | nil t c A h => exact .nil t c A h
theorem RN.len {w : World} {t : Nd} {A : Option Addr} {c : Nat} (h : RN w t A c) : t.kids.length ≤ 9223372036854775807 := by
  cases h with
  | mk _ _ _ _ _ _ _ hm => exact hm
  | nil _ _ _ h => rw [h]; simp
theorem RN.get {w : World} {t : Nd} {A : Option Addr} {c : Nat} (h : RN w t A c) (i : Nat) (hi : i < t.kids.length) :
    ∃ b o A' c', A = some ⟨b, o, none⟩ ∧ At5 w b (o + i * 5) (t.kids[i]) A' c' ∧ RN w (t.kids[i]) A' c' := by
  cases h with
  | mk _ b o _ As cs _ _ hcell hsub => exact ⟨b, o, As i, cs i, rfl, hcell i hi, hsub i hi⟩
  | nil _ _ _ h => rw [h] at hi; simp at hi
end Go.Proofs.Ytjijfgkmjachnaa

namespace Go.Proofs.Ytjijfgkmjachnaa
set_option linter.unusedVariables false
set_option linter.unusedSimpArgs false
open Go.RowKit

theorem sizes_take_succ (l : List Nd) (k : Nat) (h : k < l.length) : Nd.sizes (l.take (k + 1)) = Nd.sizes (l.take k) + (l[k]).size := by
  rw [List.take_succ_eq_append_getElem h, Nd.sizes_append]; simp [Nd.sizes_cons, Nd.sizes_nil]
theorem sizes_take_le (l : List Nd) (k : Nat) : Nd.sizes (l.take k) ≤ Nd.sizes l := by
  conv => rhs; rw [← List.take_append_drop k l]
  rw [Nd.sizes_append]; omega

theorem ret_nat {a b : Nat} (h : a = b) : Ending.returned (.int .i64 (a : Int)) = .returned (.int .i64 (b : Int)) := by rw [h]
set_option maxHeartbeats 400000 in
theorem refCount (n : Nat) : ∀ (t : Nd) (A : Option Addr) (c : Nat) (w : World), t.size ≤ n → RN w t A c → t.size ≤ 9223372036854775807 →
    Calls Try.prog 21 #[t.val A c] w fun e w' => e = .returned (.int .i64 t.size) ∧ Below w.heap.size w w' := by
  induction n with
  | zero => intro t A c w h; have := t.size_pos; omega
  | succ n ih =>
    intro t A c w hn hR hb
    have hlen := hR.len
    unfold Nd.val
    go_enter Try.func21, Try.ntmps21
    go_wp2_with fail
    go_loopw [3, 4] (fun out i wr => ∃ k : Nat, k ≤ t.kids.length ∧ i = .int .i64 k ∧ out = .int .i64 ((1 + Nd.sizes (t.kids.take k) : Nat) : Int) ∧ Below w.heap.size w wr ∧ w.heap.size < wr.heap.size ∧ wr.cell? ⟨w.heap.size, 4, none⟩ = some (.slice A t.kids.length c)) (fun _ i _ => t.kids.length - (intOf i).toNat)
    case atStart => exact ⟨0, Nat.zero_le _, rfl, by simp [Nd.sizes_nil], (Below.refl _ _).alloc (Nat.le_refl _) _, by simp, by simp⟩
    case round =>
      obtain ⟨k, hk, rfl, rfl, hbw, hlt, hc4⟩ := hrel
      have hle := sizes_take_le t.kids k
      have hse := t.size_eq
      by_cases hlk : k < t.kids.length
      · obtain ⟨b, o, A', c', rfl, ⟨p0, p1, p2, p3, p4⟩, hRk⟩ := (hR.keep hbw).get k hlk
        have hsk := t.size_get k hlk
        have hts := sizes_take_succ t.kids k hlk
        have hle' := sizes_take_le t.kids (k + 1)
        have HS := Lib.hid hts
        rw [hts] at hle'
        clear hts
        have hsum : 1 + Nd.sizes (t.kids.take k) + (t.kids[k]).size ≤ 9223372036854775807 := by omega
        clear hse
        go_wp2_with fail
        refine (ih t.kids[k] A' c' wr (by omega) hRk (by omega)).mono ?_
        rintro e w' ⟨rfl, hb'⟩
        have hc4' : w'.cell? ⟨w.heap.size, 4, none⟩ = some (.slice (some ⟨b, o, none⟩) t.kids.length c) := (hb'.cell (p := ⟨w.heap.size, 4, none⟩) hlt).trans hc4
        have hb2 := hb'.size
        clear hc4
        go_wp2_with fail
        go_roundw
        case rel => exact ⟨k + 1, hlk, by go_num, by rw [HS.out]; go_num, hbw.trans (hb'.mono (by omega)), by omega, hc4'⟩
        case measure => simp [intOf]; omega
      · clear hse
        go_wp2_with fail
        go_ret
        exact ⟨ret_nat (by rw [t.size_eq, List.take_of_length_le (by omega)]), hbw⟩
end Go.Proofs.Ytjijfgkmjachnaa

namespace Go.Proofs.Ytjijfgkmjachnaa
set_option linter.unusedVariables false
set_option linter.unusedSimpArgs false
open Go.RowKit

def sameLabel (a b : Nd) : Bool := (a.kind == b.kind) && (a.text.toList == b.text.toList)
theorem refLabel (a b : Nd) (A B : Option Addr) (c d : Nat) (w : World) :
    Calls Try.prog 35 #[a.val A c, b.val B d] w fun e w' => e = .returned (.bool (sameLabel a b)) ∧ Below w.heap.size w w' := by
  unfold Nd.val
  cases h1 : (a.kind == b.kind)
  · go_enter Try.func35, Try.ntmps35
    go_wp2_with fail
    go_ret
    exact ⟨by simp [sameLabel, h1], ((Below.refl _ _).alloc (Nat.le_refl _) _).alloc (by simp) _⟩
  · go_enter Try.func35, Try.ntmps35
    go_wp2_with fail
    go_ret
    exact ⟨by simp [sameLabel, h1], ((Below.refl _ _).alloc (Nat.le_refl _) _).alloc (by simp) _⟩

/-- two trees alike apart from their places -/
def sameN : Nat → Nd → Nd → Bool
  | 0, _, _ => false
  | n + 1, a, b => sameLabel a b && (a.kids.length == b.kids.length) && (List.zipWith (sameN n) a.kids b.kids).all id

theorem allTake {α β : Type} (f : α → β → Bool) (l : List α) (m : List β) (k : Nat) (h : k < l.length) (h' : k < m.length) :
    (List.zipWith f (l.take (k + 1)) (m.take (k + 1))).all id = ((List.zipWith f (l.take k) (m.take k)).all id && f (l[k]) (m[k])) := by
  rw [List.take_succ_eq_append_getElem h, List.take_succ_eq_append_getElem h', List.zipWith_append (by simp; omega)]
  simp [List.all_append]
theorem allOf {α β : Type} (f : α → β → Bool) (l : List α) (m : List β) (hl : l.length = m.length) (k : Nat) (h : k < l.length) (hf : f (l[k]) (m[k]'(by omega)) = false) :
    (List.zipWith f l m).all id = false := by
  rw [List.all_eq_false]
  refine ⟨f (l[k]) (m[k]'(by omega)), ?_, by simp [hf]⟩
  have : (List.zipWith f l m)[k]'(by simp; omega) = f (l[k]) (m[k]'(by omega)) := by simp
  rw [← this]; exact List.getElem_mem _

theorem ret_bool {a b : Bool} (h : a = b) : Ending.returned (.bool a) = .returned (.bool b) := by rw [h]

set_option maxRecDepth 100000 in
set_option maxHeartbeats 800000 in
theorem refSame (n : Nat) : ∀ (a b : Nd) (A B : Option Addr) (c d : Nat) (w : World), a.size ≤ n → RN w a A c → RN w b B d →
    Calls Try.prog 20 #[a.val A c, b.val B d] w fun e w' => e = .returned (.bool (sameN n a b)) ∧ Below w.heap.size w w' := by
  induction n with
  | zero => intro a b A B c d w h; have := a.size_pos; omega
  | succ n ih =>
    intro a b A B c d w hn hA hB
    have hla := hA.len
    have hlb := hB.len
    cases h1 : sameLabel a b with
    | false =>
      have HF := Lib.hid (show sameN (n + 1) a b = false by simp [sameN, h1])
      have hlab := refLabel a b A B c d
      unfold Nd.val at hlab ⊢
      have hL := Lib.hid hlab
      have hQ := Lib.hid h1
      clear hlab h1
      go_enter Try.func20, Try.ntmps20
      go_wp2_with fail
      refine (hL.out _).mono ?_
      rintro e w' ⟨rfl, hb'⟩
      rw [hQ.out]
      go_wp2_with fail
      go_ret
      exact ⟨ret_bool HF.out.symm, (((Below.refl _ _).alloc (Nat.le_refl _) _).alloc (by simp) _).trans (hb'.mono (by simp; omega))⟩
    | true =>
      have hlab := refLabel a b A B c d
      have hQ := Lib.hid h1
      have HG := Lib.hid (show ∀ r, (a.kids.length == b.kids.length) = r → sameN (n + 1) a b = (r && (List.zipWith (sameN n) a.kids b.kids).all id) by intro r hr; simp [sameN, h1, hr])
      unfold Nd.val at hlab ⊢
      have hL := Lib.hid hlab
      clear hlab h1
      cases h2 : (a.kids.length == b.kids.length) with
      | false =>
        have h3 : ((a.kids.length : Int) != (b.kids.length : Int)) = true := by
          rw [bne_iff_ne]; have := beq_eq_false_iff_ne.1 h2; omega
        have HF := Lib.hid (HG.out _ h2)
        clear h2 HG
        go_enter Try.func20, Try.ntmps20
        go_wp2_with fail
        refine (hL.out _).mono ?_
        rintro e w' ⟨rfl, hb'⟩
        rw [hQ.out]
        have k1 : w'.cell? ⟨w.heap.size, 4, none⟩ = some (.slice A a.kids.length c) := (hb'.cell (p := ⟨w.heap.size, 4, none⟩) (by simp; omega)).trans (by simp)
        have k2 : w'.cell? ⟨w.heap.size + 1, 4, none⟩ = some (.slice B b.kids.length d) := (hb'.cell (p := ⟨w.heap.size + 1, 4, none⟩) (by simp)).trans (by simp)
        go_wp2_with fail
        go_ret
        exact ⟨ret_bool (by rw [HF.out]; rfl), (((Below.refl _ _).alloc (Nat.le_refl _) _).alloc (by simp) _).trans (hb'.mono (by simp; omega))⟩
      | true =>
        have h3 : ((a.kids.length : Int) != (b.kids.length : Int)) = false := by
          rw [bne_eq_false_iff_eq]; have := beq_iff_eq.1 h2; omega
        have HE := Lib.hid (beq_iff_eq.1 h2)
        have HF := Lib.hid (HG.out _ h2)
        clear h2 HG
        go_enter Try.func20, Try.ntmps20
        go_wp2_with fail
        refine (hL.out _).mono ?_
        rintro e w' ⟨rfl, hb'⟩
        rw [hQ.out]
        have k1 : w'.cell? ⟨w.heap.size, 4, none⟩ = some (.slice A a.kids.length c) := (hb'.cell (p := ⟨w.heap.size, 4, none⟩) (by simp; omega)).trans (by simp)
        have k2 : w'.cell? ⟨w.heap.size + 1, 4, none⟩ = some (.slice B b.kids.length d) := (hb'.cell (p := ⟨w.heap.size + 1, 4, none⟩) (by simp)).trans (by simp)
        go_wp2_with fail
        go_loopw [5] (fun i wr => ∃ k : Nat, k ≤ a.kids.length ∧ i = .int .i64 k ∧ Below w.heap.size w wr ∧ w.heap.size + 1 < wr.heap.size ∧
          wr.cell? ⟨w.heap.size, 4, none⟩ = some (.slice A a.kids.length c) ∧ wr.cell? ⟨w.heap.size + 1, 4, none⟩ = some (.slice B b.kids.length d) ∧
          Hid ((List.zipWith (sameN n) (a.kids.take k) (b.kids.take k)).all id = true)) (fun i _ => a.kids.length - (intOf i).toNat)
        case atStart => exact ⟨0, Nat.zero_le _, rfl, (((Below.refl _ _).alloc (Nat.le_refl _) _).alloc (by simp) _).trans (hb'.mono (by simp; omega)), by have := hb'.size; simp at this; omega, k1, k2, by simp [Hid]⟩
        case round =>
          obtain ⟨k, hk, rfl, hbw, hlt, c1, c2, HZ⟩ := hrel
          by_cases hlk : k < a.kids.length
          · have hlkb : k < b.kids.length := by have := HE.out; omega
            obtain ⟨b1, o1, A1, d1, rfl, ⟨p0, p1, p2, p3, p4⟩, hR1⟩ := (hA.keep hbw).get k hlk
            obtain ⟨b2, o2, A2, d2, rfl, ⟨q0, q1, q2, q3, q4⟩, hR2⟩ := (hB.keep hbw).get k hlkb
            have hsk := a.size_get k hlk
            go_wp2_with fail
            go_still_tail 10, (by kernel_rfl)
            have hbd : Below wr.heap.size wr wr.drew := (Below.refl _ _).drew
            go_wp2_with fail
            refine (ih a.kids[k] b.kids[k] A1 A2 d1 d2 wr.drew (by omega) (hR1.keep hbd) (hR2.keep hbd)).mono ?_
            rintro e w2 ⟨rfl, hb2⟩
            have hs2 := hb2.size
            have e1 : w2.cell? ⟨w.heap.size, 4, none⟩ = some (.slice (some ⟨b1, o1, none⟩) a.kids.length c) := (hb2.cell (p := ⟨w.heap.size, 4, none⟩) (by simp; omega)).trans c1
            have e2 : w2.cell? ⟨w.heap.size + 1, 4, none⟩ = some (.slice (some ⟨b2, o2, none⟩) b.kids.length d) := (hb2.cell (p := ⟨w.heap.size + 1, 4, none⟩) (by simp; omega)).trans c2
            clear c1 c2 p0 p1 p2 p3 p4 q0 q1 q2 q3 q4
            simp only [World.drew] at hs2
            have hbw2 : Below w.heap.size w w2 := hbw.drew.trans (hb2.mono (by simp; omega))
            clear hb2 hbd
            cases h5 : sameN n a.kids[k] b.kids[k] with
            | true =>
              have HZ' : Hid ((List.zipWith (sameN n) (a.kids.take (k + 1)) (b.kids.take (k + 1))).all id = true) := by
                show _ = true
                rw [allTake _ _ _ _ hlk hlkb, HZ.out, h5]; rfl
              clear h5
              go_wp2_with fail
              go_roundw
              case rel => exact ⟨k + 1, hlk, by go_num, hbw2, by omega, e1, e2, HZ'⟩
              case measure => simp [intOf]; omega
            | false =>
              have HZ' := Lib.hid (allOf (sameN n) a.kids b.kids HE.out k hlk h5)
              clear h5
              go_wp2_with fail
              go_ret
              exact ⟨ret_bool (by rw [HF.out, HZ'.out]; rfl), hbw2⟩
          · go_wp2_with fail
            go_ret
            refine ⟨ret_bool ?_, hbw⟩
            have h4 := HZ.out
            rw [List.take_of_length_le (by omega), List.take_of_length_le (by have := HE.out; omega)] at h4
            rw [HF.out, h4]; rfl
end Go.Proofs.Ytjijfgkmjachnaa

namespace Go.Proofs.Ytjijfgkmjachnaa
set_option linter.unusedVariables false
set_option linter.unusedSimpArgs false
open Go.RowKit

def fewN : Nat → Nd → Int → Int
  | 0, _, _ => -1
  | n + 1, t, left => if left < 1 ∨ 40 < t.text.size then -1 else t.kids.foldl (fun l k => if 0 ≤ l then fewN n k l else l) (left - 1)

theorem fewN_bd (n : Nat) : ∀ t left, -1 ≤ fewN n t left ∧ (fewN n t left ≤ left ∨ fewN n t left = -1) := by
  induction n with
  | zero => intro t left; simp [fewN]
  | succ n ih =>
    intro t left
    simp only [fewN]
    split
    · simp
    · rename_i h
      have key : ∀ (l : List Nd) (x : Int), -1 ≤ x → (-1 ≤ l.foldl (fun l k => if 0 ≤ l then fewN n k l else l) x ∧ (l.foldl (fun l k => if 0 ≤ l then fewN n k l else l) x ≤ x ∨ l.foldl (fun l k => if 0 ≤ l then fewN n k l else l) x = -1)) := by
        intro l
        induction l with
        | nil => intro x hx; simp [hx]
        | cons k ks ihl =>
          intro x hx
          simp only [List.foldl_cons]
          split
          · have h1 := ih k x
            have h2 := ihl (fewN n k x) h1.1
            refine ⟨h2.1, ?_⟩
            omega
          · exact ihl x hx
      have := key t.kids (left - 1) (by omega)
      omega

theorem foldl_take_succ {α β : Type} (f : β → α → β) (b : β) (l : List α) (k : Nat) (h : k < l.length) : (l.take (k + 1)).foldl f b = f ((l.take k).foldl f b) (l[k]) := by
  rw [List.take_succ_eq_append_getElem h, List.foldl_append]; rfl
theorem foldl_stuck (n : Nat) : ∀ (l : List Nd) (x : Int), x < 0 → l.foldl (fun l k => if 0 ≤ l then fewN n k l else l) x = x := by
  intro l
  induction l with
  | nil => intro x _; rfl
  | cons k ks ih => intro x hx; simp only [List.foldl_cons]; rw [if_neg (by omega)]; exact ih x hx
theorem foldl_drop_stuck (n : Nat) (l : List Nd) (k : Nat) (x : Int) (h : (l.take k).foldl (fun l k => if 0 ≤ l then fewN n k l else l) x < 0) :
    l.foldl (fun l k => if 0 ≤ l then fewN n k l else l) x = (l.take k).foldl (fun l k => if 0 ≤ l then fewN n k l else l) x := by
  conv => lhs; rw [← List.take_append_drop k l]
  rw [List.foldl_append]; exact foldl_stuck n _ _ h

theorem ret_i {a b : Int} (h : a = b) : Ending.returned (.int .i64 a) = .returned (.int .i64 b) := by rw [h]
def fstep (n : Nat) (l : Int) (k : Nd) : Int := if 0 ≤ l then fewN n k l else l

set_option maxRecDepth 100000 in
set_option maxHeartbeats 800000 in
theorem reffew (n : Nat) : ∀ (t : Nd) (left : Int) (A : Option Addr) (c : Nat) (w : World), t.size ≤ n → RN w t A c → left ≤ 1000 → -9223372036854775808 ≤ left →
    Calls Try.prog 37 #[t.val A c, .int .i64 left] w fun e w' => e = .returned (.int .i64 (fewN n t left)) ∧ Below w.heap.size w w' := by
  induction n with
  | zero => intro t left A c w h; have := t.size_pos; omega
  | succ n ih =>
    intro t left A c w hn hR h1 h0
    have hlen := hR.len
    unfold Nd.val
    by_cases hl : left < 1
    · have d1 : decide (left < 1) = true := by simpa using hl
      have HF := Lib.hid (show fewN (n + 1) t left = -1 by simp only [fewN]; rw [if_pos (.inl hl)])
      go_enter Try.func37, Try.ntmps37
      go_wp2_with fail
      go_ret
      exact ⟨ret_i HF.out.symm, (Below.refl _ _).alloc (by simp) _⟩
    · have d1 : decide (left < 1) = false := by simpa using hl
      by_cases hx : 40 < t.text.size
      · have HF := Lib.hid (show fewN (n + 1) t left = -1 by simp only [fewN]; rw [if_pos (.inr hx)])
        go_enter Try.func37, Try.ntmps37
        go_wp2_with fail
        go_ret
        exact ⟨ret_i HF.out.symm, (Below.refl _ _).alloc (by simp) _⟩
      · have HF := Lib.hid (show fewN (n + 1) t left = t.kids.foldl (fstep n) (left - 1) by simp only [fewN]; rw [if_neg (by omega)]; rfl)
        go_enter Try.func37, Try.ntmps37
        go_wp2_with fail
        go_loopw [1, 5] (fun lf i wr => ∃ k : Nat, k ≤ t.kids.length ∧ i = .int .i64 k ∧ lf = .int .i64 ((t.kids.take k).foldl (fstep n) (left - 1)) ∧ -1 ≤ (t.kids.take k).foldl (fstep n) (left - 1) ∧ (t.kids.take k).foldl (fstep n) (left - 1) ≤ 1000 ∧ Below w.heap.size w wr ∧ w.heap.size < wr.heap.size ∧
          wr.cell? ⟨w.heap.size, 4, none⟩ = some (.slice A t.kids.length c)) (fun _ i _ => t.kids.length - (intOf i).toNat)
        case atStart => exact ⟨0, Nat.zero_le _, rfl, rfl, by simp; omega, by simp; omega, (Below.refl _ _).alloc (Nat.le_refl _) _, by simp, by simp⟩
        case round =>
          obtain ⟨k, hk, rfl, rfl, hlo, hhi, hbw, hlt, hc4⟩ := hrel
          generalize hx : (t.kids.take k).foldl (fstep n) (left - 1) = x at *
          have HX := Lib.hid hx
          clear hx
          by_cases hlk : k < t.kids.length
          · obtain ⟨b, o, A', c', rfl, ⟨p0, p1, p2, p3, p4⟩, hRk⟩ := (hR.keep hbw).get k hlk
            have hsk := t.size_get k hlk
            by_cases hx0 : 0 ≤ x
            · go_wp2_with fail
              refine (ih t.kids[k] x A' c' wr (by omega) hRk (by omega) (by omega)).mono ?_
              rintro e w' ⟨rfl, hb'⟩
              have hc4' : w'.cell? ⟨w.heap.size, 4, none⟩ = some (.slice (some ⟨b, o, none⟩) t.kids.length c) := (hb'.cell (p := ⟨w.heap.size, 4, none⟩) hlt).trans hc4
              have hb2 := hb'.size
              have hf := fewN_bd n t.kids[k] x
              have HS := Lib.hid (show (t.kids.take (k + 1)).foldl (fstep n) (left - 1) = fewN n t.kids[k] x by rw [foldl_take_succ _ _ _ _ hlk, HX.out]; simp only [fstep]; rw [if_pos hx0])
              clear hc4
              go_wp2_with fail
              go_roundw
              case rel => exact ⟨k + 1, hlk, by go_num, by rw [HS.out], by rw [HS.out]; exact hf.1, by rw [HS.out]; omega, hbw.trans (hb'.mono (by omega)), by omega, hc4'⟩
              case measure => simp [intOf]; omega
            · go_wp2_with fail
              go_ret
              refine ⟨ret_i ?_, hbw⟩
              rw [HF.out, ← HX.out]
              exact (foldl_drop_stuck n t.kids k (left - 1) (by have := HX.out; unfold fstep at this; rw [this]; omega)).symm
          · go_wp2_with fail
            go_ret
            refine ⟨ret_i ?_, hbw⟩
            have h4 := HX.out
            rw [List.take_of_length_le (by omega)] at h4
            rw [HF.out, h4]
end Go.Proofs.Ytjijfgkmjachnaa

namespace Go.Proofs.Ytjijfgkmjachnaa
set_option linter.unusedVariables false
set_option linter.unusedSimpArgs false
open Go.RowKit

def FewB (t : Nd) (m : Int) : Bool := decide (0 ≤ fewN t.size t m)
theorem refFew (t : Nd) (m : Int) (A : Option Addr) (c : Nat) (w : World) (hR : RN w t A c) (h1 : m ≤ 1000) (h0 : 0 ≤ m) :
    Calls Try.prog 28 #[t.val A c, .int .i64 m] w fun e w' => e = .returned (.bool (FewB t m)) ∧ Below w.heap.size w w' := by
  have hR2 : ∀ o, RN (w.alloc o) t A c := fun o => hR.keep ((Below.refl _ _).alloc (Nat.le_refl _) o)
  have hc := fun o => reffew t.size t m A c (w.alloc o) (Nat.le_refl _) (hR2 o) h1 (by omega)
  unfold Nd.val at hc ⊢
  have hC := Lib.hid hc
  clear hc hR2
  go_enter Try.func28, Try.ntmps28
  go_wp2_with fail
  refine (hC.out _).mono ?_
  rintro e w' ⟨rfl, hb⟩
  go_wp2_with fail
  go_ret
  exact ⟨rfl, ((Below.refl _ _).alloc (Nat.le_refl _) _).trans (hb.mono (by simp))⟩

set_option maxHeartbeats 400000 in
theorem lawfew (a b : Nd) (m : Int) (A B : Option Addr) (c d : Nat) (w : World) (hA : RN w a A c) (hB : RN w b B d) (h1 : m ≤ 1000) (h0 : 0 ≤ m) :
    Calls Try.prog 11 #[a.val A c, b.val B d, .int .i64 m] w fun e w' => e = .returned (.bool (FewB a m && FewB b m)) ∧ Below w.heap.size w w' := by
  have hc := fun w1 (hb : Below w.heap.size w w1) => refFew a m A c w1 (hA.keep hb) h1 h0
  have hd := fun w1 (hb : Below w.heap.size w w1) => refFew b m B d w1 (hB.keep hb) h1 h0
  unfold Nd.val at hc hd ⊢
  have hC := Lib.hid hc
  have hD := Lib.hid hd
  clear hc hd hA hB
  cases hq : FewB a m with
  | false =>
    have HQ := Lib.hid hq
    clear hq
    go_enter Try.func11, Try.ntmps11
    go_wp2_with fail
    refine (hC.out _ (((Below.refl _ _).alloc (Nat.le_refl _) _).alloc (by simp) _)).mono ?_
    rintro e w' ⟨rfl, hb⟩
    rw [HQ.out]
    go_wp2_with fail
    go_ret
    exact ⟨rfl, (((Below.refl _ _).alloc (Nat.le_refl _) _).alloc (by simp) _).trans (hb.mono (by simp; omega))⟩
  | true =>
    have HQ := Lib.hid hq
    clear hq
    go_enter Try.func11, Try.ntmps11
    go_wp2_with fail
    refine (hC.out _ (((Below.refl _ _).alloc (Nat.le_refl _) _).alloc (by simp) _)).mono ?_
    rintro e w' ⟨rfl, hb⟩
    rw [HQ.out]
    have hbw : Below w.heap.size w w' := (((Below.refl _ _).alloc (Nat.le_refl _) _).alloc (by simp) _).trans (hb.mono (by simp; omega))
    have q0 : w'.cell? ⟨w.heap.size + 1, 0, none⟩ = some (.int .i64 b.kind) := (hb.cell (p := ⟨w.heap.size + 1, 0, none⟩) (by simp)).trans (by simp)
    have q1 : w'.cell? ⟨w.heap.size + 1, 1, none⟩ = some (.string b.text) := (hb.cell (p := ⟨w.heap.size + 1, 1, none⟩) (by simp)).trans (by simp)
    have q2 : w'.cell? ⟨w.heap.size + 1, 2, none⟩ = some (.int .i64 b.pos) := (hb.cell (p := ⟨w.heap.size + 1, 2, none⟩) (by simp)).trans (by simp)
    have q3 : w'.cell? ⟨w.heap.size + 1, 3, none⟩ = some (.int .i64 b.fin) := (hb.cell (p := ⟨w.heap.size + 1, 3, none⟩) (by simp)).trans (by simp)
    have q4 : w'.cell? ⟨w.heap.size + 1, 4, none⟩ = some (.slice B b.kids.length d) := (hb.cell (p := ⟨w.heap.size + 1, 4, none⟩) (by simp)).trans (by simp)
    clear hb
    go_wp2_with fail
    refine (hD.out _ hbw).mono ?_
    rintro e w2 ⟨rfl, hb2⟩
    go_wp2_with fail
    go_ret
    exact ⟨rfl, hbw.trans (hb2.mono hbw.size)⟩
end Go.Proofs.Ytjijfgkmjachnaa

namespace Go.Proofs.Ytjijfgkmjachnaa
set_option linter.unusedVariables false
set_option linter.unusedSimpArgs false
open Go.RowKit Go.Shelf
attribute [local go_sem] Oper.semAt_some

/-- All cells outside S are as they were. -/
structure KC (S : Nat → Prop) (w W : World) : Prop where
  size : w.heap.size ≤ W.heap.size
  cells : ∀ k c t f, ¬ S k → w.heap[k]? = some (.cells c t f) → W.heap[k]? = some (.cells c t f)
theorem KC.refl (S : Nat → Prop) (w : World) : KC S w w := ⟨Nat.le_refl _, fun _ _ _ _ _ h => h⟩
theorem KC.trans {S : Nat → Prop} {a b c : World} (h : KC S a b) (k : KC S b c) : KC S a c :=
  ⟨Nat.le_trans h.size k.size, fun i x t f hs hi => k.cells i x t f hs (h.cells i x t f hs hi)⟩
theorem KC.alloc (S : Nat → Prop) (w : World) (o : Obj) : KC S w (w.alloc o) :=
  ⟨by simp, fun k c t f _ h => by rw [Below.heap_alloc w o k (Array.getElem?_eq_some_iff.1 h).1]; exact h⟩
theorem KC.setCell {S : Nat → Prop} {w : World} {a : Addr} (hs : S a.block) (v : Value) : KC S w (w.setCell a v) :=
  ⟨by simp [World.setCell], fun k c t f hk h => by rw [Below.heap_setCell w a v k (by rintro rfl; exact hk hs)]; exact h⟩
theorem KC.putObj {S : Nat → Prop} {w : World} {l : Nat} {o : Obj} (h : w.heap[l]? = some o) (ho : o.isCells = false) (o' : Obj) : KC S w (w.putObj l o') := by
  have hg := grownBy_putObj' w l o'
  refine ⟨hg.size, fun k c t f _ hk => ?_⟩
  have hne : k ≠ l := by rintro rfl; rw [h] at hk; injection hk with hk; subst hk; simp [Obj.isCells] at ho
  rw [hg.block k (Array.getElem?_eq_some_iff.1 hk).1 (by simpa using hne)]; exact hk
theorem KC.cell {S : Nat → Prop} {w W : World} (h : KC S w W) {a : Addr} {v : Value} (hs : ¬ S a.block) (hc : w.cell? a = some v) : W.cell? a = some v := by
  unfold World.cell? at hc ⊢
  cases hb : w.heap[a.block]? with
  | none => rw [hb] at hc; simp at hc
  | some o =>
    cases o <;> rw [hb] at hc <;> simp at hc
    rename_i c t f
    rw [h.cells _ _ _ _ hs hb]; simpa using hc
theorem RN.keepC {S : Nat → Prop} {w W : World} (h : KC S w W) (hS : ∀ k, S k → w.heap.size ≤ k) {t : Nd} {A : Option Addr} {c : Nat} (hr : RN w t A c) : RN W t A c := by
  induction hr with
  | mk t b o c As cs hc hm hcell _ ih =>
    refine .mk t b o c As cs hc hm (fun i hi => ?_) ih
    have hlt : ¬ S b := fun hs => by have := (hcell i hi).lt; have := hS b hs; omega
    exact ⟨h.cell (a := ⟨b, _, none⟩) hlt (hcell i hi).c0, h.cell (a := ⟨b, _, none⟩) hlt (hcell i hi).c1, h.cell (a := ⟨b, _, none⟩) hlt (hcell i hi).c2, h.cell (a := ⟨b, _, none⟩) hlt (hcell i hi).c3, h.cell (a := ⟨b, _, none⟩) hlt (hcell i hi).c4⟩
  | nil t c A h => exact .nil t c A h

theorem At5.keepC {S : Nat → Prop} {w W : World} (h : KC S w W) (hS : ∀ k, S k → w.heap.size ≤ k) {b o : Nat} {t : Nd} {A : Option Addr} {c : Nat} (hr : At5 w b o t A c) : At5 W b o t A c := by
  have hlt : ¬ S b := fun hs => by have := hr.lt; have := hS b hs; omega
  exact ⟨h.cell (a := ⟨b, _, none⟩) hlt hr.c0, h.cell (a := ⟨b, _, none⟩) hlt hr.c1, h.cell (a := ⟨b, _, none⟩) hlt hr.c2, h.cell (a := ⟨b, _, none⟩) hlt hr.c3, h.cell (a := ⟨b, _, none⟩) hlt hr.c4⟩
abbrev FW : Fence := Fence.wide
theorem RangeFuncAny.any {m : Nat} (m' : Nat) {P : Program} {l : Nat} {args : Array Value} {W : World} {R : Ending → World → Prop} (h : YieldAt FW m P l args W R) : YieldAt FW m' P l args W R := by
  obtain ⟨fn, tmps, assign, body, hy, hR⟩ := h
  exact ⟨fn, tmps, assign, body, hy, hR.1, fun c cs _ => hR.2 c cs (fun d h => by cases h)⟩

set_option maxRecDepth 100000 in
set_option maxHeartbeats 1000000 in
theorem visit_in (l Bs N : Nat) (w0 : World) (hBs : w0.heap.size ≤ Bs) (B : Nat) (J Jx : List Value → World → Prop) (hJ : AbidesFrom B J)
    (hY : ∀ m pre x W, J pre W → pre.length < N → YieldAt FW m Try.prog l #[x] W fun e W' =>
      (e = .returned (.bool true) ∧ J (pre ++ [x]) W' ∧ KC (· = Bs) W W') ∨ (e = .returned (.bool false) ∧ Jx (pre ++ [x]) W')) (n : Nat) :
    ∀ (t : Nd) (A : Option Addr) (c : Nat) (m : Nat) (pre : List Value) (W : World), t.size ≤ n → RN w0 t A c → KC (· = Bs) w0 W → Bs < W.heap.size → J pre W → pre.length + t.size ≤ N →
      CallsIn FW m Try.prog 50 #[t.val A c, .func (.yield l) #[] #[]] W fun e W' =>
        (e = .returned (.bool true) ∧ (∃ q : List Value, q.length = t.size ∧ J (pre ++ q) W') ∧ KC (· = Bs) W W') ∨ (e = .returned (.bool false) ∧ ∃ pre', Jx pre' W') := by
  induction n with
  | zero => intro t A c m pre W h; have := t.size_pos; omega
  | succ n ih =>
    intro t A c m pre W hn hR hK hB2 hj hN
    have hlen := hR.len
    have hy := hY (m - 1) pre (t.val A c) (W.alloc (.cells #[.int .i64 t.kind, .string t.text, .int .i64 t.pos, .int .i64 t.fin, .slice A t.kids.length c] 24)) (hJ _ _ _ none hj (World.grownBy_alloc W _ none) (fun r e => by cases e)) (by have := t.size_pos; omega)
    have hIH := Lib.hid ih
    clear ih
    unfold Nd.val at hy ⊢
    refine callsIn_of_wp Try.func50 rfl trivial ?_ rfl
    simp only [Try.ntmps50, List.size_toArray, List.length_cons, List.length_nil, Nat.reduceAdd, Nat.reduceSub, Array.replicate_succ, Array.replicate_zero, List.push_toArray, List.append_toArray, List.nil_append, List.cons_append]
    obtain ⟨fn, tmps, assign, body, hy1, hR1⟩ := hy
    have HR1 := Lib.hid hR1
    clear hR1
    gi_wp2_with fail
    refine ⟨fun h => (by cases h), ?_⟩
    refine HR1.out.mono ?_
    clear HR1 hy1
    have hsz : (W.alloc (.cells #[.int .i64 t.kind, .string t.text, .int .i64 t.pos, .int .i64 t.fin, .slice A t.kids.length c] 24)).heap.size = W.heap.size + 1 := by simp
    rintro e W1 (⟨rfl, hj1, hk1⟩ | ⟨rfl, hx1⟩)
    · have hKW : KC (· = Bs) W W1 := (KC.alloc _ W _).trans hk1
      have hb4 : W1.cell? ⟨W.heap.size, 4, none⟩ = some (.slice A t.kids.length c) := hk1.cell (a := ⟨W.heap.size, 4, none⟩) (by simp; omega) (by simp)
      clear hk1 hsz
      gi_wp2_with fail
      gi_loopw [14] (fun i wr => ∃ k : Nat, k ≤ t.kids.length ∧ i = .int .i64 k ∧ KC (· = Bs) W wr ∧ ∃ q : List Value, q.length = 1 + Nd.sizes (t.kids.take k) ∧ J (pre ++ q) wr) (fun i _ => t.kids.length - (intOf i).toNat)
      case atStart => exact ⟨0, Nat.zero_le _, rfl, hKW, [_], by simp [Nd.sizes_nil], hj1⟩
      case round =>
        obtain ⟨k, hk, rfl, hKr, q, hq, hjq⟩ := hrel
        have hse := t.size_eq
        by_cases hlk : k < t.kids.length
        · obtain ⟨b, o, A', c', rfl, h5, hRk⟩ := hR.get k hlk
          obtain ⟨p0, p1, p2, p3, p4⟩ := h5.keepC (hK.trans hKr) (by rintro k rfl; exact hBs)
          have hsk := t.size_get k hlk
          have hts := sizes_take_succ t.kids k hlk
          have hle := sizes_take_le t.kids (k + 1)
          have hal := World.grownBy_alloc wr (.cells #[.int .i64 t.kids[k].kind, .string t.kids[k].text, .int .i64 t.kids[k].pos, .int .i64 t.kids[k].fin, .slice A' t.kids[k].kids.length c'] 24) none
          have hrec := hIH.out t.kids[k] A' c' (m - 1) (pre ++ q) (wr.alloc (.cells #[.int .i64 t.kids[k].kind, .string t.kids[k].text, .int .i64 t.kids[k].pos, .int .i64 t.kids[k].fin, .slice A' t.kids[k].kids.length c'] 24)) (by omega) hRk ((hK.trans hKr).trans (KC.alloc _ _ _)) (by have := hKr.size; simp; omega) (hJ _ _ _ none hjq hal (fun r e => by cases e)) (by simp; omega)
          have HREC := Lib.hid hrec
          clear hrec hal
          clear hse hts hle
          gi_wp2_with fail
          refine ⟨trivial, fun h => (by cases h), ?_⟩
          refine HREC.out.mono ?_
          clear HREC
          rintro e W2 (⟨rfl, ⟨q2, hq2, hj2⟩, hk2⟩ | ⟨rfl, pre2, hx2⟩)
          · have hK2 : KC (· = Bs) W W2 := hKr.trans ((KC.alloc _ _ _).trans hk2)
            have hq3 : (q ++ q2).length = 1 + Nd.sizes (t.kids.take (k + 1)) := by rw [sizes_take_succ t.kids k hlk, List.length_append]; omega
            have HQ := Lib.hid hq3
            rw [List.append_assoc] at hj2
            clear hq hq2 hq3
            gi_wp2_with fail
            go_roundw
            case rel => exact ⟨k + 1, hlk, by go_num, hK2, q ++ q2, HQ.out, hj2⟩
            case measure => simp [intOf]; omega
          · gi_wp2_with fail
            go_ret
            exact .inr ⟨rfl, pre2, hx2⟩
        · have HS := Lib.hid hse
          clear hse
          have HQ := Lib.hid hq
          clear hq
          gi_wp2_with fail
          go_ret
          exact .inl ⟨rfl, ⟨q, by rw [HQ.out, HS.out, List.take_of_length_le (by omega)], hjq⟩, hKr⟩
    · gi_wp2_with fail
      go_ret
      exact .inr ⟨rfl, _, hx1⟩


set_option maxHeartbeats 1000000 in
theorem nodes1_in (l Bs Bn : Nat) (w0 : World) (hBs : w0.heap.size ≤ Bs) (B : Nat) (J Jx : List Value → World → Prop) (hJ : AbidesFrom B J) (m : Nat) (t : Nd) (A : Option Addr) (c : Nat)
    (hY : ∀ pre x W, J pre W → pre.length < t.size → YieldAt FW m Try.prog l #[x] W fun e W' =>
      (e = .returned (.bool true) ∧ J (pre ++ [x]) W' ∧ KC (· = Bs) W W') ∨ (e = .returned (.bool false) ∧ Jx (pre ++ [x]) W'))
    (m2 : Nat) (W : World) (hR : RN w0 t A c) (hK : KC (· = Bs) w0 W) (hB2 : Bs < W.heap.size) (hN : W.heap[Bn]? = some (.cells #[.int .i64 t.kind, .string t.text, .int .i64 t.pos, .int .i64 t.fin, .slice A t.kids.length c] 24 (0, 0))) (hj : J [] W) :
    CallsIn FW m2 Try.prog 49 #[.func (.yield l) #[] #[], .pointer (some ⟨Bn, 0, none⟩)] W fun e W' => (∃ v, e = .returned v) ∧ ((∃ q : List Value, q.length = t.size ∧ J q W') ∨ (∃ pre', Jx pre' W')) := by
  have hv := visit_in l Bs t.size w0 hBs B J Jx hJ (fun m' pre x W hj hl => RangeFuncAny.any m' (hY pre x W hj hl)) t.size t A c (m2 - 1) [] W (Nat.le_refl _) hR hK hB2 hj (by simp)
  unfold Nd.val at hv
  have HV := Lib.hid hv
  clear hv
  have c0 : W.cell? ⟨Bn, 0, none⟩ = some (.int .i64 t.kind) := by simp [World.cell?, hN]
  have c1 : W.cell? ⟨Bn, 1, none⟩ = some (.string t.text) := by simp [World.cell?, hN]
  have c2 : W.cell? ⟨Bn, 2, none⟩ = some (.int .i64 t.pos) := by simp [World.cell?, hN]
  have c3 : W.cell? ⟨Bn, 3, none⟩ = some (.int .i64 t.fin) := by simp [World.cell?, hN]
  have c4 : W.cell? ⟨Bn, 4, none⟩ = some (.slice A t.kids.length c) := by simp [World.cell?, hN]
  clear hN
  refine callsIn_of_wp Try.func49 rfl trivial ?_ rfl
  simp only [Try.ntmps49, List.size_toArray, List.length_cons, List.length_nil, Nat.reduceAdd, Nat.reduceSub, Array.replicate_succ, Array.replicate_zero, List.push_toArray, List.append_toArray, List.nil_append, List.cons_append]
  gi_wp2_with fail
  refine ⟨trivial, fun h => (by cases h), ?_⟩
  refine HV.out.mono ?_
  rintro e W2 (⟨rfl, ⟨q2, hq2, hj2⟩, hk2⟩ | ⟨rfl, pre2, hx2⟩)
  · have HQ := Lib.hid hq2
    clear hq2
    gi_wp2_with fail
    go_end0
    exact ⟨⟨_, rfl⟩, .inl ⟨q2, HQ.out, by simpa using hj2⟩⟩
  · gi_wp2_with fail
    go_end0
    exact ⟨⟨_, rfl⟩, .inr ⟨_, hx2⟩⟩
end Go.Proofs.Ytjijfgkmjachnaa

namespace Go.Proofs.Ytjijfgkmjachnaa
set_option linter.unusedVariables false
set_option linter.unusedSimpArgs false
open Go.RowKit Go.Shelf
attribute [local go_sem] Oper.semAt_some

theorem nodes_in (m : Nat) (t : Nd) (A : Option Addr) (c : Nat) (w : World) :
    CallsIn FW m Try.prog 45 #[t.val A c] w fun e w' => e = .returned (.func (.func 49) #[] #[.pointer (some ⟨w.heap.size, 0, none⟩)]) ∧
      w' = w.alloc (.cells #[.int .i64 t.kind, .string t.text, .int .i64 t.pos, .int .i64 t.fin, .slice A t.kids.length c] 24) := by
  unfold Nd.val
  refine callsIn_of_wp Try.func45 rfl trivial ?_ rfl
  simp only [Try.ntmps45, List.size_toArray, List.length_cons, List.length_nil, Nat.reduceAdd, Nat.reduceSub, Array.replicate_succ, Array.replicate_zero, List.push_toArray, List.append_toArray, List.nil_append, List.cons_append]
  gi_wp2_with fail
  go_ret
  exact ⟨rfl, rfl⟩

set_option maxRecDepth 100000 in
set_option maxHeartbeats 2000000 in
theorem Count_in (t : Nd) (A : Option Addr) (c : Nat) (w : World) (hR : RN w t A c) (hsz : t.size ≤ 9223372036854775807) :
    CallsIn FW 9 Try.prog 40 #[t.val A c] w fun e w' => e = .returned (.int .i64 t.size) ∧ Below w.heap.size w w' := by
  have hn := nodes_in 8 t A c
  unfold Nd.val at hn ⊢
  have HN := Lib.hid hn
  clear hn
  refine callsIn_of_wp_marks Try.func40 rfl trivial ?_ rfl
  simp only [Try.ntmps40, List.size_toArray, List.length_cons, List.length_nil, Nat.reduceAdd, Nat.reduceSub, Array.replicate_succ, Array.replicate_zero, List.push_toArray, List.append_toArray, List.nil_append, List.cons_append]
  gi_wp2_with fail
  refine ⟨trivial, ?_⟩
  refine (HN.out _).mono ?_
  clear HN
  rintro e w' ⟨rfl, rfl⟩
  gi_wp2_with fail
  obtain ⟨W0, hW0⟩ : ∃ W0, ((w.alloc (.cells #[.int .i64 t.kind, .string t.text, .int .i64 t.pos, .int .i64 t.fin, .slice A t.kids.length c] 24)).alloc (.cells #[.int .i64 0] 3)).alloc (.cells #[.int .i64 t.kind, .string t.text, .int .i64 t.pos, .int .i64 t.fin, .slice A t.kids.length c] 24) = W0 := ⟨_, rfl⟩
  have hs0 : W0.heap.size = w.heap.size + 3 := by rw [← hW0]; simp
  have hbx : W0.heap[w.heap.size + 1]? = some (.cells #[.int .i64 0] 3 (0, 0)) := by
    rw [← hW0, Below.heap_alloc _ _ _ (by simp)]
    have := heap_alloc_new (w.alloc (.cells #[.int .i64 t.kind, .string t.text, .int .i64 t.pos, .int .i64 t.fin, .slice A t.kids.length c] 24)) (.cells #[.int .i64 0] 3)
    simpa using this
  have hbn : W0.heap[w.heap.size + 2]? = some (.cells #[.int .i64 t.kind, .string t.text, .int .i64 t.pos, .int .i64 t.fin, .slice A t.kids.length c] 24 (0, 0)) := by
    rw [← hW0]
    have := heap_alloc_new ((w.alloc (.cells #[.int .i64 t.kind, .string t.text, .int .i64 t.pos, .int .i64 t.fin, .slice A t.kids.length c] 24)).alloc (.cells #[.int .i64 0] 3)) (.cells #[.int .i64 t.kind, .string t.text, .int .i64 t.pos, .int .i64 t.fin, .slice A t.kids.length c] 24)
    simpa using this
  have hbw : Below w.heap.size w W0 := by
    rw [← hW0]; exact (((Below.refl _ _).alloc (Nat.le_refl _) _).alloc (by simp) _).alloc (by simp; omega) _
  have hkc : KC (· = w.heap.size + 1) w W0 := by
    rw [← hW0]; exact ((KC.alloc _ _ _).trans (KC.alloc _ _ _)).trans (KC.alloc _ _ _)
  rw [hW0]
  have hseq : SeqStopsK FW 8 Try.prog 49 #[.pointer (some ⟨w.heap.size + 2, 0, none⟩)] (fun x : Value => #[x]) (KC (· = w.heap.size + 1)) (fun xs => xs.length = t.size) (fun _ => True) t.size W0 := by
    intro l J Jx W hW hJ hJx hY h0
    have hkW : KC (· = w.heap.size + 1) W0 W := ⟨hW.size, fun k c t f _ h => (hW.block k (Array.getElem?_eq_some_iff.1 h).1).trans h⟩
    refine (nodes1_in l (w.heap.size + 1) (w.heap.size + 2) w (by omega) W.heap.size J Jx hJ 7 t A c hY 8 W hR (hkc.trans hkW) (by have := hW.size; omega) ((hW.block _ (by omega)).trans hbn) h0).mono ?_
    rintro e W' ⟨hv, h⟩
    refine ⟨hv, ?_⟩
    rcases h with ⟨q, h1, h2⟩ | ⟨pre, h⟩
    · exact .inl ⟨q, h1, h2⟩
    · exact .inr ⟨pre, trivial, h⟩
  refine wpIn_rangeFunc_ownF rfl (by omega) (gf := 49) (lb := #[.pointer (some ⟨w.heap.size + 2, 0, none⟩)]) rfl trivial (enters_of Try.func49 (by kernel_rfl) rfl)
    hseq (fun h k => h.trans k) (fun W l o o' _ h1 h2 _ => KC.putObj h1 h2 o') (Below.refl _ _) (fun _ => rfl)
    (fun pre W => W.heap[w.heap.size + 1]? = some (.cells #[.int .i64 (pre.length : Nat)] 3 (0, 0)) ∧ Below w.heap.size w W)
    (fun _ _ _ => False)
    (OwnFrom.and (fun s W W' row hs hg hr => by
      refine (hg.block _ (Array.getElem?_eq_some_iff.1 hs).1 ?_).trans hs
      intro e; obtain ⟨_, o, ho, hc⟩ := hr _ e.symm; rw [hs] at ho; injection ho with ho; subst ho; simp [Obj.isCells] at hc) (ownFrom_below (Nat.le_refl _) (by omega)))
    (fun _ _ _ _ _ hs _ _ => hs)
    ⟨hbx, hbw⟩
    (fun x => { tmps := #[.agg #[.int .i64 t.kind, .string t.text, .int .i64 t.pos, .int .i64 t.fin, .slice A t.kids.length c], .pointer (some ⟨w.heap.size, 0, none⟩), .int .i64 0, .pointer (some ⟨w.heap.size + 1, 0, none⟩), .agg #[.int .i64 t.kind, .string t.text, .int .i64 t.pos, .int .i64 t.fin, .slice A t.kids.length c], .func (.func 49) #[] #[.pointer (some ⟨w.heap.size + 2, 0, none⟩)], x, undef, undef, undef], defers := [] }) ?assign ?body ?done ?stop
  case assign =>
    intro l x W K hK
    gi_wp2
    simpa using hK
  case body =>
    rintro l pre x W ⟨hc, hB⟩ hlt
    have c1 : W.cell? ⟨w.heap.size + 1, 0, none⟩ = some (.int .i64 (pre.length : Nat)) := by simp [World.cell?, hc]
    have c2 : W.frozen? ⟨w.heap.size + 1, 0, none⟩ = false := by simp [World.frozen?, hc]
    have HC := Lib.hid hc
    clear hc
    gi_wp2
    refine ⟨KeepsOthers.setCell _ _ _, KC.setCell (S := (· = w.heap.size + 1)) (a := ⟨w.heap.size + 1, 0, none⟩) rfl _, ?_, hB.setCell (p := ⟨w.heap.size + 1, 0, none⟩) (by simp) _⟩
    have h2 := HC.out
    simp [World.setCell, Array.getElem?_modify, h2]
  case done =>
    rintro D ys W hD hl ⟨hc, hB⟩ hK
    have c1 : W.cell? ⟨w.heap.size + 1, 0, none⟩ = some (.int .i64 (ys.length : Nat)) := by simp [World.cell?, hc]
    have HC := Lib.hid hl
    clear hc hl
    gi_wp2
    refine ⟨by simp, .inl ⟨_, _, rfl, run_takeDeferred hK, ?_⟩⟩
    exact ⟨_, results_tmp (t := 2) rfl _ _ _, ret_nat HC.out, hB.trans (belowK_b (w := w) (Nat.le_refl _) W D _ _ (by omega) hK rfl rfl)⟩
  case stop =>
    rintro D c pre W _ _ h _
    exact h.elim
theorem Count (t : Nd) (A : Option Addr) (c : Nat) (w : World) (hR : RN w t A c) (hsz : t.size ≤ 9223372036854775807) :
    Calls Try.prog 40 #[t.val A c] w fun e w' => e = .returned (.int .i64 t.size) ∧ Below w.heap.size w w' :=
  callsIn_wide.1 (Count_in t A c w hR hsz)
end Go.Proofs.Ytjijfgkmjachnaa

namespace Go.Proofs.Ytjijfgkmjachnaa
set_option linter.unusedVariables false
set_option linter.unusedSimpArgs false
open Go.RowKit

theorem large1 (t : Nd) (A : Option Addr) (c : Nat) (w : World) (hR : RN w t A c) (hsz : t.size ≤ 9223372036854775807) :
    Calls Try.prog 39 #[t.val A c] w fun e w' => e = .returned (.bool (decide (256 < t.size))) ∧ Below w.heap.size w w' := by
  have hc := fun w1 (hb : Below w.heap.size w w1) => Count t A c w1 (hR.keep hb) hsz
  unfold Nd.val at hc ⊢
  have HC := Lib.hid hc
  clear hc hR
  go_enter Try.func39, Try.ntmps39
  go_wp2_with fail
  refine (HC.out _ ((Below.refl _ _).alloc (by simp) _)).mono ?_
  rintro e w' ⟨rfl, hb⟩
  go_wp2_with fail
  go_ret
  exact ⟨ret_bool (decide_eq_decide.2 (by omega)), ((Below.refl _ _).alloc (Nat.le_refl _) _).trans (hb.mono (by simp))⟩

/-- the list as the kids of a node -/
def asN (l : List Nd) : Nd := .mk 0 ByteArray.empty 0 0 l
theorem asN_kids (l : List Nd) : (asN l).kids = l := rfl

set_option maxHeartbeats 400000 in
theorem IndexFunc (l : List Nd) (A : Option Addr) (c : Nat) (w : World) (hR : RN w (asN l) A c) (hsz : ∀ t ∈ l, t.size ≤ 9223372036854775807) :
    Calls Try.prog 44 #[.slice A l.length c, .func (.func 39) #[] #[]] w fun e w' => (∃ i : Int, e = .returned (.int .i64 i) ∧ -1 ≤ i ∧ i ≤ l.length ∧ (l.any (fun t => decide (256 < t.size)) = decide (0 ≤ i))) ∧ Below w.heap.size w w' := by
  have hlen := hR.len
  rw [asN_kids] at hlen
  go_enter Try.func44, Try.ntmps44
  go_wp2_with fail
  go_loopw [5, 8] (fun _ i wr => ∃ k : Nat, k ≤ l.length ∧ i = .int .i64 k ∧ Below w.heap.size w wr ∧ Hid ((l.take k).any (fun t => decide (256 < t.size)) = false)) (fun _ i _ => l.length - (intOf i).toNat)
  case atStart => exact ⟨0, Nat.zero_le _, rfl, Below.refl _ _, rfl⟩
  case round =>
    obtain ⟨k, hk, rfl, hbw, HA⟩ := hrel
    by_cases hlk : k < l.length
    · obtain ⟨b, o, A', c', rfl, ⟨p0, p1, p2, p3, p4⟩, hRk⟩ := (hR.keep hbw).get k hlk
      simp only [asN_kids] at p0 p1 p2 p3 p4 hRk
      have hl := large1 l[k] A' c' wr hRk (hsz _ (List.getElem_mem _))
      have HL := Lib.hid hl
      clear hl
      have hts : (l.take (k + 1)).any (fun t => decide (256 < t.size)) = decide (256 < (l[k]).size) := by
        rw [List.take_succ_eq_append_getElem hlk, List.any_append, HA.out]; simp
      have HT := Lib.hid hts
      clear hts hsz
      go_wp2_with fail
      refine HL.out.mono ?_
      clear HL
      rintro e w' ⟨rfl, hb⟩
      have hb2 := hb.size
      have hbw2 : Below w.heap.size w w' := hbw.trans (hb.mono hbw.size)
      clear hb
      cases hq : decide (256 < (l[k]).size) with
      | true =>
        have HQ := Lib.hid hq
        clear hq
        go_wp2_with fail
        go_ret
        refine ⟨⟨k, rfl, by omega, by omega, ?_⟩, hbw2⟩
        rw [decide_eq_true (by omega : (0 : Int) ≤ k), List.any_eq_true]
        exact ⟨l[k], List.getElem_mem _, HQ.out⟩
      | false =>
        rw [hq] at HT
        clear hq
        go_wp2_with fail
        go_roundw
        case rel => exact ⟨k + 1, hlk, by go_num, hbw2, HT⟩
        case measure => simp [intOf]; omega
    · go_wp2_with fail
      go_ret
      refine ⟨⟨-1, rfl, by omega, by omega, ?_⟩, hbw⟩
      have h := HA.out
      rw [List.take_of_length_le (by omega)] at h
      rw [h]; rfl

theorem ContainsFunc (l : List Nd) (A : Option Addr) (c : Nat) (w : World) (hR : RN w (asN l) A c) (hsz : ∀ t ∈ l, t.size ≤ 9223372036854775807) :
    Calls Try.prog 38 #[.slice A l.length c, .func (.func 39) #[] #[]] w fun e w' => e = .returned (.bool (l.any fun t => decide (256 < t.size))) ∧ Below w.heap.size w w' := by
  have HC := Lib.hid (IndexFunc l A c w hR hsz)
  clear hR hsz
  go_enter Try.func38, Try.ntmps38
  go_wp2_with fail
  refine HC.out.mono ?_
  rintro e w' ⟨⟨i, rfl, h1, h2, h3⟩, hb⟩
  have H3 := Lib.hid h3
  clear h3
  go_wp2_with fail
  go_ret
  exact ⟨ret_bool H3.out.symm, hb⟩

def bigAny (l : List Nd) : Bool := l.any fun t => decide (256 < t.size)
theorem large (l : List Nd) (A : Option Addr) (c : Nat) (w : World) (hR : RN w (asN l) A c) (hsz : ∀ t ∈ l, t.size ≤ 9223372036854775807) :
    Calls Try.prog 29 #[.slice A l.length c] w fun e w' => e = .returned (.bool (bigAny l)) ∧ Below w.heap.size w w' := by
  have HC := Lib.hid (ContainsFunc l A c w hR hsz)
  clear hR hsz
  go_enter Try.func29, Try.ntmps29
  go_wp2_with fail
  refine HC.out.mono ?_
  rintro e w' ⟨rfl, hb⟩
  go_wp2_with fail
  go_ret
  exact ⟨rfl, hb⟩
end Go.Proofs.Ytjijfgkmjachnaa

namespace Go.Proofs.Ytjijfgkmjachnaa
set_option linter.unusedVariables false
set_option linter.unusedSimpArgs false
open Go.RowKit

theorem inf3 : (Try.prog.info? 3).map (fun i => (i.zero, i.size, i.bytes)) = some (some (.int .i64 0), 1, 8) := by kernel_rfl
theorem inf34 : (Try.prog.info? 34).map (fun i => (i.zero, i.size, i.bytes)) = some (some (.slice none 0 0), 1, 24) := by kernel_rfl

/-- A table of whole numbers of the call's own: its rows are blocks of their own. -/
structure Tab (w : World) (base g : Nat) (bs : Nat → Nat) (n m : Nat) (T : Nat → Nat → Int) : Prop where
  outer : ∀ i, i < n → w.cell? ⟨g, i, none⟩ = some (.slice (some ⟨bs i, 0, none⟩) m m)
  inner : ∀ i j, i < n → j < m → w.cell? ⟨bs i, j, none⟩ = some (.int .i64 (T i j))
  free : ∀ i j, i < n → j < m → w.frozen? ⟨bs i, j, none⟩ = false
  inj : ∀ i j, i < n → j < n → bs i = bs j → i = j
  ne : ∀ i, i < n → bs i ≠ g
  lo : ∀ i, i < n → base ≤ bs i ∧ bs i < w.heap.size
  glo : base ≤ g ∧ g < w.heap.size

theorem cell_new (w : World) (cs : Array Value) (t : TypeId) (j : Nat) : (w.alloc (.cells cs t)).cell? ⟨w.heap.size, j, none⟩ = cs[j]? := by
  unfold World.cell?; rw [heap_alloc_new w (.cells cs t)]; rfl
theorem free_new (w : World) (cs : Array Value) (t : TypeId) (j : Nat) : (w.alloc (.cells cs t)).frozen? ⟨w.heap.size, j, none⟩ = false := by
  unfold World.frozen?; rw [heap_alloc_new w (.cells cs t)]; simp
theorem madeCells_get (z : Value) (n j : Nat) (h : j < n) : (madeCells #[z] n)[j]? = some z := by
  simp [madeCells, h, Nat.mod_one]
theorem free_alloc (w : World) (o : Obj) (a : Addr) (h : a.block < w.heap.size) : (w.alloc o).frozen? a = w.frozen? a := World.frozen?_of_block (Below.heap_alloc w o _ h)
theorem cell_alloc_old (w : World) (o : Obj) (a : Addr) (h : a.block < w.heap.size) : (w.alloc o).cell? a = w.cell? a := World.cell?_of_block (Below.heap_alloc w o _ h)
theorem cell_set_other (w : World) (a b : Addr) (v : Value) (h : b.block ≠ a.block) : (w.setCell a v).cell? b = w.cell? b := World.cell?_of_block (Below.heap_setCell w a v _ h)
theorem free_set (w : World) (a b : Addr) (v : Value) : (w.setCell a v).frozen? b = w.frozen? b := World.frozen?_setCell ..

theorem tableMake (rows cols : Nat) (w : World) (h1 : rows ≤ 1000000000) (h2 : cols ≤ 1000000000) :
    Calls Try.prog 36 #[.int .i64 rows, .int .i64 cols] w fun e w' => e = .returned (.slice (some ⟨w.heap.size, 0, none⟩) rows rows) ∧ Tab w' w.heap.size w.heap.size (fun i => w.heap.size + 1 + i) rows cols (fun _ _ => 0) ∧ Below w.heap.size w w' ∧ w'.heap.size = w.heap.size + 1 + rows := by
  have mk1 := run_make_row' (P := Try.prog) 30 34 (.slice none 0 0) 24 Try.underlying30 inf34 rfl .i64 .i64 rows (by omega) (by omega)
  have mk2 := run_make_row' (P := Try.prog) 34 3 (.int .i64 0) 8 Try.underlying34 inf3 rfl .i64 .i64 cols (by omega) (by omega)
  go_enter Try.func36, Try.ntmps36
  go_wp2_with fail
  go_loopw [6, 11] (fun _ i wr => ∃ k : Nat, k ≤ rows ∧ i = .int .i64 k ∧ Below w.heap.size w wr ∧ wr.heap.size = w.heap.size + 1 + k ∧
      (∀ i, i < rows → wr.cell? ⟨w.heap.size, i, none⟩ = some (if i < k then .slice (some ⟨w.heap.size + 1 + i, 0, none⟩) cols cols else .slice none 0 0)) ∧
      (∀ i, i < rows → wr.frozen? ⟨w.heap.size, i, none⟩ = false) ∧
      (∀ i j, i < k → j < cols → wr.cell? ⟨w.heap.size + 1 + i, j, none⟩ = some (.int .i64 0)) ∧ (∀ i j, i < k → j < cols → wr.frozen? ⟨w.heap.size + 1 + i, j, none⟩ = false)) (fun _ i _ => rows - (intOf i).toNat)
  case atStart =>
    refine ⟨0, Nat.zero_le _, rfl, (Below.refl _ _).alloc (Nat.le_refl _) _, by simp, fun i hi => ?_, fun i hi => free_new .., fun i j hi => by omega, fun i j hi => by omega⟩
    rw [cell_new, madeCells_get _ _ _ hi]; simp
  case round =>
    obtain ⟨k, hk, rfl, hbw, hsz, ho, hf, hi, hif⟩ := hrel
    by_cases hlk : k < rows
    · have c1 := ho k hlk
      have c2 := hf k hlk
      rw [if_neg (by omega)] at c1
      have HO := Lib.hid ho
      have HF := Lib.hid hf
      have HI := Lib.hid hi
      have HJ := Lib.hid hif
      have HZ := Lib.hid hsz
      have hgt : w.heap.size < wr.heap.size := by omega
      clear ho hf hi hif hsz
      have c3 : (wr.alloc (.cells (madeCells #[.int .i64 0] cols) 3)).cell? ⟨w.heap.size, k, none⟩ = some (.slice none 0 0) := by rw [cell_alloc_old _ _ _ hgt]; exact c1
      have c4 : (wr.alloc (.cells (madeCells #[.int .i64 0] cols) 3)).frozen? ⟨w.heap.size, k, none⟩ = false := by rw [free_alloc _ _ _ hgt]; exact c2
      go_wp2_with fail
      go_roundw
      case rel =>
        have hz := HZ.out
        have hzs : (wr.setCell ⟨w.heap.size, k, none⟩ (.slice (some ⟨wr.heap.size, 0, none⟩) cols cols)).heap.size = wr.heap.size := by simp [World.setCell]
        generalize hW : wr.setCell ⟨w.heap.size, k, none⟩ (.slice (some ⟨wr.heap.size, 0, none⟩) cols cols) = V at *
        have hbV : Below w.heap.size w V := by rw [← hW]; exact hbw.setCell (p := ⟨w.heap.size, k, none⟩) (Nat.le_refl _) _
        refine ⟨k + 1, hlk, by go_num, hbV.alloc (by omega) _, by simp [hzs]; omega, fun i hi => ?_, fun i hi => ?_, fun i j hi hj => ?_, fun i j hi hj => ?_⟩
        · rw [cell_alloc_old _ _ _ (by simp; omega), ← hW]
          by_cases hik : i = k
          · subst hik
            rw [World.cell?_setCell_same' _ _ _ (by rw [c1]; rfl), if_pos (by omega), hz]
          · rw [World.cell?_setCell_other wr ⟨w.heap.size, k, none⟩ ⟨w.heap.size, i, none⟩ _ (fun h => by injection h with _ h2; omega), HO.out i hi]
            congr 1
            by_cases h : i < k
            · rw [if_pos h, if_pos (by omega)]
            · rw [if_neg h, if_neg (by omega)]
        · rw [free_alloc _ _ _ (by simp; omega), ← hW, free_set]; exact HF.out i hi
        · by_cases hik : i = k
          · subst hik
            have := cell_new V (madeCells #[.int .i64 0] cols) 3 j
            rw [hzs, hz] at this
            rw [this, madeCells_get _ _ _ hj]
          · rw [cell_alloc_old _ _ _ (by simp; omega), ← hW, cell_set_other _ _ _ _ (by simp; omega)]
            exact HI.out i j (by omega) hj
        · by_cases hik : i = k
          · subst hik
            have := free_new V (madeCells #[.int .i64 0] cols) 3 j
            rw [hzs, hz] at this
            exact this
          · rw [free_alloc _ _ _ (by simp; omega), ← hW, free_set]
            exact HJ.out i j (by omega) hj
      case measure => simp [intOf]; omega
    · obtain rfl : k = rows := by omega
      have HO := Lib.hid ho
      have HF := Lib.hid hf
      have HI := Lib.hid hi
      have HJ := Lib.hid hif
      have HZ := Lib.hid hsz
      clear ho hf hi hif hsz
      go_wp2_with fail
      go_ret
      have hz := HZ.out
      refine ⟨rfl, ⟨fun i hi => ?_, HI.out, HJ.out, fun i j _ _ h => by omega, fun i _ => by omega, fun i hi => by omega, by omega⟩, hbw, hz⟩
      have := HO.out i hi
      rw [if_pos hi] at this
      exact this
end Go.Proofs.Ytjijfgkmjachnaa

namespace Go.Proofs.Ytjijfgkmjachnaa
set_option linter.unusedVariables false
set_option linter.unusedSimpArgs false
open Go.RowKit
theorem neqLab (a b : Nd) (w : World) : (binOp .neq 70 (.agg #[.int .i64 a.kind, .string a.text]) (.agg #[.int .i64 b.kind, .string b.text])).run Try.prog w = .ok (.bool (!sameLabel a b)) w := by
  have hS : Try.prog.underlying 70 = some (.struct (Try.prog.fieldsOf 70)) := by kernel_rfl
  have hp : Try.prog.stoodInHeld 70 = false := by kernel_rfl
  have u3 := Try.underlying3
  have u9 := Try.underlying9
  rw [run_neq_struct]
  rw [show (10000 : Nat) = 9999 + 1 from rfl, run_equalIn_struct w 9999 70 _ _ hS hp]
  simp only [Program.fieldsOf, Try.underlying70]
  go_simp
  by_cases h1 : a.kind = b.kind <;> by_cases h2 : a.text.toList = b.text.toList <;> simp [sameLabel, h1, h2]
end Go.Proofs.Ytjijfgkmjachnaa
