import Derived.Test.YtjijfgkmjachnaaT34
namespace Go.Proofs.Ytjijfgkmjachnaa
set_option linter.unusedVariables false
set_option linter.unusedSimpArgs false
open Go.RowKit

theorem At5.below {w W : World} {b o : Nat} {t : Nd} {A : Option Addr} {c : Nat} (h : At5 w b o t A c) (hb : Below w.heap.size w W) : At5 W b o t A c := At5.keep h hb h.lt

set_option maxRecDepth 100000 in
set_option maxHeartbeats 4000000 in
theorem region30 (C : X30) (ok : C.Ok) (x y : Value) (Q : Exit → Act → World → Prop) (act : Act) (w : World) (h0 : I30 C x y (Array.replicate 8 false) act w.drew)
    (hend : ∀ L a' W, I30 C x y L a' W → (∀ i, i < 8 → L.getD i false = true) → Q .normal a' W) :
    (Code.region 1 ops30 true).wp Try.prog Q act w := by
  refine wp_region_inv (by kernel_rfl) (by kernel_rfl) (I30 C x y) h0 ?_ (fun L a' W hs hall hI => hend L a' W hI hall)
  intro i o L a W ho hs hI hf hpre
  obtain ⟨v5, v6, v18, v19, v20, v21, rfl, h⟩ := hI
  have hL : L.size = 8 := hs
  have hi : i < 8 := (Array.getElem?_eq_some_iff.1 ho).1
  conv at ho => lhs; arg 1; whnf
  have hp := h.bel
  have pa := At5.below ok.p5 hp
  have qa := At5.below ok.q5 hp
  obtain ⟨a0, a1, a2, a3, a4⟩ := pa
  obtain ⟨b0, b1, b2, b3, b4⟩ := qa
  rcases i with _ | _ | _ | _ | _ | _ | _ | _ | i
  · simp only [List.getElem?_toArray, List.getElem?_cons_zero, List.getElem?_cons_succ, Option.some.injEq] at ho
    subst ho
    simp only [Region.wanted, if_true, Nat.zero_add, Nat.reduceAdd] at hf hpre ⊢
    have HQ := Lib.hid (h.s0 hL)
    clear h hpre hp ok
    unfold frm30
    go_simp
    exact ⟨_, _, _, _, _, _, rfl, HQ.out⟩
  · simp only [List.getElem?_toArray, List.getElem?_cons_zero, List.getElem?_cons_succ, Option.some.injEq] at ho
    subst ho
    simp only [Region.wanted, if_true, Nat.zero_add, Nat.reduceAdd] at hf hpre ⊢
    have e := h.f0 (hpre ⟨0, .data⟩ (by simp) rfl)
    subst e
    have h6 : L.getD 6 false = false := by cases hq : L.getD 6 false with | false => rfl | true => (have := (h.g6 hq).2.2; rw [hf] at this; cases this)
    unfold frm30
    go_simp
    refine (flattenF C.a C.A C.cA W (RN.keep hp ok.ra) ok.sa).mono ?_
    rintro e w' ⟨⟨v, rfl, hv⟩, hb⟩
    exact ⟨_, _, _, _, _, _, rfl, (h.grow hb).s1 hL hv h6⟩
  · simp only [List.getElem?_toArray, List.getElem?_cons_zero, List.getElem?_cons_succ, Option.some.injEq] at ho
    subst ho
    simp only [Region.wanted, if_true, Nat.zero_add, Nat.reduceAdd] at hf hpre ⊢
    have HQ := Lib.hid (h.s2 hL)
    clear h hpre hp ok
    unfold frm30
    go_simp
    exact ⟨_, _, _, _, _, _, rfl, HQ.out⟩
  · simp only [List.getElem?_toArray, List.getElem?_cons_zero, List.getElem?_cons_succ, Option.some.injEq] at ho
    subst ho
    simp only [Region.wanted, if_true, Nat.zero_add, Nat.reduceAdd] at hf hpre ⊢
    have e := h.f2 (hpre ⟨2, .data⟩ (by simp) rfl)
    subst e
    have h6 : L.getD 7 false = false := by cases hq : L.getD 7 false with | false => rfl | true => (have := (h.g7 hq).2.2; rw [hf] at this; cases this)
    unfold frm30
    go_simp
    refine (flattenF C.b C.B C.cB W (RN.keep hp ok.rb) ok.sb).mono ?_
    rintro e w' ⟨⟨v, rfl, hv⟩, hb⟩
    exact ⟨_, _, _, _, _, _, rfl, (h.grow hb).s3 hL hv h6⟩
  · simp only [List.getElem?_toArray, List.getElem?_cons_zero, List.getElem?_cons_succ, Option.some.injEq] at ho
    subst ho
    simp only [Region.wanted, if_true, Nat.zero_add, Nat.reduceAdd] at hf hpre ⊢
    have h6 : L.getD 6 false = false := by cases hq : L.getD 6 false with | false => rfl | true => (have := (h.g6 hq).1; rw [hf] at this; cases this)
    have HQ := Lib.hid (h.s4 hL h6)
    clear h hpre hp ok
    unfold frm30
    go_simp
    exact ⟨_, _, _, _, _, _, rfl, HQ.out⟩
  · simp only [List.getElem?_toArray, List.getElem?_cons_zero, List.getElem?_cons_succ, Option.some.injEq] at ho
    subst ho
    simp only [Region.wanted, if_true, Nat.zero_add, Nat.reduceAdd] at hf hpre ⊢
    have h6 : L.getD 7 false = false := by cases hq : L.getD 7 false with | false => rfl | true => (have := (h.g7 hq).2.1; rw [hf] at this; cases this)
    have HQ := Lib.hid (h.s5 hL h6)
    clear h hpre hp ok
    unfold frm30
    go_simp
    exact ⟨_, _, _, _, _, _, rfl, HQ.out⟩
  · simp only [List.getElem?_toArray, List.getElem?_cons_zero, List.getElem?_cons_succ, Option.some.injEq] at ho
    subst ho
    simp only [Region.wanted, if_true, Nat.zero_add, Nat.reduceAdd] at hf hpre ⊢
    have l4 : L.getD 4 false = true := hpre ⟨4, .data⟩ (by simp) rfl
    have l5 : L.getD 5 false = true := hpre ⟨5, .phase⟩ (by simp) rfl
    have l1 : L.getD 1 false = true := hpre ⟨1, .data⟩ (by simp) rfl
    have hfl := h.f1 l1
    obtain ⟨b5, e5, hlo, hbx⟩ := h.f4 l4
    rw [hf] at hbx
    have hz : W.heap[b5]? = some bz := by rcases hbx with ⟨_, hz⟩ | ⟨hx, _⟩; exact hz; cases hx
    obtain ⟨gL, gF, gN, cL, cF, cN, ev, _⟩ := hfl
    obtain ⟨s1, s2, s3⟩ := set3 (y0 := .slice none 0 0) (y1 := .slice none 0 0) (y2 := .slice none 0 0) (.slice (some ⟨gL, 0, none⟩) C.a.size cL) (.slice (some ⟨gF, 0, none⟩) C.a.size cF) (.slice (some ⟨gN, 0, none⟩) C.a.size cN) hz
    have HQ := Lib.hid (h.s6 hL e5 ev l4 l5 l1 hz s1 s2 hlo (s3 _ hlo))
    have c0 : W.cell? ⟨b5, 0, none⟩ = some (.slice none 0 0) := by simp [World.cell?, hz, bz]
    have c1 : W.cell? ⟨b5, 1, none⟩ = some (.slice none 0 0) := by simp [World.cell?, hz, bz]
    have c2 : W.cell? ⟨b5, 2, none⟩ = some (.slice none 0 0) := by simp [World.cell?, hz, bz]
    have z0 : W.frozen? ⟨b5, 0, none⟩ = false := by simp [World.frozen?, hz, bz]
    have z1 : W.frozen? ⟨b5, 1, none⟩ = false := by simp [World.frozen?, hz, bz]
    have z2 : W.frozen? ⟨b5, 2, none⟩ = false := by simp [World.frozen?, hz, bz]
    subst e5 ev
    clear h hpre hp ok s1 s2 s3 hz hbx
    unfold frm30
    go_simp
    exact ⟨_, _, _, _, _, _, rfl, HQ.out⟩
  · simp only [List.getElem?_toArray, List.getElem?_cons_zero, List.getElem?_cons_succ, Option.some.injEq] at ho
    subst ho
    simp only [Region.wanted, if_true, Nat.zero_add, Nat.reduceAdd] at hf hpre ⊢
    have l4 : L.getD 4 false = true := hpre ⟨4, .phase⟩ (by simp) rfl
    have l5 : L.getD 5 false = true := hpre ⟨5, .data⟩ (by simp) rfl
    have l1 : L.getD 3 false = true := hpre ⟨3, .data⟩ (by simp) rfl
    have hfl := h.f3 l1
    obtain ⟨b5, e5, hlo, hbx⟩ := h.f5 l5
    rw [hf] at hbx
    have hz : W.heap[b5]? = some bz := by rcases hbx with ⟨_, hz⟩ | ⟨hx, _⟩; exact hz; cases hx
    obtain ⟨gL, gF, gN, cL, cF, cN, ev, _⟩ := hfl
    obtain ⟨s1, s2, s3⟩ := set3 (y0 := .slice none 0 0) (y1 := .slice none 0 0) (y2 := .slice none 0 0) (.slice (some ⟨gL, 0, none⟩) C.b.size cL) (.slice (some ⟨gF, 0, none⟩) C.b.size cF) (.slice (some ⟨gN, 0, none⟩) C.b.size cN) hz
    have HQ := Lib.hid (h.s7 hL e5 ev l4 l5 l1 hz s1 s2 hlo (s3 _ hlo))
    have c0 : W.cell? ⟨b5, 0, none⟩ = some (.slice none 0 0) := by simp [World.cell?, hz, bz]
    have c1 : W.cell? ⟨b5, 1, none⟩ = some (.slice none 0 0) := by simp [World.cell?, hz, bz]
    have c2 : W.cell? ⟨b5, 2, none⟩ = some (.slice none 0 0) := by simp [World.cell?, hz, bz]
    have z0 : W.frozen? ⟨b5, 0, none⟩ = false := by simp [World.frozen?, hz, bz]
    have z1 : W.frozen? ⟨b5, 1, none⟩ = false := by simp [World.frozen?, hz, bz]
    have z2 : W.frozen? ⟨b5, 2, none⟩ = false := by simp [World.frozen?, hz, bz]
    subst e5 ev
    clear h hpre hp ok s1 s2 s3 hz hbx
    unfold frm30
    go_simp
    exact ⟨_, _, _, _, _, _, rfl, HQ.out⟩
  · omega
end Go.Proofs.Ytjijfgkmjachnaa
