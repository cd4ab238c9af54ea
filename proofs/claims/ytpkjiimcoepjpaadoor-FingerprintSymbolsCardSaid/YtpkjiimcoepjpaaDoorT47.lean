/- The last region of FingerprintSymbols. -/
import Derived.Test.YtpkjiimcoepjpaaDoorT46
namespace Go.Proofs.YtpkjiimcoepjpaaDoor
set_option linter.unusedVariables false
set_option linter.unusedSimpArgs false
open Go.RowKit Go.Proofs.YtpkjiimcoepjpaaDoorW.PrintWords
open PFingerprintSymbols (S48 assessorref43_Hash.calls assessorref43_Hash.f)

theorem RefHashW (l : List Int) (hl : l.length ≤ 1000000) (A : Option Addr) (c : Nat) (w : World) (h : InR w A c l) : Calls Tryd.prog 18 #[.slice A l.length c] w fun e w' => e = .returned (.int .i64 (hashS l)) ∧ Drawn0 w w' := by
  obtain ⟨k, hk⟩ := (refhash_f l hl).rounds
  exact assessorref43_Hash.calls k A c l _ w h.C h.1 hk
noncomputable def opsS : Array Oper := ((Tryd.f3.body.bind (firstReg 7)).getD #[])
def dsS : List (Option Nat) := [some 37, some 38, some 39, some 40, some 41, some 42, some 43, some 44, some 45, some 46, some 47, some 48, some 49, some 50, some 51, some 52, some 53, some 54, some 55, some 56, some 57, some 58, some 8]
def depsS : Nat → List Nat
  | 1 => [0, 1]
  | 3 => [2, 3]
  | 4 => [0, 1, 2, 3, 4]
  | 5 => [0, 1, 2, 3, 4, 5]
  | 6 => [0, 1, 2, 3, 4, 5, 6]
  | 7 => [0, 1, 2, 3, 4, 5, 6, 7]
  | 8 => [0, 1, 2, 3, 4, 5, 8]
  | 9 => [0, 1, 2, 3, 4, 5, 8, 9]
  | 10 => [0, 1, 2, 3, 4, 5, 6, 7, 8, 9, 10]
  | 11 => [0, 1, 2, 3, 4, 5, 6, 7, 8, 9, 10, 11]
  | 12 => [0, 1, 2, 3, 4, 5, 6, 7, 8, 9, 10, 11, 12]
  | 13 => [0, 1, 2, 3, 4, 5, 6, 7, 8, 9, 10, 11, 12, 13]
  | 14 => [0, 1, 2, 3, 4, 5, 6, 7, 8, 9, 10, 11, 12, 14]
  | 15 => [0, 1, 2, 3, 4, 5, 6, 7, 8, 9, 10, 11, 12, 13, 14, 15]
  | 16 => [0, 1, 2, 3, 4, 5, 6, 7, 8, 9, 10, 11, 12, 13, 14, 15, 16]
  | 17 => [0, 1, 2, 3, 4, 5, 6, 7, 8, 9, 10, 11, 12, 13, 14, 15, 16, 17]
  | 18 => [0, 1, 2, 3, 4, 5, 6, 7, 8, 9, 10, 11, 12, 13, 14, 15, 16, 17, 18]
  | 19 => [0, 1, 2, 3, 4, 5, 6, 7, 8, 9, 10, 11, 12, 13, 14, 15, 16, 17, 19]
  | 20 => [0, 1, 2, 3, 4, 5, 6, 7, 8, 9, 10, 11, 12, 13, 14, 15, 16, 17, 18, 19, 20]
  | 21 => [0, 1, 2, 3, 4, 5, 6, 7, 8, 9, 10, 11, 12, 13, 14, 15, 16, 17, 18, 19, 20, 21]
  | 22 => [0, 1, 2, 3, 4, 5, 6, 7, 8, 9, 10, 11, 12, 13, 14, 15, 16, 17, 18, 19, 20, 21, 22]
  | j => [j]
structure PS where
  w0 : World
  t : Nd
  At : Option Addr
  ct : Nat
  p : Nat
  l : List Int
  Al : Option Addr
  cl : Nat
  mc : Int
  mv : List S48
  A9 : Option Addr
  c9 : Nat
  A11 : Option Addr
  c11 : Nat
def RowRes (l : List Int) (e : Ending) (w' : World) : Prop := ∃ A c, e = .returned (.slice A l.length c) ∧ InR w' A c l
structure PS.Ok (P : PS) : Prop where
  box : At5 P.w0 P.p 0 P.t P.At P.ct
  c15 : ∀ W, Below P.w0.heap.size P.w0 W → Calls Tryd.prog 15 #[P.t.val P.At P.ct] W fun e w' => RowRes (syms P.t) e w' ∧ Below W.heap.size W w'
  c16 : ∀ W, Below P.w0.heap.size P.w0 W → Calls Tryd.prog 16 #[P.t.val P.At P.ct] W fun e w' => RowRes (syms P.t) e w' ∧ Below W.heap.size W w'
  row : InR P.w0 P.Al P.cl P.l
  len : P.l.length ≤ 1000000
  slen : (syms P.t).length ≤ 1000000
  mlen : P.mv.length ≤ 1000000
  m9 : MkI P.w0 P.A9 P.c9 P.mv
  m11 : MkI P.w0 P.A11 P.c11 P.mv
def MS (P : PS) : Nat → (Nat → Value) → World → Prop
  | 0, f, _ => f 0 = P.t.val P.At P.ct
  | 2, f, _ => f 2 = P.t.val P.At P.ct
  | 4, f, _ => f 4 = .bool true
  | 5, f, _ => f 5 = .bool true
  | 6, f, _ => f 6 = .slice P.Al P.l.length P.cl
  | 7, f, _ => f 7 = .int .i64 (hashS P.l)
  | 8, f, _ => f 8 = .slice P.Al P.l.length P.cl
  | 9, f, _ => f 9 = .int .i64 (hashS P.l)
  | 10, f, _ => f 10 = .bool true
  | 11, f, _ => f 11 = .bool true
  | 12, f, _ => f 12 = .bool true
  | 13, f, _ => f 13 = .int .i64 P.mc
  | 14, f, _ => f 14 = .int .i64 P.mc
  | 15, f, _ => f 15 = .bool true
  | 16, f, _ => f 16 = .bool true
  | 17, f, _ => f 17 = .bool true
  | 18, f, _ => f 18 = .slice P.A9 P.mv.length P.c9
  | 19, f, _ => f 19 = .slice P.A11 P.mv.length P.c11
  | 20, f, _ => f 20 = .bool true
  | 21, f, _ => f 21 = .bool true
  | 22, f, _ => f 22 = .bool true
  | _, _, _ => True
theorem MS_w {P : PS} (j : Nat) {f : Nat → Value} {W : World} (W' : World) (h : MS P j f W) : MS P j f W' := by
  rcases j with _ | _ | _ | _ | _ | _ | _ | _ | _ | _ | _ | _ | _ | _ | _ | _ | _ | _ | _ | _ | _ | _ | _ | j <;> exact h
structure IS (P : PS) (L : Array Bool) (f : Nat → Value) (W : World) : Prop where
  bel : Below P.w0.heap.size P.w0 W
  r1 : L.getD 1 false = true → ∃ A c, f 1 = .slice A (syms P.t).length c ∧ InR W A c (syms P.t)
  r3 : L.getD 3 false = true → ∃ A c, f 3 = .slice A (syms P.t).length c ∧ InR W A c (syms P.t)
theorem IS.pure {P : PS} {L : Array Bool} {f : Nat → Value} {W W' : World} (h : IS P L f W) (hb : Below W.heap.size W W') (hL : L.size = 23) {i : Nat} (hi : i < 23) (h1 : i ≠ 1) (h3 : i ≠ 3) (v : Value) : IS P (L.setIfInBounds i true) (updF f i v) W' := by
  refine ⟨h.bel.trans (hb.mono h.bel.size), ?_, ?_⟩
  · rw [setk (by omega) (Ne.symm h1), updF_other f v (Ne.symm h1)]
    intro l
    obtain ⟨A, c, e, hi⟩ := h.r1 l
    exact ⟨A, c, e, hi.below hb⟩
  · rw [setk (by omega) (Ne.symm h3), updF_other f v (Ne.symm h3)]
    intro l
    obtain ⟨A, c, e, hi⟩ := h.r3 l
    exact ⟨A, c, e, hi.below hb⟩
theorem IS.c1 {P : PS} {L : Array Bool} {f : Nat → Value} {W W' : World} (h : IS P L f W) (hb : Below W.heap.size W W') (hL : L.size = 23) {A : Option Addr} {c : Nat} (hi : InR W' A c (syms P.t)) : IS P (L.setIfInBounds 1 true) (updF f 1 (.slice A (syms P.t).length c)) W' := by
  refine ⟨h.bel.trans (hb.mono h.bel.size), fun _ => ⟨A, c, updF_same _ _ _, hi⟩, ?_⟩
  rw [setk (by omega) (by omega), updF_other f _ (by omega)]
  intro l
  obtain ⟨A, c, e, hi⟩ := h.r3 l
  exact ⟨A, c, e, hi.below hb⟩
theorem IS.c3 {P : PS} {L : Array Bool} {f : Nat → Value} {W W' : World} (h : IS P L f W) (hb : Below W.heap.size W W') (hL : L.size = 23) {A : Option Addr} {c : Nat} (hi : InR W' A c (syms P.t)) : IS P (L.setIfInBounds 3 true) (updF f 3 (.slice A (syms P.t).length c)) W' := by
  refine ⟨h.bel.trans (hb.mono h.bel.size), ?_, fun _ => ⟨A, c, updF_same _ _ _, hi⟩⟩
  rw [setk (by omega) (by omega), updF_other f _ (by omega)]
  intro l
  obtain ⟨A, c, e, hi⟩ := h.r1 l
  exact ⟨A, c, e, hi.below hb⟩

set_option maxRecDepth 100000 in
set_option maxHeartbeats 4000000 in
theorem regionS (P : PS) (ok : P.Ok) (b : Array Value) (hb : b.size = 59) (b1 : b.getD 1 undef = .slice P.Al P.l.length P.cl) (b4 : b.getD 4 undef = .pointer (some ⟨P.p, 0, none⟩)) (b9 : b.getD 9 undef = .slice P.A9 P.mv.length P.c9) (b10 : b.getD 10 undef = .int .i64 P.mc) (b11 : b.getD 11 undef = .slice P.A11 P.mv.length P.c11) (b12 : b.getD 12 undef = .int .i64 P.mc)
    (Q : Exit → Act → World → Prop)
    (hend : ∀ (f : Nat → Value) (W : World), f 22 = .bool true → Below P.w0.heap.size P.w0 W → Q .normal ⟨setAll f 0 dsS b, []⟩ W) :
    (Code.region 7 opsS true).wp Tryd.prog Q ⟨b, []⟩ P.w0 := by
  have HOK := Lib.hid ok
  have hbl : P.p < P.w0.heap.size := World.block_lt_of_cell? _ _ ok.box.c0
  refine wp_region_G (by kernel_rfl) (by kernel_rfl) dsS (by kernel_rfl) (by rw [hb]; decide) (MS P) (IS P) depsS (by kernel_rfl) ?_ ?_ ?_ (fun L f W hL hall hI hM => ?_)
  · intro j f f' W h hm
    rcases j with _ | _ | _ | _ | _ | _ | _ | _ | _ | _ | _ | _ | _ | _ | _ | _ | _ | _ | _ | _ | _ | _ | _ | j
    all_goals simp only [depsS, List.mem_cons, List.not_mem_nil, or_false, forall_eq, forall_eq_or_imp, MS, Nat.zero_add, Nat.reduceAdd] at h hm ⊢
    all_goals first | trivial | (rw [← h]; exact hm) | (simp only [← h]; exact hm)
  · refine ⟨(Below.refl _ _).drew, ?_, ?_⟩ <;> intro e <;> exact absurd e (by simp [Array.getD])
  · intro i o L f a' W ho hs hI hM hf hpre hbs hsl hdc
    have hL : L.size = 23 := hs
    have hi : i < 23 := (Array.getElem?_eq_some_iff.1 ho).1
    have hp := pre_of (deps := depsS) (by kernel_rfl) ho hpre hdc
    conv at ho => lhs; arg 1; whnf
    have hjlt : ∀ j, L.getD j false = true → j < 23 := fun j hj => by
      rw [← hL]
      by_cases hlt : j < L.size
      · exact hlt
      · simp [Array.getD, hlt] at hj
    have nb : ∀ s, (∀ j : Nat, j < 23 → dsS[j]? ≠ some (some s)) → a'.tmps.getD s undef = b.getD s undef := fun s hs => hbs s (fun j hj => hs j (hjlt j hj))
    have s1 := (nb 1 (by decide)).trans b1
    have s4 := (nb 4 (by decide)).trans b4
    have s9 := (nb 9 (by decide)).trans b9
    have s10 := (nb 10 (by decide)).trans b10
    have s11 := (nb 11 (by decide)).trans b11
    have s12 := (nb 12 (by decide)).trans b12
    clear nb b1 b4 b9 b10 b11 b12 hpre hbs hdc ok
    rcases i with _ | _ | _ | _ | _ | _ | _ | _ | _ | _ | _ | _ | _ | _ | _ | _ | _ | _ | _ | _ | _ | _ | _ | i
    · simp only [List.getElem?_toArray, List.getElem?_cons_zero, List.getElem?_cons_succ, Option.some.injEq] at ho
      subst ho
      simp only [Nat.zero_add, Nat.reduceAdd] at hf hp ⊢
      refine ⟨wanted_none rfl, fun K hK => ?_⟩
      have s4' : a'.tmps[4]?.getD undef = .pointer (some ⟨P.p, 0, none⟩) := by rw [← Array.getD_eq_getD_getElem?]; exact s4
      obtain ⟨d0, d1, d2, d3, d4⟩ := HOK.out.box.keep hI.bel hbl
      have HQ := Lib.hid (hK (P.t.val P.At P.ct) W (hI.pure (Below.refl _ _) hL (by omega) (by omega) (by omega) _) (fun _ _ _ h => h) (by simp [MS, updF_same]))
      unfold Nd.val at HQ
      clear hI hM hp hsl hK s1 s4 s9 s10 s11 s12
      go_simp
      exact HQ.out
    · simp only [List.getElem?_toArray, List.getElem?_cons_zero, List.getElem?_cons_succ, Option.some.injEq] at ho
      subst ho
      simp only [Nat.zero_add, Nat.reduceAdd] at hf hp ⊢
      refine ⟨wanted_none rfl, fun K hK => ?_⟩
      have q0 := (hsl 0 37 (hp 0 (by simp [depsS]) (by omega)) rfl).trans (hM 0 (hp 0 (by simp [depsS]) (by omega)))
      have q0' : a'.tmps[37]?.getD undef = P.t.val P.At P.ct := by rw [← Array.getD_eq_getD_getElem?]; exact q0
      have HC := Lib.hid (HOK.out.c15 W hI.bel)
      have HQ := Lib.hid (show ∀ A c W', Below W.heap.size W W' → InR W' A c (syms P.t) → K (a'.put (some 38) (.slice A (syms P.t).length c)) W' from fun A c W' h1 h2 => hK _ _ (hI.c1 h1 hL h2) (fun j _ _ h => MS_w j _ h) trivial)
      clear hI hM hp hsl hK s1 s4 s9 s10 s11 s12 q0
      go_simp
      refine HC.out.mono ?_
      rintro e w' ⟨⟨A', c', rfl, i'⟩, hb'⟩
      exact HQ.out A' c' w' hb' i'
    · simp only [List.getElem?_toArray, List.getElem?_cons_zero, List.getElem?_cons_succ, Option.some.injEq] at ho
      subst ho
      simp only [Nat.zero_add, Nat.reduceAdd] at hf hp ⊢
      refine ⟨wanted_none rfl, fun K hK => ?_⟩
      have s4' : a'.tmps[4]?.getD undef = .pointer (some ⟨P.p, 0, none⟩) := by rw [← Array.getD_eq_getD_getElem?]; exact s4
      obtain ⟨d0, d1, d2, d3, d4⟩ := HOK.out.box.keep hI.bel hbl
      have HQ := Lib.hid (hK (P.t.val P.At P.ct) W (hI.pure (Below.refl _ _) hL (by omega) (by omega) (by omega) _) (fun _ _ _ h => h) (by simp [MS, updF_same]))
      unfold Nd.val at HQ
      clear hI hM hp hsl hK s1 s4 s9 s10 s11 s12
      go_simp
      exact HQ.out
    · simp only [List.getElem?_toArray, List.getElem?_cons_zero, List.getElem?_cons_succ, Option.some.injEq] at ho
      subst ho
      simp only [Nat.zero_add, Nat.reduceAdd] at hf hp ⊢
      refine ⟨wanted_none rfl, fun K hK => ?_⟩
      have q2 := (hsl 2 39 (hp 2 (by simp [depsS]) (by omega)) rfl).trans (hM 2 (hp 2 (by simp [depsS]) (by omega)))
      have q2' : a'.tmps[39]?.getD undef = P.t.val P.At P.ct := by rw [← Array.getD_eq_getD_getElem?]; exact q2
      have HC := Lib.hid (HOK.out.c16 W hI.bel)
      have HQ := Lib.hid (show ∀ A c W', Below W.heap.size W W' → InR W' A c (syms P.t) → K (a'.put (some 40) (.slice A (syms P.t).length c)) W' from fun A c W' h1 h2 => hK _ _ (hI.c3 h1 hL h2) (fun j _ _ h => MS_w j _ h) trivial)
      clear hI hM hp hsl hK s1 s4 s9 s10 s11 s12 q2
      go_simp
      refine HC.out.mono ?_
      rintro e w' ⟨⟨A', c', rfl, i'⟩, hb'⟩
      exact HQ.out A' c' w' hb' i'
    · simp only [List.getElem?_toArray, List.getElem?_cons_zero, List.getElem?_cons_succ, Option.some.injEq] at ho
      subst ho
      simp only [Nat.zero_add, Nat.reduceAdd] at hf hp ⊢
      refine ⟨wanted_none rfl, fun K hK => ?_⟩
      have l1 := hp 1 (by simp [depsS]) (by omega)
      have l3 := hp 3 (by simp [depsS]) (by omega)
      obtain ⟨A1, c1, e1, i1⟩ := hI.r1 l1
      obtain ⟨A3, c3, e3, i3⟩ := hI.r3 l3
      have q1' : a'.tmps[38]?.getD undef = .slice A1 (syms P.t).length c1 := by rw [← Array.getD_eq_getD_getElem?]; exact (hsl 1 38 l1 rfl).trans e1
      have q3' : a'.tmps[40]?.getD undef = .slice A3 (syms P.t).length c3 := by rw [← Array.getD_eq_getD_getElem?]; exact (hsl 3 40 l3 rfl).trans e3
      have HC := Lib.hid (SameI (syms P.t) (syms P.t) A1 A3 c1 c3 W i1 i3 HOK.out.slen)
      have HQ := Lib.hid (show ∀ W', Below W.heap.size W W' → K (a'.put (some 41) (.bool true)) W' from fun W' h1 => hK _ _ (hI.pure h1 hL (by omega) (by omega) (by omega) _) (fun j _ _ h => MS_w j _ h) (by simp [MS, updF_same]))
      clear hI hM hp hsl hK s1 s4 s9 s10 s11 s12
      go_simp
      refine HC.out.mono ?_
      rintro e w' ⟨⟨r, rfl, hr⟩, hb'⟩
      obtain rfl : r = true := hr.2 rfl
      exact HQ.out w' hb'.below
    · simp only [List.getElem?_toArray, List.getElem?_cons_zero, List.getElem?_cons_succ, Option.some.injEq] at ho
      subst ho
      simp only [Nat.zero_add, Nat.reduceAdd] at hf hp ⊢
      refine ⟨wanted_none rfl, fun K hK => ?_⟩
      refine wp_move rfl (hK _ _ (hI.pure (Below.refl _ _) hL (by omega) (by omega) (by omega) _) (fun _ _ _ h => h) ?_)
      show updF f 5 _ 5 = _
      rw [updF_same]; exact (hsl 4 41 (hp 4 (by simp [depsS]) (by omega)) rfl).trans (hM 4 (hp 4 (by simp [depsS]) (by omega)))
    · simp only [List.getElem?_toArray, List.getElem?_cons_zero, List.getElem?_cons_succ, Option.some.injEq] at ho
      subst ho
      simp only [Nat.zero_add, Nat.reduceAdd] at hf hp ⊢
      refine ⟨wanted_of (g := 5) (d := 42) (b := true) rfl rfl ((hsl 5 42 (hp 5 (by simp [depsS]) (by omega)) rfl).trans (hM 5 (hp 5 (by simp [depsS]) (by omega)))), fun K hK => ?_⟩
      refine wp_move rfl (hK _ _ (hI.pure (Below.refl _ _) hL (by omega) (by omega) (by omega) _) (fun _ _ _ h => h) ?_)
      show updF f 6 _ 6 = _
      rw [updF_same]; exact s1
    · simp only [List.getElem?_toArray, List.getElem?_cons_zero, List.getElem?_cons_succ, Option.some.injEq] at ho
      subst ho
      simp only [Nat.zero_add, Nat.reduceAdd] at hf hp ⊢
      refine ⟨wanted_of (g := 5) (d := 42) (b := true) rfl rfl ((hsl 5 42 (hp 5 (by simp [depsS]) (by omega)) rfl).trans (hM 5 (hp 5 (by simp [depsS]) (by omega)))), fun K hK => ?_⟩
      have q := (hsl 6 43 (hp 6 (by simp [depsS]) (by omega)) rfl).trans (hM 6 (hp 6 (by simp [depsS]) (by omega)))
      have q' : a'.tmps[43]?.getD undef = .slice P.Al P.l.length P.cl := by rw [← Array.getD_eq_getD_getElem?]; exact q
      have HC := Lib.hid (hashW P.l HOK.out.len P.Al P.cl W (HOK.out.row.below hI.bel))
      have HQ := Lib.hid (show ∀ W', Below W.heap.size W W' → K (a'.put (some 44) (.int .i64 (hashS P.l))) W' from fun W' h1 => hK _ _ (hI.pure h1 hL (by omega) (by omega) (by omega) _) (fun j _ _ h => MS_w j _ h) (by simp [MS, updF_same]))
      clear hI hM hp hsl hK s1 s4 s9 s10 s11 s12 q
      go_simp
      refine HC.out.mono ?_
      rintro e w' ⟨rfl, hb'⟩
      exact HQ.out w' hb'.below
    · simp only [List.getElem?_toArray, List.getElem?_cons_zero, List.getElem?_cons_succ, Option.some.injEq] at ho
      subst ho
      simp only [Nat.zero_add, Nat.reduceAdd] at hf hp ⊢
      refine ⟨wanted_of (g := 5) (d := 42) (b := true) rfl rfl ((hsl 5 42 (hp 5 (by simp [depsS]) (by omega)) rfl).trans (hM 5 (hp 5 (by simp [depsS]) (by omega)))), fun K hK => ?_⟩
      refine wp_move rfl (hK _ _ (hI.pure (Below.refl _ _) hL (by omega) (by omega) (by omega) _) (fun _ _ _ h => h) ?_)
      show updF f 8 _ 8 = _
      rw [updF_same]; exact s1
    · simp only [List.getElem?_toArray, List.getElem?_cons_zero, List.getElem?_cons_succ, Option.some.injEq] at ho
      subst ho
      simp only [Nat.zero_add, Nat.reduceAdd] at hf hp ⊢
      refine ⟨wanted_of (g := 5) (d := 42) (b := true) rfl rfl ((hsl 5 42 (hp 5 (by simp [depsS]) (by omega)) rfl).trans (hM 5 (hp 5 (by simp [depsS]) (by omega)))), fun K hK => ?_⟩
      have q := (hsl 8 45 (hp 8 (by simp [depsS]) (by omega)) rfl).trans (hM 8 (hp 8 (by simp [depsS]) (by omega)))
      have q' : a'.tmps[45]?.getD undef = .slice P.Al P.l.length P.cl := by rw [← Array.getD_eq_getD_getElem?]; exact q
      have HC := Lib.hid (RefHashW P.l HOK.out.len P.Al P.cl W (HOK.out.row.below hI.bel))
      have HQ := Lib.hid (show ∀ W', Below W.heap.size W W' → K (a'.put (some 46) (.int .i64 (hashS P.l))) W' from fun W' h1 => hK _ _ (hI.pure h1 hL (by omega) (by omega) (by omega) _) (fun j _ _ h => MS_w j _ h) (by simp [MS, updF_same]))
      clear hI hM hp hsl hK s1 s4 s9 s10 s11 s12 q
      go_simp
      refine HC.out.mono ?_
      rintro e w' ⟨rfl, hb'⟩
      exact HQ.out w' hb'.below
    · simp only [List.getElem?_toArray, List.getElem?_cons_zero, List.getElem?_cons_succ, Option.some.injEq] at ho
      subst ho
      simp only [Nat.zero_add, Nat.reduceAdd] at hf hp ⊢
      refine ⟨wanted_of (g := 5) (d := 42) (b := true) rfl rfl ((hsl 5 42 (hp 5 (by simp [depsS]) (by omega)) rfl).trans (hM 5 (hp 5 (by simp [depsS]) (by omega)))), fun K hK => ?_⟩
      have qa := (hsl 7 44 (hp 7 (by simp [depsS]) (by omega)) rfl).trans (hM 7 (hp 7 (by simp [depsS]) (by omega)))
      have qa' : a'.tmps[44]?.getD undef = .int .i64 (hashS P.l) := by rw [← Array.getD_eq_getD_getElem?]; exact qa
      have qb := (hsl 9 46 (hp 9 (by simp [depsS]) (by omega)) rfl).trans (hM 9 (hp 9 (by simp [depsS]) (by omega)))
      have qb' : a'.tmps[46]?.getD undef = .int .i64 (hashS P.l) := by rw [← Array.getD_eq_getD_getElem?]; exact qb
      have HQ := Lib.hid (hK (.bool true) W (hI.pure (Below.refl _ _) hL (by omega) (by omega) (by omega) _) (fun _ _ _ h => h) (by simp [MS, updF_same]))
      clear hI hM hp hsl hK s1 s4 s9 s10 s11 s12 qa qb
      go_simp
      exact HQ.out
    · simp only [List.getElem?_toArray, List.getElem?_cons_zero, List.getElem?_cons_succ, Option.some.injEq] at ho
      subst ho
      simp only [Nat.zero_add, Nat.reduceAdd] at hf hp ⊢
      refine ⟨wanted_none rfl, fun K hK => ?_⟩
      have qa := (hsl 5 42 (hp 5 (by simp [depsS]) (by omega)) rfl).trans (hM 5 (hp 5 (by simp [depsS]) (by omega)))
      have qa' : a'.tmps[42]?.getD undef = .bool true := by rw [← Array.getD_eq_getD_getElem?]; exact qa
      have qb := (hsl 10 47 (hp 10 (by simp [depsS]) (by omega)) rfl).trans (hM 10 (hp 10 (by simp [depsS]) (by omega)))
      have qb' : a'.tmps[47]?.getD undef = .bool true := by rw [← Array.getD_eq_getD_getElem?]; exact qb
      have HQ := Lib.hid (hK (.bool true) W (hI.pure (Below.refl _ _) hL (by omega) (by omega) (by omega) _) (fun _ _ _ h => h) (by simp [MS, updF_same]))
      clear hI hM hp hsl hK s1 s4 s9 s10 s11 s12 qa qb
      go_simp
      exact HQ.out
    · simp only [List.getElem?_toArray, List.getElem?_cons_zero, List.getElem?_cons_succ, Option.some.injEq] at ho
      subst ho
      simp only [Nat.zero_add, Nat.reduceAdd] at hf hp ⊢
      refine ⟨wanted_none rfl, fun K hK => ?_⟩
      refine wp_move rfl (hK _ _ (hI.pure (Below.refl _ _) hL (by omega) (by omega) (by omega) _) (fun _ _ _ h => h) ?_)
      show updF f 12 _ 12 = _
      rw [updF_same]; exact (hsl 11 48 (hp 11 (by simp [depsS]) (by omega)) rfl).trans (hM 11 (hp 11 (by simp [depsS]) (by omega)))
    · simp only [List.getElem?_toArray, List.getElem?_cons_zero, List.getElem?_cons_succ, Option.some.injEq] at ho
      subst ho
      simp only [Nat.zero_add, Nat.reduceAdd] at hf hp ⊢
      refine ⟨wanted_of (g := 12) (d := 49) (b := true) rfl rfl ((hsl 12 49 (hp 12 (by simp [depsS]) (by omega)) rfl).trans (hM 12 (hp 12 (by simp [depsS]) (by omega)))), fun K hK => ?_⟩
      refine wp_move rfl (hK _ _ (hI.pure (Below.refl _ _) hL (by omega) (by omega) (by omega) _) (fun _ _ _ h => h) ?_)
      show updF f 13 _ 13 = _
      rw [updF_same]; exact s10
    · simp only [List.getElem?_toArray, List.getElem?_cons_zero, List.getElem?_cons_succ, Option.some.injEq] at ho
      subst ho
      simp only [Nat.zero_add, Nat.reduceAdd] at hf hp ⊢
      refine ⟨wanted_of (g := 12) (d := 49) (b := true) rfl rfl ((hsl 12 49 (hp 12 (by simp [depsS]) (by omega)) rfl).trans (hM 12 (hp 12 (by simp [depsS]) (by omega)))), fun K hK => ?_⟩
      refine wp_move rfl (hK _ _ (hI.pure (Below.refl _ _) hL (by omega) (by omega) (by omega) _) (fun _ _ _ h => h) ?_)
      show updF f 14 _ 14 = _
      rw [updF_same]; exact s12
    · simp only [List.getElem?_toArray, List.getElem?_cons_zero, List.getElem?_cons_succ, Option.some.injEq] at ho
      subst ho
      simp only [Nat.zero_add, Nat.reduceAdd] at hf hp ⊢
      refine ⟨wanted_of (g := 12) (d := 49) (b := true) rfl rfl ((hsl 12 49 (hp 12 (by simp [depsS]) (by omega)) rfl).trans (hM 12 (hp 12 (by simp [depsS]) (by omega)))), fun K hK => ?_⟩
      have qa := (hsl 13 50 (hp 13 (by simp [depsS]) (by omega)) rfl).trans (hM 13 (hp 13 (by simp [depsS]) (by omega)))
      have qa' : a'.tmps[50]?.getD undef = .int .i64 P.mc := by rw [← Array.getD_eq_getD_getElem?]; exact qa
      have qb := (hsl 14 51 (hp 14 (by simp [depsS]) (by omega)) rfl).trans (hM 14 (hp 14 (by simp [depsS]) (by omega)))
      have qb' : a'.tmps[51]?.getD undef = .int .i64 P.mc := by rw [← Array.getD_eq_getD_getElem?]; exact qb
      have HQ := Lib.hid (hK (.bool true) W (hI.pure (Below.refl _ _) hL (by omega) (by omega) (by omega) _) (fun _ _ _ h => h) (by simp [MS, updF_same]))
      clear hI hM hp hsl hK s1 s4 s9 s10 s11 s12 qa qb
      go_simp
      exact HQ.out
    · simp only [List.getElem?_toArray, List.getElem?_cons_zero, List.getElem?_cons_succ, Option.some.injEq] at ho
      subst ho
      simp only [Nat.zero_add, Nat.reduceAdd] at hf hp ⊢
      refine ⟨wanted_none rfl, fun K hK => ?_⟩
      have qa := (hsl 12 49 (hp 12 (by simp [depsS]) (by omega)) rfl).trans (hM 12 (hp 12 (by simp [depsS]) (by omega)))
      have qa' : a'.tmps[49]?.getD undef = .bool true := by rw [← Array.getD_eq_getD_getElem?]; exact qa
      have qb := (hsl 15 52 (hp 15 (by simp [depsS]) (by omega)) rfl).trans (hM 15 (hp 15 (by simp [depsS]) (by omega)))
      have qb' : a'.tmps[52]?.getD undef = .bool true := by rw [← Array.getD_eq_getD_getElem?]; exact qb
      have HQ := Lib.hid (hK (.bool true) W (hI.pure (Below.refl _ _) hL (by omega) (by omega) (by omega) _) (fun _ _ _ h => h) (by simp [MS, updF_same]))
      clear hI hM hp hsl hK s1 s4 s9 s10 s11 s12 qa qb
      go_simp
      exact HQ.out
    · simp only [List.getElem?_toArray, List.getElem?_cons_zero, List.getElem?_cons_succ, Option.some.injEq] at ho
      subst ho
      simp only [Nat.zero_add, Nat.reduceAdd] at hf hp ⊢
      refine ⟨wanted_none rfl, fun K hK => ?_⟩
      refine wp_move rfl (hK _ _ (hI.pure (Below.refl _ _) hL (by omega) (by omega) (by omega) _) (fun _ _ _ h => h) ?_)
      show updF f 17 _ 17 = _
      rw [updF_same]; exact (hsl 16 53 (hp 16 (by simp [depsS]) (by omega)) rfl).trans (hM 16 (hp 16 (by simp [depsS]) (by omega)))
    · simp only [List.getElem?_toArray, List.getElem?_cons_zero, List.getElem?_cons_succ, Option.some.injEq] at ho
      subst ho
      simp only [Nat.zero_add, Nat.reduceAdd] at hf hp ⊢
      refine ⟨wanted_of (g := 17) (d := 54) (b := true) rfl rfl ((hsl 17 54 (hp 17 (by simp [depsS]) (by omega)) rfl).trans (hM 17 (hp 17 (by simp [depsS]) (by omega)))), fun K hK => ?_⟩
      refine wp_move rfl (hK _ _ (hI.pure (Below.refl _ _) hL (by omega) (by omega) (by omega) _) (fun _ _ _ h => h) ?_)
      show updF f 18 _ 18 = _
      rw [updF_same]; exact s9
    · simp only [List.getElem?_toArray, List.getElem?_cons_zero, List.getElem?_cons_succ, Option.some.injEq] at ho
      subst ho
      simp only [Nat.zero_add, Nat.reduceAdd] at hf hp ⊢
      refine ⟨wanted_of (g := 17) (d := 54) (b := true) rfl rfl ((hsl 17 54 (hp 17 (by simp [depsS]) (by omega)) rfl).trans (hM 17 (hp 17 (by simp [depsS]) (by omega)))), fun K hK => ?_⟩
      refine wp_move rfl (hK _ _ (hI.pure (Below.refl _ _) hL (by omega) (by omega) (by omega) _) (fun _ _ _ h => h) ?_)
      show updF f 19 _ 19 = _
      rw [updF_same]; exact s11
    · simp only [List.getElem?_toArray, List.getElem?_cons_zero, List.getElem?_cons_succ, Option.some.injEq] at ho
      subst ho
      simp only [Nat.zero_add, Nat.reduceAdd] at hf hp ⊢
      refine ⟨wanted_of (g := 17) (d := 54) (b := true) rfl rfl ((hsl 17 54 (hp 17 (by simp [depsS]) (by omega)) rfl).trans (hM 17 (hp 17 (by simp [depsS]) (by omega)))), fun K hK => ?_⟩
      have q18' : a'.tmps[55]?.getD undef = .slice P.A9 P.mv.length P.c9 := by rw [← Array.getD_eq_getD_getElem?]; exact (hsl 18 55 (hp 18 (by simp [depsS]) (by omega)) rfl).trans (hM 18 (hp 18 (by simp [depsS]) (by omega)))
      have q19' : a'.tmps[56]?.getD undef = .slice P.A11 P.mv.length P.c11 := by rw [← Array.getD_eq_getD_getElem?]; exact (hsl 19 56 (hp 19 (by simp [depsS]) (by omega)) rfl).trans (hM 19 (hp 19 (by simp [depsS]) (by omega)))
      have HC := Lib.hid (SameM P.mv P.mv P.A9 P.A11 P.c9 P.c11 W (HOK.out.m9.below hI.bel) (HOK.out.m11.below hI.bel) HOK.out.mlen)
      have HQ := Lib.hid (show ∀ W', Below W.heap.size W W' → K (a'.put (some 57) (.bool true)) W' from fun W' h1 => hK _ _ (hI.pure h1 hL (by omega) (by omega) (by omega) _) (fun j _ _ h => MS_w j _ h) (by simp [MS, updF_same]))
      clear hI hM hp hsl hK s1 s4 s9 s10 s11 s12
      go_simp
      refine HC.out.mono ?_
      rintro e w' ⟨⟨r, rfl, hr⟩, hb'⟩
      obtain rfl : r = true := hr.2 rfl
      exact HQ.out w' hb'.below
    · simp only [List.getElem?_toArray, List.getElem?_cons_zero, List.getElem?_cons_succ, Option.some.injEq] at ho
      subst ho
      simp only [Nat.zero_add, Nat.reduceAdd] at hf hp ⊢
      refine ⟨wanted_none rfl, fun K hK => ?_⟩
      have qa := (hsl 17 54 (hp 17 (by simp [depsS]) (by omega)) rfl).trans (hM 17 (hp 17 (by simp [depsS]) (by omega)))
      have qa' : a'.tmps[54]?.getD undef = .bool true := by rw [← Array.getD_eq_getD_getElem?]; exact qa
      have qb := (hsl 20 57 (hp 20 (by simp [depsS]) (by omega)) rfl).trans (hM 20 (hp 20 (by simp [depsS]) (by omega)))
      have qb' : a'.tmps[57]?.getD undef = .bool true := by rw [← Array.getD_eq_getD_getElem?]; exact qb
      have HQ := Lib.hid (hK (.bool true) W (hI.pure (Below.refl _ _) hL (by omega) (by omega) (by omega) _) (fun _ _ _ h => h) (by simp [MS, updF_same]))
      clear hI hM hp hsl hK s1 s4 s9 s10 s11 s12 qa qb
      go_simp
      exact HQ.out
    · simp only [List.getElem?_toArray, List.getElem?_cons_zero, List.getElem?_cons_succ, Option.some.injEq] at ho
      subst ho
      simp only [Nat.zero_add, Nat.reduceAdd] at hf hp ⊢
      refine ⟨wanted_none rfl, fun K hK => ?_⟩
      refine wp_assign rfl (hK _ _ (hI.pure (Below.refl _ _) hL (by omega) (by omega) (by omega) _) (fun _ _ _ h => h) ?_)
      show updF f 22 _ 22 = _
      rw [updF_same]; exact (hsl 21 58 (hp 21 (by simp [depsS]) (by omega)) rfl).trans (hM 21 (hp 21 (by simp [depsS]) (by omega)))
    · omega
  · exact hend f W (hM 22 (by show 22 < opsS.size; rw [show opsS.size = 23 from rfl]; omega)) hI.bel
end Go.Proofs.YtpkjiimcoepjpaaDoor
