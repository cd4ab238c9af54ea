import Derived.Test.YtjijfgkmjachnaaT11
namespace Go.Proofs.Ytjijfgkmjachnaa
set_option linter.unusedVariables false
set_option linter.unusedSimpArgs false
open Go.RowKit

theorem R8.fin {C : Ctx} {cL cF cN : Value} {L : Array Bool} {a : Act} {W : World} (h : R8 C cL cF cN L a W) (hall : ∀ i, i < 25 → L.getD i false = true) (h1 : C.B ≤ C.bn) (h2 : C.B ≤ C.bf) (h3 : C.B ≤ C.bw) :
    St C.B W C.bn C.bf C.bw (C.zs ++ [C.ent]) C.mm cL cF cN := by
  have a8 := hall 8 (by omega); have a13 := hall 13 (by omega); have a18 := hall 18 (by omega); have a20 := hall 20 (by omega); have a22 := hall 22 (by omega); have a24 := hall 24 (by omega)
  have e1 := h.fbx; have e2 := h.oL; have e3 := h.oF; have e4 := h.oN
  rw [a20, a22, a24] at e1; rw [a8] at e2; rw [a13] at e3; rw [a18] at e4
  exact ⟨h.num, e1, h.wbx, e2, e3, e4, h.ne, h.nF, h.nN, h1, h2, h3⟩

def firstReg (k : Nat) : Code → Option (Array Oper)
  | .region id ops _ => if id = k then some ops else none
  | .seq x y => match firstReg k x with | some o => some o | none => firstReg k y
  | .cond _ x y => match firstReg k x with | some o => some o | none => firstReg k y
  | .block _ x => firstReg k x
  | .loop x => firstReg k x
  | .scope x => firstReg k x
  | _ => none
noncomputable def ops8 : Array Oper := ((Try.f43.body.bind (firstReg 8)).getD #[])

set_option maxRecDepth 100000 in
set_option maxHeartbeats 4000000 in
theorem region8 (C : Ctx) (Q : Exit → Act → World → Prop) (a : Act) (w : World) (h0 : Inv8 C (Array.replicate 25 false) a w.drew) (hBW : C.B ≤ C.W0.heap.size) (hlen : C.zs.length < 1000000000)
    (fL : ∃ A c, C.vL = .slice A C.zs.length c) (fF : ∃ A c, C.vF = .slice A C.zs.length c) (fN : ∃ A c, C.vN = .slice A C.zs.length c)
    (hend : ∀ L a' W cL cF cN, R8 C cL cF cN L a' W → (∀ i, i < 25 → L.getD i false = true) → Q .normal a' W) :
    (Code.region 8 ops8 true).wp Try.prog Q a w := by
  refine wp_region_inv (by kernel_rfl) (by kernel_rfl) (Inv8 C) h0 ?_ ?_
  · intro i o L a W ho hs hI hf hpre
    obtain ⟨cL, cF, cN, h⟩ := hI
    have hL : L.size = 25 := hs
    have hi : i < 25 := by
      have := (Array.getElem?_eq_some_iff.1 ho).1
      exact this
    conv at ho => lhs; arg 1; whnf
    rcases i with _ | _ | _ | _ | _ | _ | _ | _ | _ | _ | _ | _ | _ | _ | _ | _ | _ | _ | _ | _ | _ | _ | _ | _ | _ | i
    -- operation 0
    · simp only [List.getElem?_toArray, List.getElem?_cons_zero, Option.some.injEq] at ho
      subst ho
      simp only [Region.wanted, if_true]
      have s2 : a.tmps.getD 2 undef = .pointer (some ⟨C.bf, 0, none⟩) := h.bs (2, _) (by simp [base8])
      have hq := h.pure hL (i := 0) (d := 26) (v := .pointer (some ⟨C.bf, 0, none⟩)) (by omega) (by omega) (by simp [slots]) (by simp) (by simp)
      have HQ := Lib.hid hq
      clear hq h hpre
      go_simp
      exact HQ.out
    -- operation 1
    · simp only [List.getElem?_toArray, List.getElem?_cons_zero, List.getElem?_cons_succ, Option.some.injEq] at ho
      subst ho
      simp only [Region.wanted, if_true, Nat.zero_add] at hf ⊢
      have p0 : a.tmps.getD 26 undef = .pointer (some ⟨C.bf, 0, none⟩) := h.sl (0, 26, _) (by simp [slots]) (hpre ⟨0, .data⟩ (by simp) rfl)
      have p0' : a.tmps[26]?.getD undef = .pointer (some ⟨C.bf, 0, none⟩) := by rw [← Array.getD_eq_getD_getElem?]; exact p0
      have hf20 : L.getD 20 false = false := by cases hq : L.getD 20 false with | false => rfl | true => (have := (h.od.1 hq).1; rw [hf] at this; cases this)
      have c1 : W.cell? ⟨C.bf, 0, none⟩ = some (C.vL) := by have := h.fbx; simp only [World.cell?, this, hf20]; rfl
      obtain ⟨AA, cc, ee⟩ : ∃ A c, C.vL = .slice A C.zs.length c := fL
      rw [ee] at c1
      have hq := h.pure hL (i := 1) (d := 27) (v := .slice AA C.zs.length cc) (by omega) (by omega) (by simp [slots, ee]) (by simp) (by simp)
      have HQ := Lib.hid hq
      clear hq h hpre
      go_simp
      exact HQ.out
    -- operation 2
    · simp only [List.getElem?_toArray, List.getElem?_cons_zero, List.getElem?_cons_succ, Option.some.injEq] at ho
      subst ho
      simp only [Region.wanted, if_true, Nat.zero_add, Nat.reduceAdd] at hf ⊢
      have s4 : a.tmps.getD 4 undef = .pointer (some ⟨C.b4, 0, none⟩) := h.bs (4, _) (by simp [base8])
      have hq := h.pure hL (i := 2) (d := 28) (v := .pointer (some ⟨C.b4, 0, none⟩)) (by omega) (by omega) (by simp [slots]) (by simp) (by simp)
      have HQ := Lib.hid hq
      clear hq h hpre
      go_simp
      exact HQ.out
    -- operation 3
    · simp only [List.getElem?_toArray, List.getElem?_cons_zero, List.getElem?_cons_succ, Option.some.injEq] at ho
      subst ho
      simp only [Region.wanted, if_true, Nat.zero_add, Nat.reduceAdd] at hf ⊢
      have p2 : a.tmps.getD 28 undef = .pointer (some ⟨C.b4, 0, none⟩) := h.sl (2, 28, _) (by simp [slots]) (hpre ⟨2, .data⟩ (by simp) rfl)
      have p2' : a.tmps[28]?.getD undef = .pointer (some ⟨C.b4, 0, none⟩) := by rw [← Array.getD_eq_getD_getElem?]; exact p2
      have c1 : W.cell? ⟨C.b4, 0, none⟩ = some (.int .i64 C.t.kind) := by have := h.nbx; simp only [World.cell?, this]; rfl
      have hq := h.pure hL (i := 3) (d := 29) (v := .int .i64 C.t.kind) (by omega) (by omega) (by simp [slots]) (by simp) (by simp)
      have HQ := Lib.hid hq
      clear hq h hpre
      go_simp
      exact HQ.out
    -- operation 4
    · simp only [List.getElem?_toArray, List.getElem?_cons_zero, List.getElem?_cons_succ, Option.some.injEq] at ho
      subst ho
      simp only [Region.wanted, if_true, Nat.zero_add, Nat.reduceAdd] at hf ⊢
      have s4 : a.tmps.getD 4 undef = .pointer (some ⟨C.b4, 0, none⟩) := h.bs (4, _) (by simp [base8])
      have hq := h.pure hL (i := 4) (d := 30) (v := .pointer (some ⟨C.b4, 1, none⟩)) (by omega) (by omega) (by simp [slots]) (by simp) (by simp)
      have HQ := Lib.hid hq
      clear hq h hpre
      go_simp
      exact HQ.out
    -- operation 5
    · simp only [List.getElem?_toArray, List.getElem?_cons_zero, List.getElem?_cons_succ, Option.some.injEq] at ho
      subst ho
      simp only [Region.wanted, if_true, Nat.zero_add, Nat.reduceAdd] at hf ⊢
      have p4 : a.tmps.getD 30 undef = .pointer (some ⟨C.b4, 1, none⟩) := h.sl (4, 30, _) (by simp [slots]) (hpre ⟨4, .data⟩ (by simp) rfl)
      have p4' : a.tmps[30]?.getD undef = .pointer (some ⟨C.b4, 1, none⟩) := by rw [← Array.getD_eq_getD_getElem?]; exact p4
      have c1 : W.cell? ⟨C.b4, 1, none⟩ = some (.string C.t.text) := by have := h.nbx; simp only [World.cell?, this]; rfl
      have hq := h.pure hL (i := 5) (d := 31) (v := .string C.t.text) (by omega) (by omega) (by simp [slots]) (by simp) (by simp)
      have HQ := Lib.hid hq
      clear hq h hpre
      go_simp
      exact HQ.out
    -- operation 6
    · simp only [List.getElem?_toArray, List.getElem?_cons_zero, List.getElem?_cons_succ, Option.some.injEq] at ho
      subst ho
      simp only [Region.wanted, if_true, Nat.zero_add, Nat.reduceAdd] at hf ⊢
      have p3 : a.tmps.getD 29 undef = .int .i64 C.t.kind := h.sl (3, 29, _) (by simp [slots]) (hpre ⟨3, .data⟩ (by simp) rfl)
      have p3' : a.tmps[29]?.getD undef = .int .i64 C.t.kind := by rw [← Array.getD_eq_getD_getElem?]; exact p3
      have p5 : a.tmps.getD 31 undef = .string C.t.text := h.sl (5, 31, _) (by simp [slots]) (hpre ⟨5, .data⟩ (by simp) rfl)
      have p5' : a.tmps[31]?.getD undef = .string C.t.text := by rw [← Array.getD_eq_getD_getElem?]; exact p5
      have hq := h.pure hL (i := 6) (d := 32) (v := .agg #[.int .i64 C.t.kind, .string C.t.text]) (by omega) (by omega) (by simp [slots]) (by simp) (by simp)
      have HQ := Lib.hid hq
      clear hq h hpre
      go_simp
      exact HQ.out
    -- operation 7
    · simp only [List.getElem?_toArray, List.getElem?_cons_zero, List.getElem?_cons_succ, Option.some.injEq] at ho
      subst ho
      simp only [Region.wanted, if_true, Nat.zero_add, Nat.reduceAdd] at hf ⊢
      have p6 : a.tmps.getD 32 undef = .agg #[.int .i64 C.t.kind, .string C.t.text] := h.sl (6, 32, _) (by simp [slots]) (hpre ⟨6, .data⟩ (by simp) rfl)
      have p6' : a.tmps[32]?.getD undef = .agg #[.int .i64 C.t.kind, .string C.t.text] := by rw [← Array.getD_eq_getD_getElem?]; exact p6
      have HQ := Lib.hid (Inv8.build7 h hL)
      clear h hpre
      go_simp
      exact HQ.out
    -- operation 8
    · simp only [List.getElem?_toArray, List.getElem?_cons_zero, List.getElem?_cons_succ, Option.some.injEq] at ho
      subst ho
      simp only [Region.wanted, if_true, Nat.zero_add, Nat.reduceAdd] at hf ⊢
      have pv : a.tmps.getD 27 undef = C.vL := h.sl (1, 27, _) (by simp [slots]) (hpre ⟨1, .data⟩ (by simp) rfl)
      obtain ⟨g0, hg0, hh0⟩ := h.b1 (hpre ⟨7, .data⟩ (by simp) rfl) hf
      have hst : L.getD 20 false = false := by cases hq : L.getD 20 false with | false => rfl | true => (have := (h.od.1 hq).2; rw [hf] at this; cases this)
      have how := h.oL
      rw [hf, Ctx.xs_false, h.vL hf] at how
      obtain ⟨i0, hi0, hz0, hz1, hz2⟩ := info_parts inf70
      refine wp_append_lies W _ _ 64 rfl C.B 70 i0 _ 2 24 Try.underlying64 hi0 hz0 hz1 hz2 rfl (by omega) C.vL C.zs.length _ pv how ⟨g0, 0, none⟩ 1 1 [.int .i64 C.t.kind, .string C.t.text] hg0 rfl (World.news_of_block hh0) (by simp [Value.oneCell']) (by omega) (by unfold maxLen; omega) (by omega) (Nat.le_trans hBW h.kp.size) _ rfl ?_
      intro g cap w1 ho1 hg1 hat _
      exact Inv8.app8 h hL hf hst ho1 (by rw [h.vL hf]; exact hg1) (by rw [h.vL hf]; exact hat)
    -- operation 9
    · simp only [List.getElem?_toArray, List.getElem?_cons_zero, List.getElem?_cons_succ, Option.some.injEq] at ho
      subst ho
      simp only [Region.wanted, if_true, Nat.zero_add, Nat.reduceAdd] at hf ⊢
      have s2 : a.tmps.getD 2 undef = .pointer (some ⟨C.bf, 0, none⟩) := h.bs (2, _) (by simp [base8])
      have hq := h.pure hL (i := 9) (d := 35) (v := .pointer (some ⟨C.bf, 1, none⟩)) (by omega) (by omega) (by simp [slots]) (by simp) (by simp)
      have HQ := Lib.hid hq
      clear hq h hpre
      go_simp
      exact HQ.out
    -- operation 10
    · simp only [List.getElem?_toArray, List.getElem?_cons_zero, List.getElem?_cons_succ, Option.some.injEq] at ho
      subst ho
      simp only [Region.wanted, if_true, Nat.zero_add, Nat.reduceAdd] at hf ⊢
      have p9 : a.tmps.getD 35 undef = .pointer (some ⟨C.bf, 1, none⟩) := h.sl (9, 35, _) (by simp [slots]) (hpre ⟨9, .data⟩ (by simp) rfl)
      have p9' : a.tmps[35]?.getD undef = .pointer (some ⟨C.bf, 1, none⟩) := by rw [← Array.getD_eq_getD_getElem?]; exact p9
      have hf22 : L.getD 22 false = false := by cases hq : L.getD 22 false with | false => rfl | true => (have := (h.od.2.1 hq).1; rw [hf] at this; cases this)
      have c1 : W.cell? ⟨C.bf, 1, none⟩ = some (C.vF) := by have := h.fbx; simp only [World.cell?, this, hf22]; rfl
      obtain ⟨AA, cc, ee⟩ : ∃ A c, C.vF = .slice A C.zs.length c := fF
      rw [ee] at c1
      have hq := h.pure hL (i := 10) (d := 36) (v := .slice AA C.zs.length cc) (by omega) (by omega) (by simp [slots, ee]) (by simp) (by simp)
      have HQ := Lib.hid hq
      clear hq h hpre
      go_simp
      exact HQ.out
    -- operation 11
    · simp only [List.getElem?_toArray, List.getElem?_cons_zero, List.getElem?_cons_succ, Option.some.injEq] at ho
      subst ho
      simp only [Region.wanted, if_true, Nat.zero_add, Nat.reduceAdd] at hf ⊢
      have s6 : a.tmps.getD 6 undef = .int .i64 (C.first : Nat) := h.bs (6, _) (by simp [base8])
      have hq := h.pure hL (i := 11) (d := 37) (v := .int .i64 (C.first : Nat)) (by omega) (by omega) (by simp [slots]) (by simp) (by simp)
      have HQ := Lib.hid hq
      clear hq h hpre
      go_simp
      exact HQ.out
    -- operation 12
    · simp only [List.getElem?_toArray, List.getElem?_cons_zero, List.getElem?_cons_succ, Option.some.injEq] at ho
      subst ho
      simp only [Region.wanted, if_true, Nat.zero_add, Nat.reduceAdd] at hf ⊢
      have p11 : a.tmps.getD 37 undef = .int .i64 (C.first : Nat) := h.sl (11, 37, _) (by simp [slots]) (hpre ⟨11, .data⟩ (by simp) rfl)
      have p11' : a.tmps[37]?.getD undef = .int .i64 (C.first : Nat) := by rw [← Array.getD_eq_getD_getElem?]; exact p11
      have HQ := Lib.hid (Inv8.build12 h hL)
      clear h hpre
      go_simp
      exact HQ.out
    -- operation 13
    · simp only [List.getElem?_toArray, List.getElem?_cons_zero, List.getElem?_cons_succ, Option.some.injEq] at ho
      subst ho
      simp only [Region.wanted, if_true, Nat.zero_add, Nat.reduceAdd] at hf ⊢
      have pv : a.tmps.getD 36 undef = C.vF := h.sl (10, 36, _) (by simp [slots]) (hpre ⟨10, .data⟩ (by simp) rfl)
      obtain ⟨g0, hg0, hh0, _⟩ := h.b2 (hpre ⟨12, .data⟩ (by simp) rfl) hf
      have hst : L.getD 22 false = false := by cases hq : L.getD 22 false with | false => rfl | true => (have := (h.od.2.1 hq).2; rw [hf] at this; cases this)
      have how := h.oF
      rw [hf, Ctx.xs_false, h.vF hf] at how
      obtain ⟨i0, hi0, hz0, hz1, hz2⟩ := info_parts inf3
      refine wp_append_lies W _ _ 34 rfl C.B 3 i0 _ 1 8 Try.underlying34 hi0 hz0 hz1 hz2 rfl (by omega) C.vF C.zs.length _ pv how ⟨g0, 0, none⟩ 1 1 [.int .i64 (C.first : Nat)] hg0 rfl (World.news_of_block hh0) (by simp [Value.oneCell']) (by omega) (by unfold maxLen; omega) (by omega) (Nat.le_trans hBW h.kp.size) _ rfl ?_
      intro g cap w1 ho1 hg1 hat _
      exact Inv8.app13 h hL hf hst ho1 (by rw [h.vF hf]; exact hg1) (by rw [h.vF hf]; exact hat)
    -- operation 14
    · simp only [List.getElem?_toArray, List.getElem?_cons_zero, List.getElem?_cons_succ, Option.some.injEq] at ho
      subst ho
      simp only [Region.wanted, if_true, Nat.zero_add, Nat.reduceAdd] at hf ⊢
      have s2 : a.tmps.getD 2 undef = .pointer (some ⟨C.bf, 0, none⟩) := h.bs (2, _) (by simp [base8])
      have hq := h.pure hL (i := 14) (d := 40) (v := .pointer (some ⟨C.bf, 2, none⟩)) (by omega) (by omega) (by simp [slots]) (by simp) (by simp)
      have HQ := Lib.hid hq
      clear hq h hpre
      go_simp
      exact HQ.out
    -- operation 15
    · simp only [List.getElem?_toArray, List.getElem?_cons_zero, List.getElem?_cons_succ, Option.some.injEq] at ho
      subst ho
      simp only [Region.wanted, if_true, Nat.zero_add, Nat.reduceAdd] at hf ⊢
      have p14 : a.tmps.getD 40 undef = .pointer (some ⟨C.bf, 2, none⟩) := h.sl (14, 40, _) (by simp [slots]) (hpre ⟨14, .data⟩ (by simp) rfl)
      have p14' : a.tmps[40]?.getD undef = .pointer (some ⟨C.bf, 2, none⟩) := by rw [← Array.getD_eq_getD_getElem?]; exact p14
      have hf24 : L.getD 24 false = false := by cases hq : L.getD 24 false with | false => rfl | true => (have := (h.od.2.2 hq).1; rw [hf] at this; cases this)
      have c1 : W.cell? ⟨C.bf, 2, none⟩ = some (C.vN) := by have := h.fbx; simp only [World.cell?, this, hf24]; rfl
      obtain ⟨AA, cc, ee⟩ : ∃ A c, C.vN = .slice A C.zs.length c := fN
      rw [ee] at c1
      have hq := h.pure hL (i := 15) (d := 41) (v := .slice AA C.zs.length cc) (by omega) (by omega) (by simp [slots, ee]) (by simp) (by simp)
      have HQ := Lib.hid hq
      clear hq h hpre
      go_simp
      exact HQ.out
    -- operation 16
    · simp only [List.getElem?_toArray, List.getElem?_cons_zero, List.getElem?_cons_succ, Option.some.injEq] at ho
      subst ho
      simp only [Region.wanted, if_true, Nat.zero_add, Nat.reduceAdd] at hf ⊢
      have s5 : a.tmps.getD 5 undef = .int .i64 (C.me : Nat) := h.bs (5, _) (by simp [base8])
      have hq := h.pure hL (i := 16) (d := 42) (v := .int .i64 (C.me : Nat)) (by omega) (by omega) (by simp [slots]) (by simp) (by simp)
      have HQ := Lib.hid hq
      clear hq h hpre
      go_simp
      exact HQ.out
    -- operation 17
    · simp only [List.getElem?_toArray, List.getElem?_cons_zero, List.getElem?_cons_succ, Option.some.injEq] at ho
      subst ho
      simp only [Region.wanted, if_true, Nat.zero_add, Nat.reduceAdd] at hf ⊢
      have p16 : a.tmps.getD 42 undef = .int .i64 (C.me : Nat) := h.sl (16, 42, _) (by simp [slots]) (hpre ⟨16, .data⟩ (by simp) rfl)
      have p16' : a.tmps[42]?.getD undef = .int .i64 (C.me : Nat) := by rw [← Array.getD_eq_getD_getElem?]; exact p16
      have HQ := Lib.hid (Inv8.build17 h hL)
      clear h hpre
      go_simp
      exact HQ.out
    -- operation 18
    · simp only [List.getElem?_toArray, List.getElem?_cons_zero, List.getElem?_cons_succ, Option.some.injEq] at ho
      subst ho
      simp only [Region.wanted, if_true, Nat.zero_add, Nat.reduceAdd] at hf ⊢
      have pv : a.tmps.getD 41 undef = C.vN := h.sl (15, 41, _) (by simp [slots]) (hpre ⟨15, .data⟩ (by simp) rfl)
      obtain ⟨g0, hg0, hh0, _⟩ := h.b3 (hpre ⟨17, .data⟩ (by simp) rfl) hf
      have hst : L.getD 24 false = false := by cases hq : L.getD 24 false with | false => rfl | true => (have := (h.od.2.2 hq).2; rw [hf] at this; cases this)
      have how := h.oN
      rw [hf, Ctx.xs_false, h.vN hf] at how
      obtain ⟨i0, hi0, hz0, hz1, hz2⟩ := info_parts inf3
      refine wp_append_lies W _ _ 34 rfl C.B 3 i0 _ 1 8 Try.underlying34 hi0 hz0 hz1 hz2 rfl (by omega) C.vN C.zs.length _ pv how ⟨g0, 0, none⟩ 1 1 [.int .i64 (C.me : Nat)] hg0 rfl (World.news_of_block hh0) (by simp [Value.oneCell']) (by omega) (by unfold maxLen; omega) (by omega) (Nat.le_trans hBW h.kp.size) _ rfl ?_
      intro g cap w1 ho1 hg1 hat _
      exact Inv8.app18 h hL hf hst ho1 (by rw [h.vN hf]; exact hg1) (by rw [h.vN hf]; exact hat)
    -- operation 19
    · simp only [List.getElem?_toArray, List.getElem?_cons_zero, List.getElem?_cons_succ, Option.some.injEq] at ho
      subst ho
      simp only [Region.wanted, if_true, Nat.zero_add, Nat.reduceAdd] at hf ⊢
      have s2 : a.tmps.getD 2 undef = .pointer (some ⟨C.bf, 0, none⟩) := h.bs (2, _) (by simp [base8])
      have hq := h.pure hL (i := 19) (d := 45) (v := .pointer (some ⟨C.bf, 0, none⟩)) (by omega) (by omega) (by simp [slots]) (by simp) (by simp)
      have HQ := Lib.hid hq
      clear hq h hpre
      go_simp
      exact HQ.out
    -- operation 20
    · simp only [List.getElem?_toArray, List.getElem?_cons_zero, List.getElem?_cons_succ, Option.some.injEq] at ho
      subst ho
      simp only [Region.wanted, if_true, Nat.zero_add, Nat.reduceAdd] at hf ⊢
      have q1 : L.getD 8 false = true := hpre ⟨8, .data⟩ (by simp) rfl
      have q2 : L.getD 1 false = true := hpre ⟨1, .phase⟩ (by simp) rfl
      have pp : a.tmps.getD 45 undef = .pointer (some ⟨C.bf, 0, none⟩) := h.sl (19, 45, _) (by simp [slots]) (hpre ⟨19, .data⟩ (by simp) rfl)
      have pv : a.tmps.getD 34 undef = cL := h.sl (8, 34, _) (by simp [slots]) q1
      have HQ := Lib.hid (Inv8.store20 h hL q2 q1)
      obtain ⟨AA, cc, ee, _⟩ := own_form h.oL
      have fz : W.frozen? ⟨C.bf, 0, none⟩ = false := by have := h.fbx; simp [World.frozen?, this]
      obtain ⟨vv, c1⟩ : ∃ vv, W.cell? ⟨C.bf, 0, none⟩ = some vv := ⟨_, by have := h.fbx; simp only [World.cell?, this]; rfl⟩
      rw [q1] at ee
      rw [ee] at pv HQ
      clear h hpre
      go_simp
      exact HQ.out
    -- operation 21
    · simp only [List.getElem?_toArray, List.getElem?_cons_zero, List.getElem?_cons_succ, Option.some.injEq] at ho
      subst ho
      simp only [Region.wanted, if_true, Nat.zero_add, Nat.reduceAdd] at hf ⊢
      have s2 : a.tmps.getD 2 undef = .pointer (some ⟨C.bf, 0, none⟩) := h.bs (2, _) (by simp [base8])
      have hq := h.pure hL (i := 21) (d := 46) (v := .pointer (some ⟨C.bf, 1, none⟩)) (by omega) (by omega) (by simp [slots]) (by simp) (by simp)
      have HQ := Lib.hid hq
      clear hq h hpre
      go_simp
      exact HQ.out
    -- operation 22
    · simp only [List.getElem?_toArray, List.getElem?_cons_zero, List.getElem?_cons_succ, Option.some.injEq] at ho
      subst ho
      simp only [Region.wanted, if_true, Nat.zero_add, Nat.reduceAdd] at hf ⊢
      have q1 : L.getD 13 false = true := hpre ⟨13, .data⟩ (by simp) rfl
      have q2 : L.getD 10 false = true := hpre ⟨10, .phase⟩ (by simp) rfl
      have pp : a.tmps.getD 46 undef = .pointer (some ⟨C.bf, 1, none⟩) := h.sl (21, 46, _) (by simp [slots]) (hpre ⟨21, .data⟩ (by simp) rfl)
      have pv : a.tmps.getD 39 undef = cF := h.sl (13, 39, _) (by simp [slots]) q1
      have HQ := Lib.hid (Inv8.store22 h hL q2 q1)
      obtain ⟨AA, cc, ee, _⟩ := own_form h.oF
      have fz : W.frozen? ⟨C.bf, 1, none⟩ = false := by have := h.fbx; simp [World.frozen?, this]
      obtain ⟨vv, c1⟩ : ∃ vv, W.cell? ⟨C.bf, 1, none⟩ = some vv := ⟨_, by have := h.fbx; simp only [World.cell?, this]; rfl⟩
      rw [q1] at ee
      rw [ee] at pv HQ
      clear h hpre
      go_simp
      exact HQ.out
    -- operation 23
    · simp only [List.getElem?_toArray, List.getElem?_cons_zero, List.getElem?_cons_succ, Option.some.injEq] at ho
      subst ho
      simp only [Region.wanted, if_true, Nat.zero_add, Nat.reduceAdd] at hf ⊢
      have s2 : a.tmps.getD 2 undef = .pointer (some ⟨C.bf, 0, none⟩) := h.bs (2, _) (by simp [base8])
      have hq := h.pure hL (i := 23) (d := 47) (v := .pointer (some ⟨C.bf, 2, none⟩)) (by omega) (by omega) (by simp [slots]) (by simp) (by simp)
      have HQ := Lib.hid hq
      clear hq h hpre
      go_simp
      exact HQ.out
    -- operation 24
    · simp only [List.getElem?_toArray, List.getElem?_cons_zero, List.getElem?_cons_succ, Option.some.injEq] at ho
      subst ho
      simp only [Region.wanted, if_true, Nat.zero_add, Nat.reduceAdd] at hf ⊢
      have q1 : L.getD 18 false = true := hpre ⟨18, .data⟩ (by simp) rfl
      have q2 : L.getD 15 false = true := hpre ⟨15, .phase⟩ (by simp) rfl
      have pp : a.tmps.getD 47 undef = .pointer (some ⟨C.bf, 2, none⟩) := h.sl (23, 47, _) (by simp [slots]) (hpre ⟨23, .data⟩ (by simp) rfl)
      have pv : a.tmps.getD 44 undef = cN := h.sl (18, 44, _) (by simp [slots]) q1
      have HQ := Lib.hid (Inv8.store24 h hL q2 q1)
      obtain ⟨AA, cc, ee, _⟩ := own_form h.oN
      have fz : W.frozen? ⟨C.bf, 2, none⟩ = false := by have := h.fbx; simp [World.frozen?, this]
      obtain ⟨vv, c1⟩ : ∃ vv, W.cell? ⟨C.bf, 2, none⟩ = some vv := ⟨_, by have := h.fbx; simp only [World.cell?, this]; rfl⟩
      rw [q1] at ee
      rw [ee] at pv HQ
      clear h hpre
      go_simp
      exact HQ.out
    · omega
  · intro L a' W hs hall hI
    obtain ⟨cL, cF, cN, h⟩ := hI
    exact hend L a' W cL cF cN h hall
end Go.Proofs.Ytjijfgkmjachnaa
