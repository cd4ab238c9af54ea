/- The reference's Symbols: a node's symbol. -/
import Derived.Test.YtpkjiimcoepjpaaDoorT42
import Derived.Test.YtpkjiimcoepjpaaDoorT30
import Derived.Test.YtpkjiimcoepjpaaDoorT41
import Derived.Test.YtpkjiimcoepjpaaDoorT31
namespace Go.Proofs.YtpkjiimcoepjpaaDoor
set_option linter.unusedVariables false
set_option linter.unusedSimpArgs false
open Go.RowKit Go.Proofs.YtpkjiimcoepjpaaDoorW.PrintWords

noncomputable def opsR : Array Oper := ((Tryd.f16.body.bind (firstReg 1)).getD #[])
def dsR : List (Option Nat) := [some 5, some 6, some 7, some 8, some 9, some 10, some 11, some 12, some 13, some 3]
def depsR : Nat → List Nat
  | 9 => [8, 9]
  | j => [j]
def MR (kind : Int) (it text : ByteArray) (p : Nat) : Nat → (Nat → Value) → World → Prop
  | 0, f, _ => f 0 = .pointer (some ⟨p, 0, none⟩)
  | 1, f, _ => f 1 = .int .i64 kind
  | 2, f, _ => f 2 = .string it
  | 3, f, _ => f 3 = .string (it ++ (⟨#[58]⟩ : ByteArray))
  | 4, f, _ => f 4 = .pointer (some ⟨p, 1, none⟩)
  | 5, f, _ => f 5 = .string text
  | 6, f, _ => f 6 = .string (it ++ (⟨#[58]⟩ : ByteArray) ++ text)
  | 7, f, _ => f 7 = .int .i64 (symS (sbytes it text).data.toList)
  | 9, f, _ => f 9 = f 8
  | _, _, _ => True
theorem MR_w {kind : Int} {it text : ByteArray} {p : Nat} (j : Nat) {f : Nat → Value} {W : World} (W' : World) (h : MR kind it text p j f W) : MR kind it text p j f W' := by
  rcases j with _ | _ | _ | _ | _ | _ | _ | _ | _ | _ | j <;> exact h
structure IR (w0 : World) (v : Int) (L : Array Bool) (f : Nat → Value) (W : World) : Prop where
  bel : Below w0.heap.size w0 W
  row : L.getD 8 false = true → ∃ q, f 8 = .slice (some ⟨q, 0, none⟩) 1 1 ∧ W.heap[q]? = some (.cells #[.int .i64 v] 3 (0, 0)) ∧ w0.heap.size ≤ q
theorem IR.pure {w0 : World} {v0 : Int} {L : Array Bool} {f : Nat → Value} {W W' : World} (h : IR w0 v0 L f W) (hb : Below W.heap.size W W') (hL : L.size = 10) {i : Nat} (hi : i < 10) (h8 : i ≠ 8) (v : Value) : IR w0 v0 (L.setIfInBounds i true) (updF f i v) W' := by
  refine ⟨h.bel.trans (hb.mono h.bel.size), ?_⟩
  rw [setk (by omega) (Ne.symm h8), updF_other f v (Ne.symm h8)]
  intro l
  obtain ⟨q, e, hc, hq⟩ := h.row l
  exact ⟨q, e, (hb.block _ (hltW hc)).trans hc, hq⟩
theorem IR.build {w0 : World} {v0 : Int} {L : Array Bool} {f : Nat → Value} {W : World} (h : IR w0 v0 L f W) (hL : L.size = 10) : IR w0 v0 (L.setIfInBounds 8 true) (updF f 8 (.slice (some ⟨W.heap.size, 0, none⟩) 1 1)) (W.alloc (.cells #[.int .i64 v0] 3)) :=
  ⟨h.bel.alloc h.bel.size _, fun _ => ⟨W.heap.size, updF_same _ _ _, heap_alloc_new _ _, h.bel.size⟩⟩

set_option maxRecDepth 100000 in
set_option maxHeartbeats 1000000 in
theorem regionR (kind : Int) (text : ByteArray) (p : Nat) (w0 : World) (k0 : -9223372036854775808 ≤ kind) (k1 : kind ≤ 9223372036854775807) (hs1 : (itB kind).size + 1 ≤ 9223372036854775807) (hs2 : (itB kind).size + 1 + text.size ≤ 9223372036854775807)
    (hp0 : w0.cell? ⟨p, 0, none⟩ = some (.int .i64 kind)) (hp1 : w0.cell? ⟨p, 1, none⟩ = some (.string text))
    (b : Array Value) (hb : b.size = 37) (b1 : b.getD 1 undef = .pointer (some ⟨p, 0, none⟩)) (Q : Exit → Act → World → Prop)
    (hend : ∀ (f : Nat → Value) (W : World) (q : Nat), f 9 = .slice (some ⟨q, 0, none⟩) 1 1 → W.heap[q]? = some (.cells #[.int .i64 (symS (sbytes (itB kind) text).data.toList)] 3 (0, 0)) → w0.heap.size ≤ q → Below w0.heap.size w0 W → Q .normal ⟨setAll f 0 dsR b, []⟩ W) :
    (Code.region 1 opsR true).wp Tryd.prog Q ⟨b, []⟩ w0 := by
  obtain ⟨it, hit⟩ : ∃ it, itB kind = it := ⟨_, rfl⟩
  have HD := Lib.hid (fun W => decimalW kind k0 k1 W)
  rw [hit] at hs1 hs2 hend HD
  clear hit
  have hs3 : ¬ (9223372036854775807 < it.size + 1) := by omega
  have hs4 : ¬ (9223372036854775807 < it.size + 1 + text.size) := by omega
  have hz : (it ++ (⟨#[58]⟩ : ByteArray) ++ text).size = it.size + 1 + text.size := by rw [ByteArray.size_append, ByteArray.size_append]; rfl
  have HS := Lib.hid (fun W => sumW (it ++ (⟨#[58]⟩ : ByteArray) ++ text) (by omega) W)
  clear hs1 hs2 hz
  refine wp_region_M (by kernel_rfl) (by kernel_rfl) dsR (by kernel_rfl) (by rw [hb]; decide) (by kernel_rfl) (MR kind it text p) (IR w0 (symS (sbytes it text).data.toList)) depsR (by kernel_rfl) ?_ ?_ ?_ (fun L f W hL hall hI hM => ?_)
  · intro j f f' W h hm
    rcases j with _ | _ | _ | _ | _ | _ | _ | _ | _ | _ | j
    all_goals simp only [depsR, List.mem_cons, List.not_mem_nil, or_false, forall_eq, forall_eq_or_imp, MR, Nat.zero_add, Nat.reduceAdd] at h hm ⊢
    all_goals first | trivial | (rw [← h]; exact hm) | (simp only [← h]; exact hm)
  · refine ⟨(Below.refl _ _).drew, ?_⟩; intro e; exact absurd e (by simp [Array.getD])
  · intro i o L f a' W ho hs hI hM hf hpre hbs hsl hdc K hK
    have hL : L.size = 10 := hs
    have hi : i < 10 := (Array.getElem?_eq_some_iff.1 ho).1
    conv at ho => lhs; arg 1; whnf
    have hjlt : ∀ j, L.getD j false = true → j < 10 := fun j hj => by
      rw [← hL]
      by_cases hlt : j < L.size
      · exact hlt
      · simp [Array.getD, hlt] at hj
    have nb : ∀ s, (∀ j : Nat, j < 10 → dsR[j]? ≠ some (some s)) → a'.tmps.getD s undef = b.getD s undef := fun s hs => hbs s (fun j hj => hs j (hjlt j hj))
    have s1 := (nb 1 (by decide)).trans b1
    have HK := Lib.hid hK
    have c0 := (hI.bel.cell (p := ⟨p, 0, none⟩) (World.block_lt_of_cell? _ _ hp0)).trans hp0
    have c1 := (hI.bel.cell (p := ⟨p, 1, none⟩) (World.block_lt_of_cell? _ _ hp1)).trans hp1
    clear hK nb b1 hp0 hp1
    rcases i with _ | _ | _ | _ | _ | _ | _ | _ | _ | _ | i
    · simp only [List.getElem?_toArray, List.getElem?_cons_zero, List.getElem?_cons_succ, Option.some.injEq] at ho
      subst ho
      simp only [Nat.zero_add, Nat.reduceAdd] at hf hpre ⊢
      have s1' : a'.tmps[1]?.getD undef = .pointer (some ⟨p, 0, none⟩) := by rw [← Array.getD_eq_getD_getElem?]; exact s1
      have HQ := Lib.hid (HK.out (.pointer (some ⟨p, 0, none⟩)) W (hI.pure (Below.refl _ _) hL (by omega) (by omega) _) (fun _ _ _ h => h) (by simp [MR, updF_same]))
      clear hI hM hpre hsl HK hbs hdc
      go_simp
      exact HQ.out
    · simp only [List.getElem?_toArray, List.getElem?_cons_zero, List.getElem?_cons_succ, Option.some.injEq] at ho
      subst ho
      simp only [Nat.zero_add, Nat.reduceAdd] at hf hpre ⊢
      have l0 := (hpre ⟨0, .data⟩ (by simp) rfl)
      have q0 := (hsl 0 5 l0 rfl).trans (hM 0 l0)
      have q0' : a'.tmps[5]?.getD undef = .pointer (some ⟨p, 0, none⟩) := by rw [← Array.getD_eq_getD_getElem?]; exact q0
      have HQ := Lib.hid (HK.out (.int .i64 kind) W (hI.pure (Below.refl _ _) hL (by omega) (by omega) _) (fun _ _ _ h => h) (by simp [MR, updF_same]))
      clear hI hM hpre hsl HK hbs hdc
      go_simp
      exact HQ.out
    · simp only [List.getElem?_toArray, List.getElem?_cons_zero, List.getElem?_cons_succ, Option.some.injEq] at ho
      subst ho
      simp only [Nat.zero_add, Nat.reduceAdd] at hf hpre ⊢
      have l1 := (hpre ⟨1, .data⟩ (by simp) rfl)
      have q1 := (hsl 1 6 l1 rfl).trans (hM 1 l1)
      have q1' : a'.tmps[6]?.getD undef = .int .i64 kind := by rw [← Array.getD_eq_getD_getElem?]; exact q1
      have HC := Lib.hid (HD.out W)
      go_simp
      refine HC.out.mono ?_
      rintro e w' ⟨rfl, hb'⟩
      exact HK.out _ _ (hI.pure hb'.below hL (by omega) (by omega) _) (fun j _ _ h => MR_w j _ h) (by simp [MR, updF_same, sbytes])
    · simp only [List.getElem?_toArray, List.getElem?_cons_zero, List.getElem?_cons_succ, Option.some.injEq] at ho
      subst ho
      simp only [Nat.zero_add, Nat.reduceAdd] at hf hpre ⊢
      have l2 := (hpre ⟨2, .data⟩ (by simp) rfl)
      have q2 := (hsl 2 7 l2 rfl).trans (hM 2 l2)
      have q2' : a'.tmps[7]?.getD undef = .string it := by rw [← Array.getD_eq_getD_getElem?]; exact q2
      have HQ := Lib.hid (HK.out (.string (it ++ (⟨#[58]⟩ : ByteArray))) W (hI.pure (Below.refl _ _) hL (by omega) (by omega) _) (fun _ _ _ h => h) (by simp [MR, updF_same]))
      clear hI hM hpre hsl HK hbs hdc
      go_simp
      exact HQ.out
    · simp only [List.getElem?_toArray, List.getElem?_cons_zero, List.getElem?_cons_succ, Option.some.injEq] at ho
      subst ho
      simp only [Nat.zero_add, Nat.reduceAdd] at hf hpre ⊢
      have s1' : a'.tmps[1]?.getD undef = .pointer (some ⟨p, 0, none⟩) := by rw [← Array.getD_eq_getD_getElem?]; exact s1
      have HQ := Lib.hid (HK.out (.pointer (some ⟨p, 1, none⟩)) W (hI.pure (Below.refl _ _) hL (by omega) (by omega) _) (fun _ _ _ h => h) (by simp [MR, updF_same]))
      clear hI hM hpre hsl HK hbs hdc
      go_simp
      exact HQ.out
    · simp only [List.getElem?_toArray, List.getElem?_cons_zero, List.getElem?_cons_succ, Option.some.injEq] at ho
      subst ho
      simp only [Nat.zero_add, Nat.reduceAdd] at hf hpre ⊢
      have l4 := (hpre ⟨4, .data⟩ (by simp) rfl)
      have q4 := (hsl 4 9 l4 rfl).trans (hM 4 l4)
      have q4' : a'.tmps[9]?.getD undef = .pointer (some ⟨p, 1, none⟩) := by rw [← Array.getD_eq_getD_getElem?]; exact q4
      have HQ := Lib.hid (HK.out (.string text) W (hI.pure (Below.refl _ _) hL (by omega) (by omega) _) (fun _ _ _ h => h) (by simp [MR, updF_same]))
      clear hI hM hpre hsl HK hbs hdc
      go_simp
      exact HQ.out
    · simp only [List.getElem?_toArray, List.getElem?_cons_zero, List.getElem?_cons_succ, Option.some.injEq] at ho
      subst ho
      simp only [Nat.zero_add, Nat.reduceAdd] at hf hpre ⊢
      have l3 := (hpre ⟨3, .data⟩ (by simp) rfl)
      have q3 := (hsl 3 8 l3 rfl).trans (hM 3 l3)
      have q3' : a'.tmps[8]?.getD undef = .string (it ++ (⟨#[58]⟩ : ByteArray)) := by rw [← Array.getD_eq_getD_getElem?]; exact q3
      have l5 := (hpre ⟨5, .data⟩ (by simp) rfl)
      have q5 := (hsl 5 10 l5 rfl).trans (hM 5 l5)
      have q5' : a'.tmps[10]?.getD undef = .string text := by rw [← Array.getD_eq_getD_getElem?]; exact q5
      have HQ := Lib.hid (HK.out (.string (it ++ (⟨#[58]⟩ : ByteArray) ++ text)) W (hI.pure (Below.refl _ _) hL (by omega) (by omega) _) (fun _ _ _ h => h) (by simp [MR, updF_same]))
      clear hI hM hpre hsl HK hbs hdc
      go_simp
      exact HQ.out
    · simp only [List.getElem?_toArray, List.getElem?_cons_zero, List.getElem?_cons_succ, Option.some.injEq] at ho
      subst ho
      simp only [Nat.zero_add, Nat.reduceAdd] at hf hpre ⊢
      have l6 := (hpre ⟨6, .data⟩ (by simp) rfl)
      have q6 := (hsl 6 11 l6 rfl).trans (hM 6 l6)
      have q6' : a'.tmps[11]?.getD undef = .string (it ++ (⟨#[58]⟩ : ByteArray) ++ text) := by rw [← Array.getD_eq_getD_getElem?]; exact q6
      have HC := Lib.hid (HS.out W)
      go_simp
      refine HC.out.mono ?_
      rintro e w' ⟨rfl, hb'⟩
      exact HK.out _ _ (hI.pure hb'.below hL (by omega) (by omega) _) (fun j _ _ h => MR_w j _ h) (by simp [MR, updF_same, sbytes])
    · simp only [List.getElem?_toArray, List.getElem?_cons_zero, List.getElem?_cons_succ, Option.some.injEq] at ho
      subst ho
      simp only [Nat.zero_add, Nat.reduceAdd] at hf hpre ⊢
      have l7 := (hpre ⟨7, .data⟩ (by simp) rfl)
      have q7 := (hsl 7 12 l7 rfl).trans (hM 7 l7)
      have q7' : a'.tmps[12]?.getD undef = .int .i64 (symS (sbytes it text).data.toList) := by rw [← Array.getD_eq_getD_getElem?]; exact q7
      refine wp_buildSlice rfl (v := .slice (some ⟨W.heap.size, 0, none⟩) 1 1) (W' := W.alloc (.cells #[.int .i64 (symS (sbytes it text).data.toList)] 3)) ?_ (HK.out _ _ (hI.build hL) (fun j _ _ h => MR_w j _ h) trivial)
      have hr := buildI1 (symS (sbytes it text).data.toList) W
      have ev : a'.eval (.tmp 12) = .int .i64 (symS (sbytes it text).data.toList) := q7
      simp only [List.map_toArray, List.map_cons, List.map_nil, ev]
      exact hr
    · simp only [List.getElem?_toArray, List.getElem?_cons_zero, List.getElem?_cons_succ, Option.some.injEq] at ho
      subst ho
      simp only [Nat.zero_add, Nat.reduceAdd] at hf hpre ⊢
      have l8 := (hpre ⟨8, .data⟩ (by simp) rfl)
      refine wp_assign rfl (HK.out _ _ (hI.pure (Below.refl _ _) hL (by omega) (by omega) _) (fun _ _ _ h => h) ?_)
      show updF f 9 _ 9 = updF f 9 _ 8
      rw [updF_same, updF_other _ _ (by omega)]
      exact hsl 8 13 l8 rfl
    · omega
  · obtain ⟨q, e, hc, hq⟩ := hI.row (hall 8 (by show 8 < opsR.size; rw [show opsR.size = 10 from rfl]; omega))
    exact hend f W q ((hM 9 (by rw [show opsR.size = 10 from rfl]; omega)).trans e) hc hq hI.bel
end Go.Proofs.YtpkjiimcoepjpaaDoor
