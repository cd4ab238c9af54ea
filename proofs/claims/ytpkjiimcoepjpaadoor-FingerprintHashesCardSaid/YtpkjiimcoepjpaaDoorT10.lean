/- The bytes of symbol: a number's numeral, a colon, a text, in any order. -/
import Derived.Test.YtpkjiimcoepjpaaDoorT9
import Derived.Lib.ConvBytes
namespace Go.Proofs.YtpkjiimcoepjpaaDoor
set_option linter.unusedVariables false
set_option linter.unusedSimpArgs false
open Go.RowKit Go.Proofs.YtpkjiimcoepjpaaDoorW.PrintWords

noncomputable def ops2 : Array Oper := ((Tryd.f32.body.bind (firstReg 2)).getD #[])
def ds2 : List (Option Nat) := [some 6, some 7, some 8, some 9, some 10, some 11, some 12, some 13, some 14, some 15]
def deps2 : Nat → List Nat
  | 8 => [7, 8]
  | j => [j]
/-- the bytes that symbol reads -/
def sbytes (it text : ByteArray) : ByteArray := it ++ (⟨#[58]⟩ : ByteArray) ++ text
def M2 (kind : Int) (it text : ByteArray) (p : Nat) : Nat → (Nat → Value) → World → Prop
  | 0, f, _ => f 0 = .pointer (some ⟨p, 0, none⟩)
  | 1, f, _ => f 1 = .int .i64 kind
  | 2, f, _ => f 2 = .string it
  | 3, f, _ => f 3 = .string (it ++ (⟨#[58]⟩ : ByteArray))
  | 4, f, _ => f 4 = .pointer (some ⟨p, 1, none⟩)
  | 5, f, _ => f 5 = .string text
  | 6, f, _ => f 6 = .string (it ++ (⟨#[58]⟩ : ByteArray) ++ text)
  | 8, f, _ => f 8 = .int .i64 ((sbytes it text).size : Nat)
  | 9, f, _ => f 9 = .int .i64 0
  | _, _, _ => True
theorem M2_w {kind : Int} {it text : ByteArray} {p : Nat} (j : Nat) {f : Nat → Value} {W : World} (W' : World) (h : M2 kind it text p j f W) : M2 kind it text p j f W' := by
  rcases j with _ | _ | _ | _ | _ | _ | _ | _ | _ | _ | j <;> exact h
structure I2 (w0 : World) (it text : ByteArray) (L : Array Bool) (f : Nat → Value) (W : World) : Prop where
  bel : Below w0.heap.size w0 W
  row : L.getD 7 false = true → ∃ q cap, f 7 = .slice (some ⟨q, 0, none⟩) (sbytes it text).size cap ∧ ∀ j, j < (sbytes it text).size → W.cell? ⟨q, j, none⟩ = some (.int .u8 ((sbytes it text).data.toList.getD j 0).toNat)
theorem I2.pure {w0 : World} {it text : ByteArray} {L : Array Bool} {f : Nat → Value} {W W' : World} (h : I2 w0 it text L f W) (hb : Below W.heap.size W W') (hL : L.size = 10) {i : Nat} (hi : i < 10) (h7 : i ≠ 7) (v : Value) : I2 w0 it text (L.setIfInBounds i true) (updF f i v) W' := by
  have k7 : (L.setIfInBounds i true).getD 7 false = L.getD 7 false := by rw [getDs (by omega)]; simp [Ne.symm h7]
  refine ⟨h.bel.trans (hb.mono h.bel.size), ?_⟩
  rw [k7, updF_other f v (Ne.symm h7)]
  intro l
  obtain ⟨q, cap, e, hc⟩ := h.row l
  exact ⟨q, cap, e, fun j hj => (hb.cell (p := ⟨q, j, none⟩) (World.block_lt_of_cell? W _ (hc j hj))).trans (hc j hj)⟩
theorem I2.conv {w0 : World} {it text : ByteArray} {L : Array Bool} {f : Nat → Value} {W : World} (h : I2 w0 it text L f W) (hL : L.size = 10) (cap : Nat) : I2 w0 it text (L.setIfInBounds 7 true) (updF f 7 (.slice (some ⟨W.heap.size, 0, none⟩) (sbytes it text).size cap)) (Lib.bytesWorld W 5 (sbytes it text)) := by
  refine ⟨bytes_below h.bel h.bel.size _ _, fun _ => ⟨W.heap.size, cap, updF_same _ _ _, fun j hj => Lib.bytesWorld_cell W 5 _ j hj⟩⟩

set_option maxRecDepth 100000 in
set_option maxHeartbeats 1000000 in
theorem region2 (kind : Int) (it text : ByteArray) (hs1 : it.size + 1 ≤ 9223372036854775807) (hs2 : it.size + 1 + text.size ≤ 9223372036854775807) (w0 : World) (p : Nat)
    (hp0 : w0.cell? ⟨p, 0, none⟩ = some (.int .i64 kind)) (hp1 : w0.cell? ⟨p, 1, none⟩ = some (.string text))
    (HI : ∀ W, Below w0.heap.size w0 W → Calls Tryd.prog 43 #[.int .i64 kind] W fun e w' => e = .returned (.string it) ∧ Below W.heap.size W w')
    (b : Array Value) (hb : b.size = 27) (b1 : b.getD 1 undef = .pointer (some ⟨p, 0, none⟩)) (Q : Exit → Act → World → Prop) (w : World) (hw : Below w0.heap.size w0 w)
    (hend : ∀ (f : Nat → Value) (W : World) (q cap : Nat), f 7 = .slice (some ⟨q, 0, none⟩) (sbytes it text).size cap → f 8 = .int .i64 ((sbytes it text).size : Nat) → f 9 = .int .i64 0 → (∀ j, j < (sbytes it text).size → W.cell? ⟨q, j, none⟩ = some (.int .u8 ((sbytes it text).data.toList.getD j 0).toNat)) → Below w0.heap.size w0 W → Q .normal ⟨setAll f 0 ds2 b, []⟩ W) :
    (Code.region 2 ops2 true).wp Tryd.prog Q ⟨b, []⟩ w := by
  have hs3 : ¬ (9223372036854775807 < it.size + 1) := by omega
  have hs4 : ¬ (9223372036854775807 < it.size + 1 + text.size) := by omega
  have HIT := Lib.hid HI
  clear HI hs1 hs2
  refine wp_region_M (by kernel_rfl) (by kernel_rfl) ds2 (by kernel_rfl) (by rw [hb]; decide) (by kernel_rfl) (M2 kind it text p) (I2 w0 it text) deps2 (by kernel_rfl) ?_ ?_ ?_ (fun L f W hL hall hI hM => ?_)
  · intro j f f' W h hm
    rcases j with _ | _ | _ | _ | _ | _ | _ | _ | _ | _ | j
    all_goals simp only [deps2, List.mem_cons, List.not_mem_nil, or_false, forall_eq, forall_eq_or_imp, M2, Nat.zero_add, Nat.reduceAdd] at h hm ⊢
    all_goals first | trivial | (rw [← h]; exact hm) | (simp only [← h]; exact hm)
  · refine ⟨hw.drew, ?_⟩; intro e; exact absurd e (by simp [Array.getD])
  · intro i o L f a' W ho hs hI hM hf hpre hbs hsl hdc K hK
    have hL : L.size = 10 := hs
    have hi : i < 10 := (Array.getElem?_eq_some_iff.1 ho).1
    conv at ho => lhs; arg 1; whnf
    have hjlt : ∀ j, L.getD j false = true → j < 10 := fun j hj => by
      rw [← hL]
      by_cases hlt : j < L.size
      · exact hlt
      · simp [Array.getD, hlt] at hj
    have nb : ∀ s, (∀ j : Nat, j < 10 → ds2[j]? ≠ some (some s)) → a'.tmps.getD s undef = b.getD s undef := fun s hs => hbs s (fun j hj => hs j (hjlt j hj))
    have s1 := (nb 1 (by decide)).trans b1
    have HK := Lib.hid hK
    have c0 := (hI.bel.cell (p := ⟨p, 0, none⟩) (World.block_lt_of_cell? _ _ hp0)).trans hp0
    have c1 := (hI.bel.cell (p := ⟨p, 1, none⟩) (World.block_lt_of_cell? _ _ hp1)).trans hp1
    clear hK nb b1 hp0 hp1
    rcases i with _ | _ | _ | _ | _ | _ | _ | _ | _ | _ | i
    -- operation 0
    · simp only [List.getElem?_toArray, List.getElem?_cons_zero, List.getElem?_cons_succ, Option.some.injEq] at ho
      subst ho
      simp only [Nat.zero_add, Nat.reduceAdd] at hf hpre ⊢
      have s1' : a'.tmps[1]?.getD undef = .pointer (some ⟨p, 0, none⟩) := by rw [← Array.getD_eq_getD_getElem?]; exact s1
      have HQ := Lib.hid (HK.out (.pointer (some ⟨p, 0, none⟩)) W (hI.pure (Below.refl _ _) hL (by omega) (by omega) _) (fun _ _ _ h => h) (by simp [M2, updF_same]))
      clear hI hM hpre hsl HK hbs hdc
      go_simp
      exact HQ.out
    -- operation 1
    · simp only [List.getElem?_toArray, List.getElem?_cons_zero, List.getElem?_cons_succ, Option.some.injEq] at ho
      subst ho
      simp only [Nat.zero_add, Nat.reduceAdd] at hf hpre ⊢
      have l0 := (hpre ⟨0, .data⟩ (by simp) rfl)
      have q0 := (hsl 0 6 l0 rfl).trans (hM 0 l0)
      have q0' : a'.tmps[6]?.getD undef = .pointer (some ⟨p, 0, none⟩) := by rw [← Array.getD_eq_getD_getElem?]; exact q0
      have HQ := Lib.hid (HK.out (.int .i64 kind) W (hI.pure (Below.refl _ _) hL (by omega) (by omega) _) (fun _ _ _ h => h) (by simp [M2, updF_same]))
      clear hI hM hpre hsl HK hbs hdc
      go_simp
      exact HQ.out
    -- operation 2
    · simp only [List.getElem?_toArray, List.getElem?_cons_zero, List.getElem?_cons_succ, Option.some.injEq] at ho
      subst ho
      simp only [Nat.zero_add, Nat.reduceAdd] at hf hpre ⊢
      have l1 := (hpre ⟨1, .data⟩ (by simp) rfl)
      have q1 := (hsl 1 7 l1 rfl).trans (hM 1 l1)
      have q1' : a'.tmps[7]?.getD undef = .int .i64 kind := by rw [← Array.getD_eq_getD_getElem?]; exact q1
      have HC := Lib.hid (HIT.out W hI.bel)
      go_simp
      refine HC.out.mono ?_
      rintro e w' ⟨rfl, hb'⟩
      exact HK.out _ _ (hI.pure hb' hL (by omega) (by omega) _) (fun j _ _ h => M2_w j _ h) (by simp [M2, updF_same])
    -- operation 3
    · simp only [List.getElem?_toArray, List.getElem?_cons_zero, List.getElem?_cons_succ, Option.some.injEq] at ho
      subst ho
      simp only [Nat.zero_add, Nat.reduceAdd] at hf hpre ⊢
      have l2 := (hpre ⟨2, .data⟩ (by simp) rfl)
      have q2 := (hsl 2 8 l2 rfl).trans (hM 2 l2)
      have q2' : a'.tmps[8]?.getD undef = .string it := by rw [← Array.getD_eq_getD_getElem?]; exact q2
      have HQ := Lib.hid (HK.out (.string (it ++ (⟨#[58]⟩ : ByteArray))) W (hI.pure (Below.refl _ _) hL (by omega) (by omega) _) (fun _ _ _ h => h) (by simp [M2, updF_same]))
      clear hI hM hpre hsl HK hbs hdc
      go_simp
      exact HQ.out
    -- operation 4
    · simp only [List.getElem?_toArray, List.getElem?_cons_zero, List.getElem?_cons_succ, Option.some.injEq] at ho
      subst ho
      simp only [Nat.zero_add, Nat.reduceAdd] at hf hpre ⊢
      have s1' : a'.tmps[1]?.getD undef = .pointer (some ⟨p, 0, none⟩) := by rw [← Array.getD_eq_getD_getElem?]; exact s1
      have HQ := Lib.hid (HK.out (.pointer (some ⟨p, 1, none⟩)) W (hI.pure (Below.refl _ _) hL (by omega) (by omega) _) (fun _ _ _ h => h) (by simp [M2, updF_same]))
      clear hI hM hpre hsl HK hbs hdc
      go_simp
      exact HQ.out
    -- operation 5
    · simp only [List.getElem?_toArray, List.getElem?_cons_zero, List.getElem?_cons_succ, Option.some.injEq] at ho
      subst ho
      simp only [Nat.zero_add, Nat.reduceAdd] at hf hpre ⊢
      have l4 := (hpre ⟨4, .data⟩ (by simp) rfl)
      have q4 := (hsl 4 10 l4 rfl).trans (hM 4 l4)
      have q4' : a'.tmps[10]?.getD undef = .pointer (some ⟨p, 1, none⟩) := by rw [← Array.getD_eq_getD_getElem?]; exact q4
      have HQ := Lib.hid (HK.out (.string text) W (hI.pure (Below.refl _ _) hL (by omega) (by omega) _) (fun _ _ _ h => h) (by simp [M2, updF_same]))
      clear hI hM hpre hsl HK hbs hdc
      go_simp
      exact HQ.out
    -- operation 6
    · simp only [List.getElem?_toArray, List.getElem?_cons_zero, List.getElem?_cons_succ, Option.some.injEq] at ho
      subst ho
      simp only [Nat.zero_add, Nat.reduceAdd] at hf hpre ⊢
      have l3 := (hpre ⟨3, .data⟩ (by simp) rfl)
      have q3 := (hsl 3 9 l3 rfl).trans (hM 3 l3)
      have q3' : a'.tmps[9]?.getD undef = .string (it ++ (⟨#[58]⟩ : ByteArray)) := by rw [← Array.getD_eq_getD_getElem?]; exact q3
      have l5 := (hpre ⟨5, .data⟩ (by simp) rfl)
      have q5 := (hsl 5 11 l5 rfl).trans (hM 5 l5)
      have q5' : a'.tmps[11]?.getD undef = .string text := by rw [← Array.getD_eq_getD_getElem?]; exact q5
      have HQ := Lib.hid (HK.out (.string (it ++ (⟨#[58]⟩ : ByteArray) ++ text)) W (hI.pure (Below.refl _ _) hL (by omega) (by omega) _) (fun _ _ _ h => h) (by simp [M2, updF_same]))
      clear hI hM hpre hsl HK hbs hdc
      go_simp
      exact HQ.out
    -- operation 7
    · simp only [List.getElem?_toArray, List.getElem?_cons_zero, List.getElem?_cons_succ, Option.some.injEq] at ho
      subst ho
      simp only [Nat.zero_add, Nat.reduceAdd] at hf hpre ⊢
      have l6 := (hpre ⟨6, .data⟩ (by simp) rfl)
      have q6 := (hsl 6 12 l6 rfl).trans (hM 6 l6)
      have q6' : a'.tmps[12]?.getD undef = .string (it ++ (⟨#[58]⟩ : ByteArray) ++ text) := by rw [← Array.getD_eq_getD_getElem?]; exact q6
      have hr := Lib.run_convert_string_bytes (P := Tryd.prog) W 9 72 5 (sbytes it text) Tryd.underlying9 Tryd.underlying72 Tryd.underlying5
      have HQ := Lib.hid (fun cap => HK.out (.slice (some ⟨W.heap.size, 0, none⟩) (sbytes it text).size cap) _ (hI.conv hL cap) (fun j _ _ h => M2_w j _ h) trivial)
      clear hI hM hpre hsl HK hbs hdc
      unfold sbytes at hr HQ
      have hz : (it ++ (⟨#[58]⟩ : ByteArray) ++ text).size = it.size + 1 + text.size := by rw [ByteArray.size_append, ByteArray.size_append]; rfl
      rw [hz] at hr
      simp only [hz] at HQ
      go_simp
      exact HQ.out _
    -- operation 8
    · simp only [List.getElem?_toArray, List.getElem?_cons_zero, List.getElem?_cons_succ, Option.some.injEq] at ho
      subst ho
      simp only [Nat.zero_add, Nat.reduceAdd] at hf hpre ⊢
      have l7 := (hpre ⟨7, .data⟩ (by simp) rfl)
      obtain ⟨q, cap, e7, _⟩ := hI.row l7
      have q7 := (hsl 7 13 l7 rfl).trans e7
      have q7' : a'.tmps[13]?.getD undef = .slice (some ⟨q, 0, none⟩) (sbytes it text).size cap := by rw [← Array.getD_eq_getD_getElem?]; exact q7
      have HQ := Lib.hid (HK.out (.int .i64 ((sbytes it text).size : Nat)) W (hI.pure (Below.refl _ _) hL (by omega) (by omega) _) (fun _ _ _ h => h) (by simp [M2, updF_same]))
      clear hI hM hpre hsl HK hbs hdc
      go_simp
      exact HQ.out
    -- operation 9
    · simp only [List.getElem?_toArray, List.getElem?_cons_zero, List.getElem?_cons_succ, Option.some.injEq] at ho
      subst ho
      simp only [Nat.zero_add, Nat.reduceAdd] at hf hpre ⊢
      have HQ := Lib.hid (HK.out (.int .i64 0) W (hI.pure (Below.refl _ _) hL (by omega) (by omega) _) (fun _ _ _ h => h) (by simp [M2, updF_same]))
      clear hI hM hpre hsl HK hbs hdc
      go_simp
      exact HQ.out
    · omega
  · obtain ⟨q, cap, e, hc⟩ := hI.row (hall 7 (by show 7 < ops2.size; rw [show ops2.size = 10 from rfl]; omega))
    exact hend f W q cap e (hM 8 (by rw [show ops2.size = 10 from rfl]; omega)) (hM 9 (by rw [show ops2.size = 10 from rfl]; omega)) hc hI.bel
end Go.Proofs.YtpkjiimcoepjpaaDoor
