/- Seat 43, texts merged: Symbols walked. Lemmas for the laws of chapter 43; no conditions of their own beyond what each states. -/
import Derived.Test.YtpkjiimcoepjpaaDoorC4
import Derived.Lib.ConvBytes
import Derived.Test.YtpkjiimcoepjpaaDoorShelf
namespace Go.Proofs.YtpkjiimcoepjpaaDoor
set_option linter.unusedVariables false
set_option linter.unusedSimpArgs false
open Go.RowKit Go.Proofs.YtpkjiimcoepjpaaDoorW.PrintWords

noncomputable def ops2 : Array Oper := ((Tryd.f32.body.bind (firstReg 2)).getD #[])
def ds2 : List (Option Nat) := [some 6, some 7, some 8, some 9, some 10, some 11, some 12, some 13, some 14, some 15]
def deps2 : Nat → List Nat
  | 8 => [7, 8]
  | j => [j]
/-- the bytes that symbol reads -/
def sbytes (it text : ByteArray) : ByteArray := it ++ (⟨#[58]⟩ : ByteArray) ++ text
def M2 (kind : Int) (it text : ByteArray) (p : Nat) : Nat → (Nat → Value) → World → Prop
  | 0, f, _ => f 0 = .pointer (some ⟨p, 0, none⟩)
  | 1, f, _ => f 1 = .int .i64 kind
  | 2, f, _ => f 2 = .string it
  | 3, f, _ => f 3 = .string (it ++ (⟨#[58]⟩ : ByteArray))
  | 4, f, _ => f 4 = .pointer (some ⟨p, 1, none⟩)
  | 5, f, _ => f 5 = .string text
  | 6, f, _ => f 6 = .string (it ++ (⟨#[58]⟩ : ByteArray) ++ text)
  | 8, f, _ => f 8 = .int .i64 ((sbytes it text).size : Nat)
  | 9, f, _ => f 9 = .int .i64 0
  | _, _, _ => True
theorem M2_w {kind : Int} {it text : ByteArray} {p : Nat} (j : Nat) {f : Nat → Value} {W : World} (W' : World) (h : M2 kind it text p j f W) : M2 kind it text p j f W' := by
  rcases j with _ | _ | _ | _ | _ | _ | _ | _ | _ | _ | j <;> exact h
structure I2 (w0 : World) (it text : ByteArray) (L : Array Bool) (f : Nat → Value) (W : World) : Prop where
  bel : Below w0.heap.size w0 W
  row : L.getD 7 false = true → ∃ q cap, f 7 = .slice (some ⟨q, 0, none⟩) (sbytes it text).size cap ∧ ∀ j, j < (sbytes it text).size → W.cell? ⟨q, j, none⟩ = some (.int .u8 ((sbytes it text).data.toList.getD j 0).toNat)
theorem I2.pure {w0 : World} {it text : ByteArray} {L : Array Bool} {f : Nat → Value} {W W' : World} (h : I2 w0 it text L f W) (hb : Below W.heap.size W W') (hL : L.size = 10) {i : Nat} (hi : i < 10) (h7 : i ≠ 7) (v : Value) : I2 w0 it text (L.setIfInBounds i true) (updF f i v) W' := by
  have k7 : (L.setIfInBounds i true).getD 7 false = L.getD 7 false := by rw [getDs (by omega)]; simp [Ne.symm h7]
  refine ⟨h.bel.trans (hb.mono h.bel.size), ?_⟩
  rw [k7, updF_other f v (Ne.symm h7)]
  intro l
  obtain ⟨q, cap, e, hc⟩ := h.row l
  exact ⟨q, cap, e, fun j hj => (hb.cell (p := ⟨q, j, none⟩) (World.block_lt_of_cell? W _ (hc j hj))).trans (hc j hj)⟩
theorem I2.conv {w0 : World} {it text : ByteArray} {L : Array Bool} {f : Nat → Value} {W : World} (h : I2 w0 it text L f W) (hL : L.size = 10) (cap : Nat) : I2 w0 it text (L.setIfInBounds 7 true) (updF f 7 (.slice (some ⟨W.heap.size, 0, none⟩) (sbytes it text).size cap)) (Lib.bytesWorld W 5 (sbytes it text)) := by
  refine ⟨bytes_below h.bel h.bel.size _ _, fun _ => ⟨W.heap.size, cap, updF_same _ _ _, fun j hj => Lib.bytesWorld_cell W 5 _ j hj⟩⟩

set_option maxRecDepth 100000 in
set_option maxHeartbeats 1000000 in
theorem region2 (kind : Int) (it text : ByteArray) (hs1 : it.size + 1 ≤ 9223372036854775807) (hs2 : it.size + 1 + text.size ≤ 9223372036854775807) (w0 : World) (p : Nat)
    (hp0 : w0.cell? ⟨p, 0, none⟩ = some (.int .i64 kind)) (hp1 : w0.cell? ⟨p, 1, none⟩ = some (.string text))
    (HI : ∀ W, Below w0.heap.size w0 W → Calls Tryd.prog 43 #[.int .i64 kind] W fun e w' => e = .returned (.string it) ∧ Below W.heap.size W w')
    (b : Array Value) (hb : b.size = 27) (b1 : b.getD 1 undef = .pointer (some ⟨p, 0, none⟩)) (Q : Exit → Act → World → Prop) (w : World) (hw : Below w0.heap.size w0 w)
    (hend : ∀ (f : Nat → Value) (W : World) (q cap : Nat), f 7 = .slice (some ⟨q, 0, none⟩) (sbytes it text).size cap → f 8 = .int .i64 ((sbytes it text).size : Nat) → f 9 = .int .i64 0 → (∀ j, j < (sbytes it text).size → W.cell? ⟨q, j, none⟩ = some (.int .u8 ((sbytes it text).data.toList.getD j 0).toNat)) → Below w0.heap.size w0 W → Q .normal ⟨setAll f 0 ds2 b, []⟩ W) :
    (Code.region 2 ops2 true).wp Tryd.prog Q ⟨b, []⟩ w := by
  have hs3 : ¬ (9223372036854775807 < it.size + 1) := by omega
  have hs4 : ¬ (9223372036854775807 < it.size + 1 + text.size) := by omega
  have HIT := Lib.hid HI
  clear HI hs1 hs2
  refine wp_region_M (by kernel_rfl) (by kernel_rfl) ds2 (by kernel_rfl) (by rw [hb]; decide) (by kernel_rfl) (M2 kind it text p) (I2 w0 it text) deps2 (by kernel_rfl) ?_ ?_ ?_ (fun L f W hL hall hI hM => ?_)
  · intro j f f' W h hm
    rcases j with _ | _ | _ | _ | _ | _ | _ | _ | _ | _ | j
    all_goals simp only [deps2, List.mem_cons, List.not_mem_nil, or_false, forall_eq, forall_eq_or_imp, M2, Nat.zero_add, Nat.reduceAdd] at h hm ⊢
    all_goals first | trivial | (rw [← h]; exact hm) | (simp only [← h]; exact hm)
  · refine ⟨hw.drew, ?_⟩; intro e; exact absurd e (by simp [Array.getD])
  · intro i o L f a' W ho hs hI hM hf hpre hbs hsl hdc K hK
    have hL : L.size = 10 := hs
    have hi : i < 10 := (Array.getElem?_eq_some_iff.1 ho).1
    conv at ho => lhs; arg 1; whnf
    have hjlt : ∀ j, L.getD j false = true → j < 10 := fun j hj => by
      rw [← hL]
      by_cases hlt : j < L.size
      · exact hlt
      · simp [Array.getD, hlt] at hj
    have nb : ∀ s, (∀ j : Nat, j < 10 → ds2[j]? ≠ some (some s)) → a'.tmps.getD s undef = b.getD s undef := fun s hs => hbs s (fun j hj => hs j (hjlt j hj))
    have s1 := (nb 1 (by decide)).trans b1
    have HK := Lib.hid hK
    have c0 := (hI.bel.cell (p := ⟨p, 0, none⟩) (World.block_lt_of_cell? _ _ hp0)).trans hp0
    have c1 := (hI.bel.cell (p := ⟨p, 1, none⟩) (World.block_lt_of_cell? _ _ hp1)).trans hp1
    clear hK nb b1 hp0 hp1
    rcases i with _ | _ | _ | _ | _ | _ | _ | _ | _ | _ | i
    -- operation 0
    · simp only [List.getElem?_toArray, List.getElem?_cons_zero, List.getElem?_cons_succ, Option.some.injEq] at ho
      subst ho
      simp only [Nat.zero_add, Nat.reduceAdd] at hf hpre ⊢
      have s1' : a'.tmps[1]?.getD undef = .pointer (some ⟨p, 0, none⟩) := by rw [← Array.getD_eq_getD_getElem?]; exact s1
      have HQ := Lib.hid (HK.out (.pointer (some ⟨p, 0, none⟩)) W (hI.pure (Below.refl _ _) hL (by omega) (by omega) _) (fun _ _ _ h => h) (by simp [M2, updF_same]))
      clear hI hM hpre hsl HK hbs hdc
      go_simp
      exact HQ.out
    -- operation 1
    · simp only [List.getElem?_toArray, List.getElem?_cons_zero, List.getElem?_cons_succ, Option.some.injEq] at ho
      subst ho
      simp only [Nat.zero_add, Nat.reduceAdd] at hf hpre ⊢
      have l0 := (hpre ⟨0, .data⟩ (by simp) rfl)
      have q0 := (hsl 0 6 l0 rfl).trans (hM 0 l0)
      have q0' : a'.tmps[6]?.getD undef = .pointer (some ⟨p, 0, none⟩) := by rw [← Array.getD_eq_getD_getElem?]; exact q0
      have HQ := Lib.hid (HK.out (.int .i64 kind) W (hI.pure (Below.refl _ _) hL (by omega) (by omega) _) (fun _ _ _ h => h) (by simp [M2, updF_same]))
      clear hI hM hpre hsl HK hbs hdc
      go_simp
      exact HQ.out
    -- operation 2
    · simp only [List.getElem?_toArray, List.getElem?_cons_zero, List.getElem?_cons_succ, Option.some.injEq] at ho
      subst ho
      simp only [Nat.zero_add, Nat.reduceAdd] at hf hpre ⊢
      have l1 := (hpre ⟨1, .data⟩ (by simp) rfl)
      have q1 := (hsl 1 7 l1 rfl).trans (hM 1 l1)
      have q1' : a'.tmps[7]?.getD undef = .int .i64 kind := by rw [← Array.getD_eq_getD_getElem?]; exact q1
      have HC := Lib.hid (HIT.out W hI.bel)
      go_simp
      refine HC.out.mono ?_
      rintro e w' ⟨rfl, hb'⟩
      exact HK.out _ _ (hI.pure hb' hL (by omega) (by omega) _) (fun j _ _ h => M2_w j _ h) (by simp [M2, updF_same])
    -- operation 3
    · simp only [List.getElem?_toArray, List.getElem?_cons_zero, List.getElem?_cons_succ, Option.some.injEq] at ho
      subst ho
      simp only [Nat.zero_add, Nat.reduceAdd] at hf hpre ⊢
      have l2 := (hpre ⟨2, .data⟩ (by simp) rfl)
      have q2 := (hsl 2 8 l2 rfl).trans (hM 2 l2)
      have q2' : a'.tmps[8]?.getD undef = .string it := by rw [← Array.getD_eq_getD_getElem?]; exact q2
      have HQ := Lib.hid (HK.out (.string (it ++ (⟨#[58]⟩ : ByteArray))) W (hI.pure (Below.refl _ _) hL (by omega) (by omega) _) (fun _ _ _ h => h) (by simp [M2, updF_same]))
      clear hI hM hpre hsl HK hbs hdc
      go_simp
      exact HQ.out
    -- operation 4
    · simp only [List.getElem?_toArray, List.getElem?_cons_zero, List.getElem?_cons_succ, Option.some.injEq] at ho
      subst ho
      simp only [Nat.zero_add, Nat.reduceAdd] at hf hpre ⊢
      have s1' : a'.tmps[1]?.getD undef = .pointer (some ⟨p, 0, none⟩) := by rw [← Array.getD_eq_getD_getElem?]; exact s1
      have HQ := Lib.hid (HK.out (.pointer (some ⟨p, 1, none⟩)) W (hI.pure (Below.refl _ _) hL (by omega) (by omega) _) (fun _ _ _ h => h) (by simp [M2, updF_same]))
      clear hI hM hpre hsl HK hbs hdc
      go_simp
      exact HQ.out
    -- operation 5
    · simp only [List.getElem?_toArray, List.getElem?_cons_zero, List.getElem?_cons_succ, Option.some.injEq] at ho
      subst ho
      simp only [Nat.zero_add, Nat.reduceAdd] at hf hpre ⊢
      have l4 := (hpre ⟨4, .data⟩ (by simp) rfl)
      have q4 := (hsl 4 10 l4 rfl).trans (hM 4 l4)
      have q4' : a'.tmps[10]?.getD undef = .pointer (some ⟨p, 1, none⟩) := by rw [← Array.getD_eq_getD_getElem?]; exact q4
      have HQ := Lib.hid (HK.out (.string text) W (hI.pure (Below.refl _ _) hL (by omega) (by omega) _) (fun _ _ _ h => h) (by simp [M2, updF_same]))
      clear hI hM hpre hsl HK hbs hdc
      go_simp
      exact HQ.out
    -- operation 6
    · simp only [List.getElem?_toArray, List.getElem?_cons_zero, List.getElem?_cons_succ, Option.some.injEq] at ho
      subst ho
      simp only [Nat.zero_add, Nat.reduceAdd] at hf hpre ⊢
      have l3 := (hpre ⟨3, .data⟩ (by simp) rfl)
      have q3 := (hsl 3 9 l3 rfl).trans (hM 3 l3)
      have q3' : a'.tmps[9]?.getD undef = .string (it ++ (⟨#[58]⟩ : ByteArray)) := by rw [← Array.getD_eq_getD_getElem?]; exact q3
      have l5 := (hpre ⟨5, .data⟩ (by simp) rfl)
      have q5 := (hsl 5 11 l5 rfl).trans (hM 5 l5)
      have q5' : a'.tmps[11]?.getD undef = .string text := by rw [← Array.getD_eq_getD_getElem?]; exact q5
      have HQ := Lib.hid (HK.out (.string (it ++ (⟨#[58]⟩ : ByteArray) ++ text)) W (hI.pure (Below.refl _ _) hL (by omega) (by omega) _) (fun _ _ _ h => h) (by simp [M2, updF_same]))
      clear hI hM hpre hsl HK hbs hdc
      go_simp
      exact HQ.out
    -- operation 7
    · simp only [List.getElem?_toArray, List.getElem?_cons_zero, List.getElem?_cons_succ, Option.some.injEq] at ho
      subst ho
      simp only [Nat.zero_add, Nat.reduceAdd] at hf hpre ⊢
      have l6 := (hpre ⟨6, .data⟩ (by simp) rfl)
      have q6 := (hsl 6 12 l6 rfl).trans (hM 6 l6)
      have q6' : a'.tmps[12]?.getD undef = .string (it ++ (⟨#[58]⟩ : ByteArray) ++ text) := by rw [← Array.getD_eq_getD_getElem?]; exact q6
      have hr := Lib.run_convert_string_bytes (P := Tryd.prog) W 9 72 5 (sbytes it text) Tryd.underlying9 Tryd.underlying72 Tryd.underlying5
      have HQ := Lib.hid (fun cap => HK.out (.slice (some ⟨W.heap.size, 0, none⟩) (sbytes it text).size cap) _ (hI.conv hL cap) (fun j _ _ h => M2_w j _ h) trivial)
      clear hI hM hpre hsl HK hbs hdc
      unfold sbytes at hr HQ
      have hz : (it ++ (⟨#[58]⟩ : ByteArray) ++ text).size = it.size + 1 + text.size := by rw [ByteArray.size_append, ByteArray.size_append]; rfl
      rw [hz] at hr
      simp only [hz] at HQ
      go_simp
      exact HQ.out _
    -- operation 8
    · simp only [List.getElem?_toArray, List.getElem?_cons_zero, List.getElem?_cons_succ, Option.some.injEq] at ho
      subst ho
      simp only [Nat.zero_add, Nat.reduceAdd] at hf hpre ⊢
      have l7 := (hpre ⟨7, .data⟩ (by simp) rfl)
      obtain ⟨q, cap, e7, _⟩ := hI.row l7
      have q7 := (hsl 7 13 l7 rfl).trans e7
      have q7' : a'.tmps[13]?.getD undef = .slice (some ⟨q, 0, none⟩) (sbytes it text).size cap := by rw [← Array.getD_eq_getD_getElem?]; exact q7
      have HQ := Lib.hid (HK.out (.int .i64 ((sbytes it text).size : Nat)) W (hI.pure (Below.refl _ _) hL (by omega) (by omega) _) (fun _ _ _ h => h) (by simp [M2, updF_same]))
      clear hI hM hpre hsl HK hbs hdc
      go_simp
      exact HQ.out
    -- operation 9
    · simp only [List.getElem?_toArray, List.getElem?_cons_zero, List.getElem?_cons_succ, Option.some.injEq] at ho
      subst ho
      simp only [Nat.zero_add, Nat.reduceAdd] at hf hpre ⊢
      have HQ := Lib.hid (HK.out (.int .i64 0) W (hI.pure (Below.refl _ _) hL (by omega) (by omega) _) (fun _ _ _ h => h) (by simp [M2, updF_same]))
      clear hI hM hpre hsl HK hbs hdc
      go_simp
      exact HQ.out
    · omega
  · obtain ⟨q, cap, e, hc⟩ := hI.row (hall 7 (by show 7 < ops2.size; rw [show ops2.size = 10 from rfl]; omega))
    exact hend f W q cap e (hM 8 (by rw [show ops2.size = 10 from rfl]; omega)) (hM 9 (by rw [show ops2.size = 10 from rfl]; omega)) hc hI.bel
end Go.Proofs.YtpkjiimcoepjpaaDoor

namespace Go.Proofs.YtpkjiimcoepjpaaDoor
set_option linter.unusedVariables false
set_option linter.unusedSimpArgs false
open Go.RowKit Go.Proofs.YtpkjiimcoepjpaaDoorW.PrintWords

/-- one byte more -/
def stepS (s : Int) (c : UInt8) : Int := Go.bits .xor .u32 s (((c.toNat : Nat) : Int) % 4294967296) * 16777619 % 4294967296
theorem stepS_bd (l : List UInt8) : ∀ s : Int, 0 ≤ s → s < 4294967296 → 0 ≤ l.foldl stepS s ∧ l.foldl stepS s < 4294967296 := by
  induction l with
  | nil => intro s h0 h1; exact ⟨h0, h1⟩
  | cons c l ih => intro s _ _; exact ih _ (Int.emod_nonneg _ (by decide)) (Int.emod_lt_of_pos _ (by decide))
def symS (l : List UInt8) : Int := l.foldl stepS 2166136261

set_option maxRecDepth 100000 in
set_option maxHeartbeats 4000000 in
theorem symbolW (kind pos fin : Int) (text : ByteArray) (A : Option Addr) (nk ck : Nat) (it : ByteArray) (hs1 : it.size + 1 ≤ 9223372036854775807) (hs2 : it.size + 1 + text.size ≤ 9223372036854775807) (w : World)
    (HI : ∀ W, Below w.heap.size w W → Calls Tryd.prog 43 #[.int .i64 kind] W fun e w' => e = .returned (.string it) ∧ Below W.heap.size W w') :
    Calls Tryd.prog 32 #[.agg #[.int .i64 kind, .string text, .int .i64 pos, .int .i64 fin, .slice A nk ck]] w fun e w' => e = .returned (.int .i64 (symS (sbytes it text).data.toList)) ∧ Below w.heap.size w w' := by
  obtain ⟨w1, hw1⟩ : ∃ w1, w.alloc (.cells #[.int .i64 kind, .string text, .int .i64 pos, .int .i64 fin, .slice A nk ck] 24) = w1 := ⟨_, rfl⟩
  have hh : w1.heap[w.heap.size]? = some (.cells #[.int .i64 kind, .string text, .int .i64 pos, .int .i64 fin, .slice A nk ck] 24 (0, 0)) := by rw [← hw1]; exact heap_alloc_new _ _
  have hb1 : Below w.heap.size w w1 := by rw [← hw1]; exact (Below.refl _ _).alloc (Nat.le_refl _) _
  have HIT := Lib.hid HI
  have HB1 := Lib.hid hb1
  have HH := Lib.hid hh
  clear HI hh hb1
  go_enter Tryd.func32, Tryd.ntmps32
  go_wp2_with fail
  refine region2 kind it text hs1 hs2 w1 w.heap.size (by simp [World.cell?, HH.out]) (by simp [World.cell?, HH.out]) (fun W hW => HIT.out W (HB1.out.trans (hW.mono HB1.out.size))) _ (by rfl) (by rfl) _ w1 (Below.refl _ _) ?_
  intro f W q cap e7 e8 e9 hc hbel
  simp only [ds2, setAll, List.setIfInBounds_toArray, List.set_cons_zero, List.set_cons_succ, Nat.zero_add, Nat.reduceAdd]
  rw [e7, e8, e9]
  have HC := Lib.hid hc
  have HW := Lib.hid (HB1.out.trans (hbel.mono HB1.out.size))
  have hsz : (sbytes it text).size ≤ 9223372036854775807 := by unfold sbytes; rw [ByteArray.size_append, ByteArray.size_append]; exact hs2
  obtain ⟨S, hS⟩ : ∃ S, sbytes it text = S := ⟨_, rfl⟩
  rw [hS] at HC hsz ⊢
  have HS := Lib.hid hS
  clear hS e7 e8 e9 hc hbel hw1
  go_wp2_with fail
  go_loopw [3, 15] (fun s c wr => ∃ i : Nat, c = .int .i64 (i : Nat) ∧ i ≤ S.size ∧ s = .int .u32 ((S.data.toList.take i).foldl stepS 2166136261) ∧ wr = W) (fun _ c _ => S.size - (intOf c).toNat)
  case atStart => exact ⟨0, rfl, Nat.zero_le _, rfl, rfl⟩
  case round =>
    obtain ⟨i, rfl, hi, rfl, rfl⟩ := hrel
    by_cases hlt : i < S.size
    · have c0 := HC.out i hlt
      have hiI : (i : Int) < (S.size : Int) := by omega
      go_wp2_with fail
      go_roundw
      case rel =>
        refine ⟨i + 1, by go_num, by omega, ?_, trivial⟩
        rw [List.take_succ_eq_append_getElem (by rw [Array.length_toList]; exact hlt), List.foldl_append]
        rfl
      case measure => simp [intOf]; omega
    · obtain rfl : i = S.size := by omega
      rw [List.take_of_length_le (by rw [Array.length_toList]; exact Nat.le_refl _)]
      have hbd := stepS_bd S.data.toList 2166136261 (by decide) (by decide)
      obtain ⟨R, hR⟩ : ∃ R, S.data.toList.foldl stepS 2166136261 = R := ⟨_, rfl⟩
      rw [hR] at hbd ⊢
      have HR := Lib.hid hR
      clear hR
      go_wp2_with fail
      go_ret
      refine ⟨?_, HW.out⟩
      show Ending.returned (.int .i64 R) = _
      rw [HS.out, ← HR.out]
      rfl
end Go.Proofs.YtpkjiimcoepjpaaDoor

namespace Go.Proofs.YtpkjiimcoepjpaaDoor
set_option linter.unusedVariables false
set_option linter.unusedSimpArgs false
open Go.RowKit Go.Proofs.YtpkjiimcoepjpaaDoorW.PrintWords
open PFingerprintSymbols (S24 z24 rd_T24 k24 k24_mk)

/-! ### trees -/
inductive Nd where
  | mk (kind : Int) (text : ByteArray) (pos fin : Int) (kids : List Nd)
namespace Nd
def kind : Nd → Int | .mk k _ _ _ _ => k
def text : Nd → ByteArray | .mk _ t _ _ _ => t
def pos : Nd → Int | .mk _ _ a _ _ => a
def fin : Nd → Int | .mk _ _ _ e _ => e
def kids : Nd → List Nd | .mk _ _ _ _ l => l
mutual
def size : Nd → Nat | .mk _ _ _ _ l => 1 + sizes l
def sizes : List Nd → Nat | [] => 0 | t :: ts => size t + sizes ts
end
theorem size_eq (t : Nd) : t.size = 1 + sizes t.kids := by cases t; simp [size, kids]
theorem sizes_nil : sizes [] = 0 := by simp [sizes]
theorem sizes_cons (t : Nd) (ts : List Nd) : sizes (t :: ts) = t.size + sizes ts := by simp [sizes]
theorem sizes_append (a b : List Nd) : sizes (a ++ b) = sizes a + sizes b := by
  induction a with
  | nil => simp [sizes_nil]
  | cons t ts ih => simp [sizes_cons, ih]; omega
theorem size_pos (t : Nd) : 0 < t.size := by rw [size_eq]; omega
theorem size_le_of_mem {t : Nd} {l : List Nd} (h : t ∈ l) : t.size ≤ sizes l := by
  induction l with
  | nil => cases h
  | cons u us ih =>
    rw [sizes_cons]
    rcases List.mem_cons.1 h with rfl | h
    · omega
    · have := ih h; omega
theorem size_kid {t k : Nd} (h : k ∈ t.kids) : k.size < t.size := by
  have := size_le_of_mem h; rw [size_eq t]; omega
theorem size_get (t : Nd) (i : Nat) (h : i < t.kids.length) : (t.kids[i]).size < t.size := size_kid (List.getElem_mem h)
/-- The five cells of a node whose kids lie at A. -/
def cells (t : Nd) (A : Option Addr) (c : Nat) : List Value := [.int .i64 t.kind, .string t.text, .int .i64 t.pos, .int .i64 t.fin, .slice A t.kids.length c]
def val (t : Nd) (A : Option Addr) (c : Nat) : Value := .agg #[.int .i64 t.kind, .string t.text, .int .i64 t.pos, .int .i64 t.fin, .slice A t.kids.length c]
end Nd

/-- The five cells of a node at b, o. -/
structure At5 (w : World) (b o : Nat) (t : Nd) (A : Option Addr) (c : Nat) : Prop where
  c0 : w.cell? ⟨b, o, none⟩ = some (.int .i64 t.kind)
  c1 : w.cell? ⟨b, o + 1, none⟩ = some (.string t.text)
  c2 : w.cell? ⟨b, o + 2, none⟩ = some (.int .i64 t.pos)
  c3 : w.cell? ⟨b, o + 3, none⟩ = some (.int .i64 t.fin)
  c4 : w.cell? ⟨b, o + 4, none⟩ = some (.slice A t.kids.length c)

/-- The kids of t lie at A: each node's cells, and its own kids. -/
inductive RN (w : World) : Nd → Option Addr → Nat → Prop where
  | mk (t : Nd) (b o : Nat) (c : Nat) (As : Nat → Option Addr) (cs : Nat → Nat) (hc : t.kids.length ≤ c) (hm : t.kids.length ≤ 9223372036854775807)
      (hcell : ∀ (i : Nat) (h : i < t.kids.length), At5 w b (o + i * 5) (t.kids[i]) (As i) (cs i))
      (hsub : ∀ (i : Nat) (h : i < t.kids.length), RN w (t.kids[i]) (As i) (cs i)) : RN w t (some ⟨b, o, none⟩) c
  | nil (t : Nd) (c : Nat) (A : Option Addr) (h : t.kids = []) : RN w t A c

theorem At5.lt {w : World} {b o : Nat} {t : Nd} {A : Option Addr} {c : Nat} (h : At5 w b o t A c) : b < w.heap.size := World.block_lt_of_cell? w _ h.c0
theorem At5.keep {w w1 : World} {b o : Nat} {t : Nd} {A : Option Addr} {c : Nat} (h : At5 w b o t A c) {B : Nat} (hb : Below B w w1) (hB : b < B) : At5 w1 b o t A c :=
  ⟨(hb.cell (p := ⟨b, _, none⟩) hB).trans h.c0, (hb.cell (p := ⟨b, _, none⟩) hB).trans h.c1, (hb.cell (p := ⟨b, _, none⟩) hB).trans h.c2, (hb.cell (p := ⟨b, _, none⟩) hB).trans h.c3, (hb.cell (p := ⟨b, _, none⟩) hB).trans h.c4⟩
theorem RN.keep {w w1 : World} (hb : Below w.heap.size w w1) {t : Nd} {A : Option Addr} {c : Nat} (h : RN w t A c) : RN w1 t A c := by
  induction h with
  | mk t b o c As cs hc hm hcell _ ih => exact .mk t b o c As cs hc hm (fun i hi => (hcell i hi).keep hb (hcell i hi).lt) ih
  | nil t c A h => exact .nil t c A h
theorem RN.len {w : World} {t : Nd} {A : Option Addr} {c : Nat} (h : RN w t A c) : t.kids.length ≤ 9223372036854775807 := by
  cases h with
  | mk _ _ _ _ _ _ _ hm => exact hm
  | nil _ _ _ h => rw [h]; simp
theorem RN.get {w : World} {t : Nd} {A : Option Addr} {c : Nat} (h : RN w t A c) (i : Nat) (hi : i < t.kids.length) :
    ∃ b o A' c', A = some ⟨b, o, none⟩ ∧ At5 w b (o + i * 5) (t.kids[i]) A' c' ∧ RN w (t.kids[i]) A' c' := by
  cases h with
  | mk _ b o _ As cs _ _ hcell hsub => exact ⟨b, o, As i, cs i, rfl, hcell i hi, hsub i hi⟩
  | nil _ _ _ h => rw [h] at hi; simp at hi
def cells5 (t : Nd) (A : Option Addr) (c : Nat) : List Value := [.int .i64 t.kind, .string t.text, .int .i64 t.pos, .int .i64 t.fin, .slice A t.kids.length c]
theorem At5.cell {w : World} {b o : Nat} {t : Nd} {A : Option Addr} {c : Nat} (h : At5 w b o t A c) (j : Nat) (hj : j < 5) : w.cell? ⟨b, o + j, none⟩ = (cells5 t A c)[j]? := by
  obtain ⟨h0, h1, h2, h3, h4⟩ := h
  match j, hj with
  | 0, _ => exact h0
  | 1, _ => exact h1
  | 2, _ => exact h2
  | 3, _ => exact h3
  | 4, _ => exact h4
theorem At5.of {W : World} {b : Nat} {t : Nd} {A : Option Addr} {c : Nat} (h : W.heap[b]? = some (.cells (cells5 t A c).toArray 24 (0, 0))) : At5 W b 0 t A c := by
  have hc : ∀ o v, (cells5 t A c)[o]? = some v → W.cell? ⟨b, o, none⟩ = some v := fun o v e => by
    unfold World.cell?; rw [h]; simpa using e
  exact ⟨hc _ _ rfl, hc _ _ rfl, hc _ _ rfl, hc _ _ rfl, hc _ _ rfl⟩

theorem sizes_take_succ (l : List Nd) (k : Nat) (h : k < l.length) : Nd.sizes (l.take (k + 1)) = Nd.sizes (l.take k) + (l[k]).size := by
  rw [List.take_succ_eq_append_getElem h, Nd.sizes_append]; simp [Nd.sizes_cons, Nd.sizes_nil]
theorem sizes_take_le (l : List Nd) (k : Nat) : Nd.sizes (l.take k) ≤ Nd.sizes l := by
  conv => rhs; rw [← List.take_append_drop k l]
  rw [Nd.sizes_append]; omega

def toSN : Nat → Nd → S24
  | 0, t => ⟨t.kind, t.text, t.pos, t.fin, []⟩
  | n + 1, t => ⟨t.kind, t.text, t.pos, t.fin, t.kids.map (toSN n)⟩
theorem toSN_stable (n : Nat) : ∀ (m : Nat) (t : Nd), t.size ≤ n → t.size ≤ m → toSN n t = toSN m t := by
  induction n with
  | zero => intro m t h; have := t.size_pos; omega
  | succ n ih =>
    intro m t h h2
    cases m with
    | zero => have := t.size_pos; omega
    | succ m =>
      simp only [toSN]
      congr 1
      refine List.map_congr_left fun k hk => ?_
      have := Nd.size_kid hk
      exact ih m k (by omega) (by omega)
def toS (t : Nd) : S24 := toSN t.size t
theorem toS_eq (t : Nd) : toS t = ⟨t.kind, t.text, t.pos, t.fin, t.kids.map toS⟩ := by
  unfold toS
  have hp := t.size_pos
  obtain ⟨n, hn⟩ : ∃ n, t.size = n + 1 := ⟨t.size - 1, by omega⟩
  rw [hn]
  simp only [toSN]
  congr 1
  refine List.map_congr_left fun k hk => ?_
  have := Nd.size_kid hk
  exact toSN_stable _ _ k (by omega) (Nat.le_refl _)
theorem kidsN_le {w : World} {t : Nd} {A : Option Addr} {c : Nat} (h : RN w t A c) : t.kids.length ≤ c := by
  rcases h with ⟨_, b, o, _, As, cs, hc, hm, hcell, hsub⟩ | ⟨_, _, _, h⟩
  · exact hc
  · rw [h]; exact Nat.zero_le _
theorem kK {w : World} {t : Nd} {A : Option Addr} {c : Nat} (h2 : t.kids.length ≤ c) (h1 : Kd.C k24 w A t.kids.length (t.kids.map toS)) : k24.K w (toS t) (cells5 t A c) := by
  rw [toS_eq]
  have h3 := k24_mk w ⟨t.kind, t.text, t.pos, t.fin, t.kids.map toS⟩ (A4 := A) (c4 := c) (by simpa using h2) (by simpa using h1)
  simp only [List.length_map] at h3
  exact h3
theorem kc {w : World} {t : Nd} {A : Option Addr} {c : Nat} (h : RN w t A c) : Kd.C k24 w A t.kids.length (t.kids.map toS) := by
  induction h with
  | mk t b o c As cs hc hm hcell hsub ih =>
    refine ⟨by rw [List.length_map], hm, fun _ => ⟨⟨b, o, none⟩, rfl, fun j p hp => ?_⟩⟩
    rw [List.getElem?_map] at hp
    obtain ⟨k, hk, rfl⟩ := Option.map_eq_some_iff.1 hp
    obtain ⟨hj, rfl⟩ := List.getElem?_eq_some_iff.1 hk
    refine ⟨cells5 t.kids[j] (As j) (cs j), rfl, ?_, fun i u hu => ?_⟩
    · exact kK (kidsN_le (hsub j hj)) (ih j hj)
    · have hi : i < 5 := (List.getElem?_eq_some_iff.1 hu).1
      have h1 := (hcell j hj).cell i hi
      rw [Go.WideShapes.add_plain, ← Nat.add_assoc]
      exact h1.trans hu
  | nil t c A h =>
    rw [h]
    exact ⟨rfl, by simp, fun h => by simp at h⟩

end Go.Proofs.YtpkjiimcoepjpaaDoor

namespace Go.Proofs.YtpkjiimcoepjpaaDoor
set_option linter.unusedVariables false
set_option linter.unusedSimpArgs false
open Go.RowKit Go.Proofs.YtpkjiimcoepjpaaDoorW.PrintWords

def itB (k : Int) : ByteArray := ⟨(Lib.itoa k).toArray⟩
/-- a node's symbol -/
def symN (t : Nd) : Int := symS (sbytes (itB t.kind) t.text).data.toList
def symsN : Nat → Nd → List Int
  | 0, _ => []
  | n + 1, t => symN t :: t.kids.flatMap (symsN n) ++ (if t.kids.length = 0 then [] else [0])
theorem symsN_stable (n : Nat) : ∀ (m : Nat) (t : Nd), t.size ≤ n → t.size ≤ m → symsN n t = symsN m t := by
  induction n with
  | zero => intro m t h; have := t.size_pos; omega
  | succ n ih =>
    intro m t h h2
    cases m with
    | zero => have := t.size_pos; omega
    | succ m =>
      simp only [symsN]
      congr 2
      rw [List.flatMap_def, List.flatMap_def]
      congr 1
      refine List.map_congr_left fun k hk => ?_
      have := Nd.size_kid hk
      exact ih m k (by omega) (by omega)
def syms (t : Nd) : List Int := symsN t.size t
theorem syms_eq (t : Nd) : syms t = symN t :: t.kids.flatMap syms ++ (if t.kids.length = 0 then [] else [0]) := by
  unfold syms
  have hp := t.size_pos
  obtain ⟨n, hn⟩ : ∃ n, t.size = n + 1 := ⟨t.size - 1, by omega⟩
  rw [hn]
  simp only [symsN]
  congr 2
  rw [List.flatMap_def, List.flatMap_def]
  congr 1
  refine List.map_congr_left fun k hk => ?_
  have := Nd.size_kid hk
  exact symsN_stable _ _ k (by omega) (Nat.le_refl _)
theorem flat_len (l : List Nd) (h : ∀ k ∈ l, (syms k).length ≤ 2 * k.size) : (l.flatMap syms).length ≤ 2 * Nd.sizes l := by
  induction l with
  | nil => simp
  | cons a l ih =>
    rw [List.flatMap_cons, List.length_append, Nd.sizes_cons]
    have h1 := h a (by simp)
    have h2 := ih (fun k hk => h k (by simp [hk]))
    omega
theorem syms_len (n : Nat) : ∀ t : Nd, t.size ≤ n → (syms t).length ≤ 2 * t.size := by
  induction n with
  | zero => intro t h; have := t.size_pos; omega
  | succ n ih =>
    intro t h
    have h1 := flat_len t.kids (fun k hk => ih k (by have := Nd.size_kid hk; omega))
    rw [syms_eq, t.size_eq]
    rw [List.length_append, List.length_cons]
    split
    · rw [List.length_nil]; omega
    · rw [List.length_cons, List.length_nil]; omega
theorem syms_pos (t : Nd) : 0 < (syms t).length := by rw [syms_eq]; simp
/-- each node's kind and text may be told -/
inductive AllK (P : Int → Prop) : Nd → Prop where
  | mk (t : Nd) (hk : P t.kind) (hs : (itB t.kind).size + 1 + t.text.size ≤ 9223372036854775807) (hsub : ∀ k ∈ t.kids, AllK P k) : AllK P t
theorem AllK.top {P : Int → Prop} {t : Nd} (h : AllK P t) : P t.kind ∧ (itB t.kind).size + 1 + t.text.size ≤ 9223372036854775807 ∧ ∀ k ∈ t.kids, AllK P k := by
  cases h with
  | mk _ h1 h2 h3 => exact ⟨h1, h2, h3⟩
/-- Itoa's contract in every later world -/
def ItOk (P : Int → Prop) (w0 : World) : Prop := ∀ (k : Int), P k → ∀ W, Below w0.heap.size w0 W → Calls Tryd.prog 43 #[.int .i64 k] W fun e w' => e = .returned (.string (itB k)) ∧ Below W.heap.size W w'

set_option maxRecDepth 100000 in
set_option maxHeartbeats 4000000 in
theorem SymbolsW (P : Int → Prop) (w0 : World) (HI : ItOk P w0) (n : Nat) : ∀ (t : Nd) (A : Option Addr) (c : Nat) (w : World), t.size ≤ n → t.size ≤ 1000000 → AllK P t → RN w0 t A c → Below w0.heap.size w0 w →
    Calls Tryd.prog 15 #[t.val A c] w fun e w' => (∃ g cap, e = .returned (.slice (some ⟨g, 0, none⟩) (syms t).length cap) ∧ OwR w' w.heap.size (.slice (some ⟨g, 0, none⟩) (syms t).length cap) (syms t)) ∧ Below w.heap.size w w' := by
  induction n with
  | zero => intro t A c w h; have := t.size_pos; omega
  | succ n ih =>
    intro t A c w hn hsz hall hR0 hB0
    have IH := Lib.hid ih
    have HR0 := Lib.hid hR0
    have HB0 := Lib.hid hB0
    have HALL := Lib.hid hall.top
    have hse := Lib.hid t.size_eq
    have hkl : t.kids.length ≤ 1000000 := by
      have : ∀ l : List Nd, l.length ≤ Nd.sizes l := by
        intro l
        induction l with
        | nil => simp
        | cons a l ih => rw [Nd.sizes_cons, List.length_cons]; have := a.size_pos; omega
      have := this t.kids
      have := t.size_eq
      omega
    have HSY := Lib.hid (fun W (hW : Below w.heap.size w W) => symbolW t.kind t.pos t.fin t.text A t.kids.length c (itB t.kind) (by have := hall.top.2.1; omega) hall.top.2.1 W (fun V hV => HI t.kind hall.top.1 V ((hB0.trans (hW.mono hB0.size)).trans (hV.mono (Nat.le_trans hB0.size hW.size)))))
    obtain ⟨i3, hi3, hz0, hz1, hz2⟩ := info_parts inf3
    clear ih hR0 hB0 hall
    unfold Nd.val
    go_enter Tryd.func15, Tryd.ntmps15
    go_wp2_with fail
    obtain ⟨w1, hw1⟩ : ∃ w1, w.alloc (.cells #[.int .i64 t.kind, .string t.text, .int .i64 t.pos, .int .i64 t.fin, .slice A t.kids.length c] 24) = w1 := ⟨_, rfl⟩
    rw [hw1]
    have hh : w1.heap[w.heap.size]? = some (.cells (cells5 t A c).toArray 24 (0, 0)) := by rw [← hw1]; exact heap_alloc_new _ _
    have hb1 : Below w.heap.size w w1 := by rw [← hw1]; exact (Below.refl _ _).alloc (Nat.le_refl _) _
    have hwz1 : w1.heap.size = w.heap.size + 1 := by rw [← hw1]; simp
    have HB1 := Lib.hid hb1
    have HH := Lib.hid (show ∀ W, Below w1.heap.size w1 W → At5 W w.heap.size 0 t A c from fun W h => At5.of ((h.block _ (hltW hh)).trans hh))
    clear hw1 hh hb1
    refine (HSY.out w1 HB1.out).mono ?_
    rintro e w2 ⟨rfl, hb2⟩
    have HB2 := Lib.hid hb2
    obtain ⟨d0, d1, d2, d3, d4⟩ := HH.out w2 hb2
    obtain ⟨w3, hw3⟩ : ∃ w3, w2.alloc (.cells #[.int .i64 (symN t)] 3) = w3 := ⟨_, rfl⟩
    have hn3 : w3.heap[w2.heap.size]? = some (.cells #[.int .i64 (symN t)] 3 (0, 0)) := by rw [← hw3]; exact heap_alloc_new _ _
    have hb3 : Below w2.heap.size w2 w3 := by rw [← hw3]; exact (Below.refl _ _).alloc (Nat.le_refl _) _
    have hb13 : Below w1.heap.size w1 w3 := hb2.trans (hb3.mono hb2.size)
    have h2z := hb2.size
    have hw3' : w2.alloc (.cells #[.int .i64 (symS (sbytes (itB t.kind) t.text).data.toList)] 3) = w3 := hw3
    have HN3 := Lib.hid (And.intro hn3 hb13)
    obtain ⟨d0', d1', d2', d3', d4'⟩ := HH.out w3 hb13
    clear hw3 hn3 hb3 hb13 hb2
    go_wp2_with fail
    go_loopw [3, 12] (fun v s wr => ∃ (i m g cap : Nat), s = .int .i64 (i : Nat) ∧ v = .slice (some ⟨g, 0, none⟩) m cap ∧ i ≤ t.kids.length ∧ m ≤ 2 * t.size ∧ Hid (m = (symN t :: (t.kids.take i).flatMap syms).length) ∧ Hid (wr.ownsRow w.heap.size 3 1 (.slice (some ⟨g, 0, none⟩) m cap) m (ints (symN t :: (t.kids.take i).flatMap syms)) ∧ Below w.heap.size w wr ∧ At5 wr w.heap.size 0 t A c ∧ g ≠ w.heap.size)) (fun _ s _ => t.kids.length - (intOf s).toNat)
    case atStart =>
      have hp := t.size_pos
      refine ⟨0, 1, w2.heap.size, 1, rfl, rfl, Nat.zero_le _, by omega, Lib.hid (by simp), Lib.hid ⟨⟨rfl, .inr ⟨w2.heap.size, 1, _, rfl, by omega, HN3.out.1, Nat.le_refl _, by simp [maxLen], rfl, rfl⟩⟩, HB1.out.trans (HN3.out.2.mono HB1.out.size), HH.out w3 HN3.out.2, by omega⟩⟩
    case round =>
      clear d0 d1 d2 d3 d4 d0' d1' d2' d3' d4' hw3' HN3
      obtain ⟨i, m, g, cap, rfl, rfl, hi, hm, HM, H⟩ := hrel
      obtain ⟨d0, d1, d2, d3, d4⟩ := H.out.2.2.1
      have hbw : Below w0.heap.size w0 wr := HB0.out.trans (H.out.2.1.mono HB0.out.size)
      by_cases hlt : i < t.kids.length
      · obtain ⟨b, o, A', c', rfl, hcell, hrk⟩ := HR0.out.get i hlt
        obtain ⟨r0, r1, r2, r3, r4⟩ := hcell.keep hbw hcell.lt
        obtain ⟨k, hk⟩ : ∃ k, t.kids[i] = k := ⟨_, rfl⟩
        have hkm : k ∈ t.kids := by rw [← hk]; exact List.getElem_mem _
        have hks := Nd.size_kid hkm
        have hts := sizes_take_succ t.kids i hlt
        have htl := sizes_take_le t.kids (i + 1)
        rw [hk] at r0 r1 r2 r3 r4 hrk hts
        have hse2 := hse.out
        have hfl := flat_len (t.kids.take i) (fun k _ => syms_len _ k (Nat.le_refl _))
        have hkl2 := syms_len _ k (Nat.le_refl _)
        have hkp := syms_pos k
        have hmv := HM.out
        rw [List.length_cons] at hmv
        have hmk : m + (syms k).length ≤ 2 * t.size := by omega
        have hb24 : Below wr.heap.size wr (wr.alloc (.cells #[.int .i64 k.kind, .string k.text, .int .i64 k.pos, .int .i64 k.fin, .slice A' k.kids.length c'] 24)) := (Below.refl _ _).alloc (Nat.le_refl _) _
        have HC := Lib.hid (IH.out k A' c' _ (by omega) (by omega) (HALL.out.2.2 k hkm) hrk (hbw.trans (hb24.mono hbw.size)))
        have HB24 := Lib.hid hb24
        have HKI := Lib.hid hk
        have hwz := H.out.2.1.size
        unfold Nd.val at HC
        clear hcell hrk hts htl hse2 hfl hkl2 hmv hbw hb24 hk hkm hks
        have hm9 : m ≤ 2000000 := by omega
        have hmk9 : m + (syms k).length ≤ 2000000 := by omega
        go_wp2_with fail
        refine HC.out.mono ?_
        rintro e w5 ⟨⟨g2, cap2, rfl, hown2⟩, hb5⟩
        have hb05 : Below wr.heap.size wr w5 := HB24.out.trans (hb5.mono HB24.out.size)
        have ho5 := ownKeep H.out.1 hb05
        have hc5 := fun j (hj : j < (syms k).length) => hown2.cellAt j (by omega)
        have H5 := Lib.hid (And.intro ho5 (And.intro hc5 hb05))
        have hsz5 : w.heap.size ≤ w5.heap.size := Nat.le_trans hwz hb05.size
        clear hb5 hb05 ho5 hc5 hown2 r0 r1 r2 r3 r4 d0 d1 d2 d3 d4 HC
        go_wp2_with (at_builtin; refine wpList_append_lies _ rfl _ _ 25 rfl w.heap.size 3 i3 _ 1 8 Tryd.underlying25 hi3 hz0 hz1 hz2 rfl (by decide) (.slice (some ⟨g, 0, none⟩) m cap) m (ints (symN t :: (t.kids.take i).flatMap syms)) (by rfl) ?hown ⟨g2, 0, none⟩ (syms k).length cap2 (ints (syms k)) (by rfl) ?hlen ?hnews ?hone hkp ?h63 ?hby ?hbase w5.heap.size rfl ?_)
        case hown => exact H5.out.1
        case hlen => simp [ints]
        case hnews =>
          intro j u hu
          have hj : j < (syms k).length := by have := (List.getElem?_eq_some_iff.1 hu).1; simpa [ints] using this
          rw [Go.WideShapes.add_plain, Nat.zero_add]
          exact (H5.out.2.1 j hj).trans hu
        case hone =>
          intro u hu
          unfold ints at hu
          obtain ⟨x, _, rfl⟩ := List.mem_map.1 hu
          rfl
        case h63 => unfold maxLen; omega
        case hby => omega
        case hbase => exact hsz5
        intro g' cap' w6 hown6 hgrow hat hglt
        have HX := Lib.hid (And.intro hown6 (And.intro hgrow hat))
        clear hown6 hgrow hat
        go_wp2_with fail
        go_roundw
        case rel =>
          obtain ⟨hown6, hgrow, hat⟩ := HX.out
          have hl : symN t :: (t.kids.take (i + 1)).flatMap syms = (symN t :: (t.kids.take i).flatMap syms) ++ syms k := by
            rw [List.take_succ_eq_append_getElem hlt, List.flatMap_append, HKI.out]; simp
          have hgl := H5.out.1.lt g rfl
          have hb6 : Below w.heap.size w w6 := (H.out.2.1.trans (H5.out.2.2.mono hwz)).grown hgrow hsz5 (fun q hq => (H5.out.1.lt q hq).1)
          have hbox : w6.heap[w.heap.size]? = wr.heap[w.heap.size]? := by
            have hlt0 := World.block_lt_of_cell? wr _ H.out.2.2.1.1
            rw [hgrow.block _ (Nat.lt_of_lt_of_le hlt0 H5.out.2.2.size) (fun e => H.out.2.2.2 (by injection e with e; exact e.symm)), H5.out.2.2.block _ hlt0]
          refine ⟨i + 1, m + (syms k).length, g', cap', by go_num, rfl, by omega, by omega, Lib.hid (by rw [hl, List.length_append, ← HM.out]), Lib.hid ⟨?_, hb6, ?_, ?_⟩⟩
          · rw [hl]; unfold ints; rw [List.map_append]; exact hown6
          · obtain ⟨x0, x1, x2, x3, x4⟩ := H.out.2.2.1
            exact ⟨(World.cell?_of_block hbox).trans x0, (World.cell?_of_block hbox).trans x1, (World.cell?_of_block hbox).trans x2, (World.cell?_of_block hbox).trans x3, (World.cell?_of_block hbox).trans x4⟩
          · have hlt0 := World.block_lt_of_cell? wr _ H.out.2.2.1.1
            rcases hat with e | e
            · have e2 : g = g' := by simpa [Value.ownBlock] using e
              intro h; exact H.out.2.2.2 (e2.trans h)
            · have h3 := H5.out.2.2.size
              have h4 : w.heap.size < wr.heap.size := hlt0
              omega
        case measure => simp [intOf]; omega
      · obtain rfl : i = t.kids.length := by omega
        rw [List.take_length] at HM H
        have hwz := H.out.2.1.size
        have hlt0 := World.block_lt_of_cell? wr _ H.out.2.2.1.1
        have hm9 : m ≤ 2000000 := by omega
        by_cases hk0 : t.kids.length = 0
        · have hs : syms t = symN t :: t.kids.flatMap syms := by rw [syms_eq, if_pos hk0, List.append_nil]
          have HS := Lib.hid hs
          have hkI : ((t.kids.length : Nat) : Int) = 0 := by omega
          have hd : decide (((t.kids.length : Nat) : Int) > 0) = false := by rw [decide_eq_false_iff_not]; omega
          clear hs hlt
          go_wp2_with fail
          go_ret
          have hl : (syms t).length = m := by rw [HS.out, HM.out]
          refine ⟨⟨g, cap, by rw [hl]; rfl, ?_⟩, H.out.2.1⟩
          unfold OwR
          rw [hl, HS.out]
          exact H.out.1
        · have hs : syms t = (symN t :: t.kids.flatMap syms) ++ [0] := by rw [syms_eq, if_neg hk0]
          have HS := Lib.hid hs
          have hd : decide (((t.kids.length : Nat) : Int) > 0) = true := by rw [decide_eq_true_iff]; omega
          have hkI : (0 : Int) < ((t.kids.length : Nat) : Int) := by omega
          obtain ⟨w7, hw7⟩ : ∃ w7, wr.alloc (.cells #[.int .i64 0] 3) = w7 := ⟨_, rfl⟩
          have hn7 : w7.heap[wr.heap.size]? = some (.cells #[.int .i64 0] 3 (0, 0)) := by rw [← hw7]; exact heap_alloc_new _ _
          have hb7 : Below wr.heap.size wr w7 := by rw [← hw7]; exact (Below.refl _ _).alloc (Nat.le_refl _) _
          have H7 := Lib.hid (And.intro hn7 (And.intro hb7 (ownKeep H.out.1 hb7)))
          have hs7 := hb7.size
          clear hs hlt hn7 hb7
          go_wp2_with (at_builtin; refine wpList_append_lies _ rfl _ _ 25 rfl w.heap.size 3 i3 _ 1 8 Tryd.underlying25 hi3 hz0 hz1 hz2 rfl (by decide) (.slice (some ⟨g, 0, none⟩) m cap) m (ints (symN t :: t.kids.flatMap syms)) (by rfl) ?hown ⟨wr.heap.size, 0, none⟩ 1 1 [.int .i64 0] (by rfl) rfl ?hnews (by simp [Value.oneCell']) (by omega) ?h63 ?hby ?hbase w7.heap.size rfl ?_)
          case hown => exact H7.out.2.2
          case hnews =>
            intro j u hu
            have hj : j = 0 := by have := (List.getElem?_eq_some_iff.1 hu).1; simp at this; exact this
            subst hj
            try rw [Go.WideShapes.add_plain]
            have := H7.out.1
            simp [World.cell?, this] at hu ⊢
            exact hu
          case h63 => unfold maxLen; omega
          case hby => omega
          case hbase => omega
          intro g' cap' w8 hown8 hgrow hat hglt
          have HX := Lib.hid (And.intro hown8 hgrow)
          clear hown8 hgrow hat
          go_wp2_with fail
          go_ret
          have hl : (syms t).length = m + 1 := by rw [HS.out, HM.out, List.length_append]; rfl
          refine ⟨⟨g', cap', by rw [hl]; rfl, ?_⟩, (H.out.2.1.trans (H7.out.2.1.mono hwz)).grown HX.out.2 (by omega) (fun q hq => (H.out.1.lt q hq).1)⟩
          unfold OwR
          rw [hl, HS.out]
          have := HX.out.1
          unfold ints at this ⊢
          rw [List.map_append]
          exact this
end Go.Proofs.YtpkjiimcoepjpaaDoor
