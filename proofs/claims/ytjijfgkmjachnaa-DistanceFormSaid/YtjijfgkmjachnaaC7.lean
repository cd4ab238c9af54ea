/- Seat 37, texts merged: the walk of Bound. Lemmas for the laws of chapter 37; no conditions of their own beyond what each states. -/
import Derived.Test.YtjijfgkmjachnaaC6
import Derived.DeepKeys4
import Derived.WideKeyEntry
import Derived.Maps.OwnOps
import Derived.Test.YtjijfgkmjachnaaC5
namespace Go.Proofs.Ytjijfgkmjachnaa
set_option linter.unusedVariables false
set_option linter.unusedSimpArgs false
open Go.RowKit Go.Maps

theorem pos_of {m n : Nat} (h : m < n) : ∃ k, n = k + 1 := ⟨n - 1, by omega⟩
theorem laidOut : laidOutB Try.prog = true := by kernel_rfl
theorem row70 : (70 : TypeId) < Try.prog.types.size := of_decide_eq_true (by kernel_rfl)
theorem wide70 : (match Try.prog.underlying 70 with | some (.array _ _) | some (.struct _) => true | _ => false) = true := by kernel_rfl
set_option maxRecDepth 100000 in
theorem law70 : WideMaps.KeyLaw Try.prog 70 := deep_law_laid laidOut (m := 3) (by omega) row70 (by kernel_rfl) wide70
theorem keyed70 : Keyed Try.prog 70 := Keyed.of_law law70

def labL (k : Int) (s : ByteArray) : Lit := .string (keyBytes [.int .i64 k, .string s.data.toList])
theorem keyType70 : Try.prog.keyType 70 = true := by kernel_rfl
theorem cellsOf70 : Try.prog.cellsOf 70 = 2 := by kernel_rfl
theorem key70 (k : Int) (s : ByteArray) (hk : (Lit.int .i64 k).wf = true) (hs : s.size ≤ maxLen) : keyOf Try.prog 70 (.agg #[.int .i64 k, .string s]) = some (labL k s) := by
  unfold keyOf
  rw [Try.underlying70]
  simp only [keyType70, Value.formed, Try.underlying70, cellsOf70]
  obtain ⟨n, hn⟩ : ∃ n, Try.prog.types.size = n + 1 := pos_of row70
  rw [hn]
  have u3 := Try.underlying3
  have u9 := Try.underlying9
  have c3 : Try.prog.cellsOf 3 = 1 := by kernel_rfl
  have c9 : Try.prog.cellsOf 9 = 1 := by kernel_rfl
  simp [Program.keyLits, Try.underlying70, cellsOf70, Value.cells, u3, u9, c3, c9, hk, hs, labL]
end Go.Proofs.Ytjijfgkmjachnaa

namespace Go.Proofs.Ytjijfgkmjachnaa
set_option linter.unusedVariables false
set_option linter.unusedSimpArgs false
open Go.RowKit Go.Maps Go.ChangeMaps

abbrev CM (W : World) (b n : Nat) (D : DataW Nat) : Prop := W.ownsMap Try.prog 70 (plainElem Try.prog 3) b n D

theorem ownsMap_at {W W' : World} {b n : Nat} {D : DataW Nat} (h : CM W b n D) {es : Array MapEntry} {c : Nat} (h1 : W.heap[b]? = some (.map es c)) (h2 : W'.heap[b]? = some (.map es c)) : CM W' b n D := by
  obtain ⟨es', c', hb, F, hs, hD⟩ := h
  rw [h1] at hb
  simp only [Option.some.injEq, Obj.map.injEq] at hb
  obtain ⟨rfl, rfl⟩ := hb
  exact ⟨_, _, h2, F, hs, hD⟩
theorem setBlock_at {W : World} {b : Nat} (h : b < W.heap.size) (o : Obj) : (setBlock W b o).heap[b]? = some o := by simp [setBlock, h]
theorem wf0 : (Lit.int .i64 0).wf = true := by decide

theorem bump {W : World} {b n : Nat} {D : DataW Nat} (h : CM W b n D) {key : Value} {kl : Lit} (hkey : keyOf Try.prog 70 key = some kl) (hn : n < maxLen) :
    ∃ (c : Int) (v0 : Value) (st : Nat) (es1 : Array MapEntry) (clock1 : Nat), (Instr.lookup 68 (.map (some b)) key false).run Try.prog W = .ok (.int .i64 c) W ∧ D.atKey kl (.lit (.int .i64 0)) = .lit (.int .i64 c) ∧ (Lit.int .i64 c).wf = true ∧
      (Instr.mapEntry 68 (.map (some b)) key).run Try.prog W = .ok (.tuple #[v0, .int .i64 st]) (setBlock W b (.map es1 clock1)) ∧
      (∀ W1 : World, W1.heap[b]? = some (.map es1 clock1) → (Instr.lookup 68 (.map (some b)) key false).run Try.prog W1 = .ok (.int .i64 c) W1) ∧
      ∀ (W2 : World) (val : Int), (Lit.int .i64 val).wf = true → W2.heap[b]? = some (.map es1 clock1) →
        ∃ es' clock', (Instr.entryStore 68 (.map (some b)) (.int .i64 st) (.int .i64 val)).run Try.prog W2 = .ok () (setBlock W2 b (.map es' clock')) ∧ CM (setBlock W2 b (.map es' clock')) b (n + 1) (D.put kl (.lit (.int .i64 val))) := by
  obtain ⟨c, hlk, hat, hwc⟩ := World.ownsMap.lookup_int h keyed70 Try.underlying68 Try.underlying3 (Try.zeroValue3 W) hkey
  have hup := fun val (hv : (Lit.int .i64 val).wf = true) => World.ownsMap.update (t := 68) (e := 3) h keyed70 Try.underlying68 hn hkey (plainElem_int Try.underlying3 hv)
  have hown := h
  obtain ⟨es, clock, hb, F, hs, hD⟩ := h
  have hlt : b < W.heap.size := (Array.getElem?_eq_some_iff.1 hb).1
  obtain ⟨v0, st, es1, clock1, hrun, _, hst⟩ := WideElems.entry_then_store law70 Try.underlying68 (z := .int .i64 0) Try.zeroValue3 hb F hkey
  refine ⟨c, v0, st, es1, clock1, hlk, hat, hwc, hrun, fun W1 hW1 => ?_, fun W2 val hv hW2 => ?_⟩
  · rcases law70.find W hkey es.toList F.keys with ⟨h1, h2⟩ | ⟨j, e0, h1, h2, h3⟩
    · have hr2 : (Instr.mapEntry 68 (.map (some b)) key).run Try.prog W = .ok (.tuple #[.int .i64 0, goInt clock]) (setBlock W b (.map (es.push ⟨key, .int .i64 0, clock⟩) (clock + 1))) := by
        simp [Instr.mapEntry, run_underlying Try.underlying68, MapKept.run_getObj_map hb, law70.check W false hkey, h1, Try.zeroValue3, MapKept.run_setObj_map _ hb, Result.andThen, setBlock]
      rw [hr2] at hrun
      have e1 := congrArg (fun r => match r with | Result.ok _ w => w.heap[b]? | _ => none) hrun
      simp only [setBlock_at hlt, Option.some.injEq, Obj.map.injEq] at e1
      obtain ⟨rfl, rfl⟩ := e1
      have hlk0 : c = 0 := by
        have : (Instr.lookup 68 (.map (some b)) key false).run Try.prog W = .ok (.int .i64 0) W := by
          simp [Instr.lookup, run_underlying Try.underlying68, MapKept.run_getObj_map hb, law70.check W _ hkey, h1, Try.zeroValue3, Result.andThen]
        rw [this] at hlk
        simpa using hlk.symm
      have hkeys : ∀ e ∈ (es.push ⟨key, .int .i64 0, clock⟩).toList, ∃ l, keyOf Try.prog 70 e.key = some l := by
        intro e he
        simp only [Array.toList_push, List.mem_append, List.mem_singleton] at he
        rcases he with he | rfl
        · exact F.keys e he
        · exact ⟨kl, hkey⟩
      rcases law70.find W1 hkey _ hkeys with ⟨_, g2⟩ | ⟨j, e, g1, g2, g3⟩
      · exact absurd rfl (g2 ⟨key, .int .i64 0, clock⟩ (by simp))
      · have hv : e.val = .int .i64 0 := by
          have hm := List.mem_of_getElem? g2
          simp only [Array.toList_push, List.mem_append, List.mem_singleton] at hm
          rcases hm with hm | rfl
          · exact absurd g3 (h2 e hm)
          · rfl
        rw [hlk0, ← hv]
        rw [Array.toList_push] at g1
        simp [Instr.lookup, run_underlying Try.underlying68, MapKept.run_getObj_map hW1, law70.check W1 _ hkey, g1, Result.andThen]
    · have hj : es[j]? = some e0 := by simpa using h2
      have hsame : es.modify j (fun e => { e with key := key }) = es := by
        apply Array.ext'
        rw [Array.toList_modify, modify_eq_set _ _ _ _ h2]
        have : ({ e0 with key := key } : MapEntry) = e0 := by rw [← h3]
        rw [this]
        exact WideElems.set_self _ _ _ h2
      have hr2 : (Instr.mapEntry 68 (.map (some b)) key).run Try.prog W = .ok (.tuple #[e0.val, goInt e0.born]) (setBlock W b (.map es clock)) := by
        simp [Instr.mapEntry, run_underlying Try.underlying68, MapKept.run_getObj_map hb, law70.check W false hkey, h1, hj, h3, law70.stays W hkey, hsame, MapKept.run_setObj_map _ hb, Result.andThen, setBlock]
      rw [hr2] at hrun
      have e1 := congrArg (fun r => match r with | Result.ok _ w => w.heap[b]? | _ => none) hrun
      simp only [setBlock_at hlt, Option.some.injEq, Obj.map.injEq] at e1
      obtain ⟨rfl, rfl⟩ := e1
      obtain ⟨c', hlk', hat', _⟩ := World.ownsMap.lookup_int (ownsMap_at hown hb hW1) keyed70 Try.underlying68 Try.underlying3 (Try.zeroValue3 W1) hkey
      rw [hat] at hat'
      have : c = c' := by simpa using hat'
      rw [this]
      exact hlk'
  · obtain ⟨es', clock', g1, g2⟩ := hst W2 (.int .i64 val) hW2
    refine ⟨es', clock', g1, ?_⟩
    obtain ⟨W', u1, u2, _⟩ := hup val hv
    rw [u1] at g2
    simp only [Result.ok.injEq, true_and] at g2
    rw [g2] at u2
    exact ownsMap_at u2 (setBlock_at hlt _) (setBlock_at (Array.getElem?_eq_some_iff.1 hW2).1 _)
end Go.Proofs.Ytjijfgkmjachnaa

namespace Go.Proofs.Ytjijfgkmjachnaa
set_option linter.unusedVariables false
set_option linter.unusedSimpArgs false
open Go.RowKit Go.Maps

abbrev Lab := Int × List UInt8
def labOf (t : Nd) : Lab := (t.kind, t.text.data.toList)
def LabP (p : Lab) : Prop := (Lit.int .i64 p.1).wf = true ∧ p.2.length ≤ maxLen
def labs (t : Nd) : List Lab := (post t 0 0).map fun e => labOf e.1
def LabW (t : Nd) : Prop := ∀ p ∈ labs t, LabP p
theorem labs_len (t : Nd) : (labs t).length = t.size := by simp [labs, post_len]
theorem labs_get (t : Nd) (i : Nat) (h : i < t.size) : (labs t)[i]'(by rw [labs_len]; exact h) = labOf (nd (post t 0 0) i) := by
  have : i < (post t 0 0).length := by rw [post_len]; exact h
  simp [labs, nd, ent, List.getD, this]

/-- how many of ys are in xs, each used once -/
def com : List Lab → List Lab → Nat
  | _, [] => 0
  | xs, y :: ys => if y ∈ xs then com (xs.erase y) ys + 1 else com xs ys
/-- what is left -/
def rest : List Lab → List Lab → List Lab
  | xs, [] => xs
  | xs, y :: ys => if y ∈ xs then rest (xs.erase y) ys else rest xs ys
theorem rest_append : ∀ (ys zs xs : List Lab), rest xs (ys ++ zs) = rest (rest xs ys) zs
  | [], zs, xs => rfl
  | y :: ys, zs, xs => by
    simp only [List.cons_append, rest]
    split
    · exact rest_append ys zs _
    · exact rest_append ys zs _
theorem com_append : ∀ (ys zs xs : List Lab), com xs (ys ++ zs) = com xs ys + com (rest xs ys) zs
  | [], zs, xs => by simp [com, rest]
  | y :: ys, zs, xs => by
    simp only [List.cons_append, com, rest]
    split
    · rw [com_append ys zs]; omega
    · exact com_append ys zs _
theorem com_le : ∀ (ys xs : List Lab), com xs ys ≤ ys.length
  | [], xs => by simp [com]
  | y :: ys, xs => by
    simp only [com, List.length_cons]
    split
    · have := com_le ys (xs.erase y); omega
    · have := com_le ys xs; omega

theorem rest_le : ∀ (ys xs : List Lab), (rest xs ys).length ≤ xs.length
  | [], xs => Nat.le_refl _
  | y :: ys, xs => by
    simp only [rest]
    split
    · have := rest_le ys (xs.erase y); have h2 := List.length_erase_le (a := y) (l := xs); omega
    · exact rest_le ys xs

def labK (p : Lab) : Lit := .string (keyBytes [.int .i64 p.1, .string p.2])
theorem key_lab (t : Nd) (h : LabP (labOf t)) : keyOf Try.prog 70 (.agg #[.int .i64 t.kind, .string t.text]) = some (labK (labOf t)) :=
  key70 t.kind t.text h.1 (by have := h.2; simpa [labOf] using this)
theorem labK_inj {p q : Lab} (hp : LabP p) (hq : LabP q) (h : labK p = labK q) : p = q := by
  have h1 := key70 p.1 ⟨p.2.toArray⟩ hp.1 (by have := hp.2; simpa [ByteArray.size] using this)
  have h2 := key70 q.1 ⟨q.2.toArray⟩ hq.1 (by have := hq.2; simpa [ByteArray.size] using this)
  have e : labL p.1 ⟨p.2.toArray⟩ = labL q.1 ⟨q.2.toArray⟩ := by simpa [labL, labK] using h
  rw [← e] at h2
  have := keyed70.inj h1 h2
  simp at this
  exact Prod.ext this.1 (by simpa using this.2)
def CntD (D : DataW Nat) (zs : List Lab) : Prop := ∀ p, LabP p → D.atKey (labK p) (.lit (.int .i64 0)) = .lit (.int .i64 (zs.count p : Nat))
theorem CntD.put {D : DataW Nat} {zs zs' : List Lab} {p : Lab} {v : Int} (h : CntD D zs) (hD : IsMap D) (hp : LabP p) (hv : v = (zs'.count p : Nat)) (ho : ∀ q, q ≠ p → zs'.count q = zs.count q) :
    CntD (D.put (labK p) (.lit (.int .i64 v))) zs' := by
  intro q hq
  by_cases e : q = p
  · subst e
    rw [atKey_put_same hD (by simp [labK, WideAt.IsKeyLit]), hv]
  · rw [atKey_put_other (fun e' => e (labK_inj hq hp e')), h q hq, ho q e]

theorem setBlock_below {W : World} {b lo : Nat} (h : lo ≤ b) (o : Obj) : Below lo W (ChangeMaps.setBlock W b o) :=
  ⟨rfl, rfl, rfl, by simp [ChangeMaps.setBlock], fun k hk => by simp only [ChangeMaps.setBlock]; rw [Array.getElem?_setIfInBounds, if_neg (by omega)]⟩
end Go.Proofs.Ytjijfgkmjachnaa

namespace Go.Proofs.Ytjijfgkmjachnaa
set_option linter.unusedVariables false
set_option linter.unusedSimpArgs false
open Go.RowKit

noncomputable def ops15 : Array Oper := ((Try.f15.body.bind (firstReg 1)).getD #[])
def frm15 (x y : Value) (p q : Nat) (v5 v6 v13 v14 v15 v16 v17 v18 : Value) : Array Value := #[x, y, .pointer (some ⟨p, 0, none⟩), .pointer (some ⟨q, 0, none⟩), .int .i64 0, v5, v6, undef, undef, undef, undef, undef, undef, v13, v14, v15, v16, v17, v18, undef, undef, undef, undef, undef, undef, undef, undef, undef, undef, undef, undef, undef, undef, undef, undef, undef, undef, undef, undef, undef, undef, undef, undef, undef, undef, undef, undef, undef, undef, undef, undef, undef, undef, undef, undef, undef, undef, undef, undef]
def fst66 : Value → Value
  | .agg cs => cs.getD 0 undef
  | _ => undef
theorem fld66 (x1 x2 : Value) (A : Option Addr) (n c : Nat) (W : World) : (Instr.field 66 (.agg #[.slice A n c, x1, x2]) 0).run Try.prog W = .ok (.slice A n c) W := by kernel_rfl
theorem Fl.fld {W : World} {t : Nd} {v : Value} (h : Fl W t v) (W' : World) : (Instr.field 66 v 0).run Try.prog W' = .ok (fst66 v) W' := by
  obtain ⟨gL, gF, gN, cL, cF, cN, rfl, _⟩ := h
  exact fld66 _ _ _ _ _ _

structure R15 (C : X30) (L : Array Bool) (W : World) (v5 v6 v13 v14 v15 v16 v17 v18 : Value) : Prop where
  bel : Below C.w0.heap.size C.w0 W
  f0 : L.getD 0 false = true → v13 = C.a.val C.A C.cA
  f1 : L.getD 1 false = true → Fl W C.a v14
  f2 : L.getD 2 false = true → v15 = fst66 v14
  f3 : L.getD 3 false = true → v16 = C.b.val C.B C.cB
  f4 : L.getD 4 false = true → Fl W C.b v17
  f5 : L.getD 5 false = true → v18 = fst66 v17
  f6 : L.getD 6 false = true → v5 = v15
  f7 : L.getD 7 false = true → v6 = v18
  g2 : L.getD 2 false = true → L.getD 1 false = true
  g5 : L.getD 5 false = true → L.getD 4 false = true
  g6 : L.getD 6 false = true → L.getD 2 false = true
  g7 : L.getD 7 false = true → L.getD 5 false = true
def I15 (C : X30) (x y : Value) (L : Array Bool) (act : Act) (W : World) : Prop :=
  ∃ v5 v6 v13 v14 v15 v16 v17 v18, act = ⟨frm15 x y C.p C.q v5 v6 v13 v14 v15 v16 v17 v18, []⟩ ∧ R15 C L W v5 v6 v13 v14 v15 v16 v17 v18

theorem R15.grow {C : X30} {L : Array Bool} {W W' : World} {v5 v6 v13 v14 v15 v16 v17 v18 : Value} (h : R15 C L W v5 v6 v13 v14 v15 v16 v17 v18) (hb : Below W.heap.size W W') : R15 C L W' v5 v6 v13 v14 v15 v16 v17 v18 :=
  ⟨h.bel.trans (hb.mono h.bel.size), h.f0, fun l => (h.f1 l).below hb, h.f2, h.f3, fun l => (h.f4 l).below hb, h.f5, h.f6, h.f7, h.g2, h.g5, h.g6, h.g7⟩
theorem no_of {x y : Bool} (h : x = true → y = true) (hy : y = false) : x = false := by cases x with | false => rfl | true => (have := h rfl; rw [hy] at this; cases this)
theorem R15.s0 {C : X30} {L : Array Bool} {W : World} {v5 v6 v13 v14 v15 v16 v17 v18 : Value} (h : R15 C L W v5 v6 v13 v14 v15 v16 v17 v18) (hL : L.size = 8) (hi : L.getD 0 false = false) : R15 C (L.setIfInBounds 0 true) W v5 v6 (C.a.val C.A C.cA) v14 v15 v16 v17 v18 := by
  have hk : ∀ j, j ≠ 0 → (L.setIfInBounds 0 true).getD j false = L.getD j false := fun j hj => by rw [getD_set (by omega)]; simp [hj]
  have k1 := hk 1 (by omega)
  have k2 := hk 2 (by omega)
  have k3 := hk 3 (by omega)
  have k4 := hk 4 (by omega)
  have k5 := hk 5 (by omega)
  have k6 := hk 6 (by omega)
  have k7 := hk 7 (by omega)
  have k0 : (L.setIfInBounds 0 true).getD 0 false = true := by rw [getD_set (by omega)]; simp
  refine ⟨?_, ?_, ?_, ?_, ?_, ?_, ?_, ?_, ?_, ?_, ?_, ?_, ?_⟩ <;> try simp only [k0, k1, k2, k3, k4, k5, k6, k7]
  · first | exact h.bel | (intros; trivial)
  · first | exact fun _ => rfl | (intros; trivial)
  · first | exact h.f1 | (intros; trivial)
  · first | exact h.f2 | (intros; trivial)
  · first | exact h.f3 | (intros; trivial)
  · first | exact h.f4 | (intros; trivial)
  · first | exact h.f5 | (intros; trivial)
  · first | exact h.f6 | (intros; trivial)
  · first | exact h.f7 | (intros; trivial)
  · first | exact h.g2 | (intros; trivial)
  · first | exact h.g5 | (intros; trivial)
  · first | exact h.g6 | (intros; trivial)
  · first | exact h.g7 | (intros; trivial)

theorem R15.s3 {C : X30} {L : Array Bool} {W : World} {v5 v6 v13 v14 v15 v16 v17 v18 : Value} (h : R15 C L W v5 v6 v13 v14 v15 v16 v17 v18) (hL : L.size = 8) (hi : L.getD 3 false = false) : R15 C (L.setIfInBounds 3 true) W v5 v6 v13 v14 v15 (C.b.val C.B C.cB) v17 v18 := by
  have hk : ∀ j, j ≠ 3 → (L.setIfInBounds 3 true).getD j false = L.getD j false := fun j hj => by rw [getD_set (by omega)]; simp [hj]
  have k0 := hk 0 (by omega)
  have k1 := hk 1 (by omega)
  have k2 := hk 2 (by omega)
  have k4 := hk 4 (by omega)
  have k5 := hk 5 (by omega)
  have k6 := hk 6 (by omega)
  have k7 := hk 7 (by omega)
  have k3 : (L.setIfInBounds 3 true).getD 3 false = true := by rw [getD_set (by omega)]; simp
  refine ⟨?_, ?_, ?_, ?_, ?_, ?_, ?_, ?_, ?_, ?_, ?_, ?_, ?_⟩ <;> try simp only [k0, k1, k2, k3, k4, k5, k6, k7]
  · first | exact h.bel | (intros; trivial)
  · first | exact h.f0 | (intros; trivial)
  · first | exact h.f1 | (intros; trivial)
  · first | exact h.f2 | (intros; trivial)
  · first | exact fun _ => rfl | (intros; trivial)
  · first | exact h.f4 | (intros; trivial)
  · first | exact h.f5 | (intros; trivial)
  · first | exact h.f6 | (intros; trivial)
  · first | exact h.f7 | (intros; trivial)
  · first | exact h.g2 | (intros; trivial)
  · first | exact h.g5 | (intros; trivial)
  · first | exact h.g6 | (intros; trivial)
  · first | exact h.g7 | (intros; trivial)

theorem R15.s1 {C : X30} {L : Array Bool} {W : World} {v5 v6 v13 v14 v15 v16 v17 v18 : Value} (h : R15 C L W v5 v6 v13 v14 v15 v16 v17 v18) (hL : L.size = 8) {v : Value} (hv : Fl W C.a v) (hi : L.getD 1 false = false) : R15 C (L.setIfInBounds 1 true) W v5 v6 v13 v v15 v16 v17 v18 := by
  have hk : ∀ j, j ≠ 1 → (L.setIfInBounds 1 true).getD j false = L.getD j false := fun j hj => by rw [getD_set (by omega)]; simp [hj]
  have k0 := hk 0 (by omega)
  have k2 := hk 2 (by omega)
  have k3 := hk 3 (by omega)
  have k4 := hk 4 (by omega)
  have k5 := hk 5 (by omega)
  have k6 := hk 6 (by omega)
  have k7 := hk 7 (by omega)
  have k1 : (L.setIfInBounds 1 true).getD 1 false = true := by rw [getD_set (by omega)]; simp
  refine ⟨?_, ?_, ?_, ?_, ?_, ?_, ?_, ?_, ?_, ?_, ?_, ?_, ?_⟩ <;> try simp only [k0, k1, k2, k3, k4, k5, k6, k7]
  · first | exact h.bel | (intros; trivial)
  · first | exact h.f0 | (intros; trivial)
  · first | exact fun _ => hv | (intros; trivial)
  · first | (intro l; rw [no_of h.g2 hi] at l; cases l) | (intros; trivial)
  · first | exact h.f3 | (intros; trivial)
  · first | exact h.f4 | (intros; trivial)
  · first | exact h.f5 | (intros; trivial)
  · first | exact h.f6 | (intros; trivial)
  · first | exact h.f7 | (intros; trivial)
  · first | exact h.g2 | (intros; trivial)
  · first | exact h.g5 | (intros; trivial)
  · first | exact h.g6 | (intros; trivial)
  · first | exact h.g7 | (intros; trivial)

theorem R15.s4 {C : X30} {L : Array Bool} {W : World} {v5 v6 v13 v14 v15 v16 v17 v18 : Value} (h : R15 C L W v5 v6 v13 v14 v15 v16 v17 v18) (hL : L.size = 8) {v : Value} (hv : Fl W C.b v) (hi : L.getD 4 false = false) : R15 C (L.setIfInBounds 4 true) W v5 v6 v13 v14 v15 v16 v v18 := by
  have hk : ∀ j, j ≠ 4 → (L.setIfInBounds 4 true).getD j false = L.getD j false := fun j hj => by rw [getD_set (by omega)]; simp [hj]
  have k0 := hk 0 (by omega)
  have k1 := hk 1 (by omega)
  have k2 := hk 2 (by omega)
  have k3 := hk 3 (by omega)
  have k5 := hk 5 (by omega)
  have k6 := hk 6 (by omega)
  have k7 := hk 7 (by omega)
  have k4 : (L.setIfInBounds 4 true).getD 4 false = true := by rw [getD_set (by omega)]; simp
  refine ⟨?_, ?_, ?_, ?_, ?_, ?_, ?_, ?_, ?_, ?_, ?_, ?_, ?_⟩ <;> try simp only [k0, k1, k2, k3, k4, k5, k6, k7]
  · first | exact h.bel | (intros; trivial)
  · first | exact h.f0 | (intros; trivial)
  · first | exact h.f1 | (intros; trivial)
  · first | exact h.f2 | (intros; trivial)
  · first | exact h.f3 | (intros; trivial)
  · first | exact fun _ => hv | (intros; trivial)
  · first | (intro l; rw [no_of h.g5 hi] at l; cases l) | (intros; trivial)
  · first | exact h.f6 | (intros; trivial)
  · first | exact h.f7 | (intros; trivial)
  · first | exact h.g2 | (intros; trivial)
  · first | exact h.g5 | (intros; trivial)
  · first | exact h.g6 | (intros; trivial)
  · first | exact h.g7 | (intros; trivial)

theorem R15.s2 {C : X30} {L : Array Bool} {W : World} {v5 v6 v13 v14 v15 v16 v17 v18 : Value} (h : R15 C L W v5 v6 v13 v14 v15 v16 v17 v18) (hL : L.size = 8) (l1 : L.getD 1 false = true) (hi : L.getD 2 false = false) : R15 C (L.setIfInBounds 2 true) W v5 v6 v13 v14 (fst66 v14) v16 v17 v18 := by
  have hk : ∀ j, j ≠ 2 → (L.setIfInBounds 2 true).getD j false = L.getD j false := fun j hj => by rw [getD_set (by omega)]; simp [hj]
  have k0 := hk 0 (by omega)
  have k1 := hk 1 (by omega)
  have k3 := hk 3 (by omega)
  have k4 := hk 4 (by omega)
  have k5 := hk 5 (by omega)
  have k6 := hk 6 (by omega)
  have k7 := hk 7 (by omega)
  have k2 : (L.setIfInBounds 2 true).getD 2 false = true := by rw [getD_set (by omega)]; simp
  refine ⟨?_, ?_, ?_, ?_, ?_, ?_, ?_, ?_, ?_, ?_, ?_, ?_, ?_⟩ <;> try simp only [k0, k1, k2, k3, k4, k5, k6, k7]
  · first | exact h.bel | (intros; trivial)
  · first | exact h.f0 | (intros; trivial)
  · first | exact h.f1 | (intros; trivial)
  · first | exact fun _ => rfl | (intros; trivial)
  · first | exact h.f3 | (intros; trivial)
  · first | exact h.f4 | (intros; trivial)
  · first | exact h.f5 | (intros; trivial)
  · first | (intro l; rw [no_of h.g6 hi] at l; cases l) | (intros; trivial)
  · first | exact h.f7 | (intros; trivial)
  · first | exact fun _ => l1 | (intros; trivial)
  · first | exact h.g5 | (intros; trivial)
  · first | exact h.g6 | (intros; trivial)
  · first | exact h.g7 | (intros; trivial)

theorem R15.s5 {C : X30} {L : Array Bool} {W : World} {v5 v6 v13 v14 v15 v16 v17 v18 : Value} (h : R15 C L W v5 v6 v13 v14 v15 v16 v17 v18) (hL : L.size = 8) (l1 : L.getD 4 false = true) (hi : L.getD 5 false = false) : R15 C (L.setIfInBounds 5 true) W v5 v6 v13 v14 v15 v16 v17 (fst66 v17) := by
  have hk : ∀ j, j ≠ 5 → (L.setIfInBounds 5 true).getD j false = L.getD j false := fun j hj => by rw [getD_set (by omega)]; simp [hj]
  have k0 := hk 0 (by omega)
  have k1 := hk 1 (by omega)
  have k2 := hk 2 (by omega)
  have k3 := hk 3 (by omega)
  have k4 := hk 4 (by omega)
  have k6 := hk 6 (by omega)
  have k7 := hk 7 (by omega)
  have k5 : (L.setIfInBounds 5 true).getD 5 false = true := by rw [getD_set (by omega)]; simp
  refine ⟨?_, ?_, ?_, ?_, ?_, ?_, ?_, ?_, ?_, ?_, ?_, ?_, ?_⟩ <;> try simp only [k0, k1, k2, k3, k4, k5, k6, k7]
  · first | exact h.bel | (intros; trivial)
  · first | exact h.f0 | (intros; trivial)
  · first | exact h.f1 | (intros; trivial)
  · first | exact h.f2 | (intros; trivial)
  · first | exact h.f3 | (intros; trivial)
  · first | exact h.f4 | (intros; trivial)
  · first | exact fun _ => rfl | (intros; trivial)
  · first | exact h.f6 | (intros; trivial)
  · first | (intro l; rw [no_of h.g7 hi] at l; cases l) | (intros; trivial)
  · first | exact h.g2 | (intros; trivial)
  · first | exact fun _ => l1 | (intros; trivial)
  · first | exact h.g6 | (intros; trivial)
  · first | exact h.g7 | (intros; trivial)

theorem R15.s6 {C : X30} {L : Array Bool} {W : World} {v5 v6 v13 v14 v15 v16 v17 v18 : Value} (h : R15 C L W v5 v6 v13 v14 v15 v16 v17 v18) (hL : L.size = 8) (l1 : L.getD 2 false = true) (hi : L.getD 6 false = false) : R15 C (L.setIfInBounds 6 true) W v15 v6 v13 v14 v15 v16 v17 v18 := by
  have hk : ∀ j, j ≠ 6 → (L.setIfInBounds 6 true).getD j false = L.getD j false := fun j hj => by rw [getD_set (by omega)]; simp [hj]
  have k0 := hk 0 (by omega)
  have k1 := hk 1 (by omega)
  have k2 := hk 2 (by omega)
  have k3 := hk 3 (by omega)
  have k4 := hk 4 (by omega)
  have k5 := hk 5 (by omega)
  have k7 := hk 7 (by omega)
  have k6 : (L.setIfInBounds 6 true).getD 6 false = true := by rw [getD_set (by omega)]; simp
  refine ⟨?_, ?_, ?_, ?_, ?_, ?_, ?_, ?_, ?_, ?_, ?_, ?_, ?_⟩ <;> try simp only [k0, k1, k2, k3, k4, k5, k6, k7]
  · first | exact h.bel | (intros; trivial)
  · first | exact h.f0 | (intros; trivial)
  · first | exact h.f1 | (intros; trivial)
  · first | exact h.f2 | (intros; trivial)
  · first | exact h.f3 | (intros; trivial)
  · first | exact h.f4 | (intros; trivial)
  · first | exact h.f5 | (intros; trivial)
  · first | exact fun _ => rfl | (intros; trivial)
  · first | exact h.f7 | (intros; trivial)
  · first | exact h.g2 | (intros; trivial)
  · first | exact h.g5 | (intros; trivial)
  · first | exact fun _ => l1 | (intros; trivial)
  · first | exact h.g7 | (intros; trivial)

theorem R15.s7 {C : X30} {L : Array Bool} {W : World} {v5 v6 v13 v14 v15 v16 v17 v18 : Value} (h : R15 C L W v5 v6 v13 v14 v15 v16 v17 v18) (hL : L.size = 8) (l1 : L.getD 5 false = true) (hi : L.getD 7 false = false) : R15 C (L.setIfInBounds 7 true) W v5 v18 v13 v14 v15 v16 v17 v18 := by
  have hk : ∀ j, j ≠ 7 → (L.setIfInBounds 7 true).getD j false = L.getD j false := fun j hj => by rw [getD_set (by omega)]; simp [hj]
  have k0 := hk 0 (by omega)
  have k1 := hk 1 (by omega)
  have k2 := hk 2 (by omega)
  have k3 := hk 3 (by omega)
  have k4 := hk 4 (by omega)
  have k5 := hk 5 (by omega)
  have k6 := hk 6 (by omega)
  have k7 : (L.setIfInBounds 7 true).getD 7 false = true := by rw [getD_set (by omega)]; simp
  refine ⟨?_, ?_, ?_, ?_, ?_, ?_, ?_, ?_, ?_, ?_, ?_, ?_, ?_⟩ <;> try simp only [k0, k1, k2, k3, k4, k5, k6, k7]
  · first | exact h.bel | (intros; trivial)
  · first | exact h.f0 | (intros; trivial)
  · first | exact h.f1 | (intros; trivial)
  · first | exact h.f2 | (intros; trivial)
  · first | exact h.f3 | (intros; trivial)
  · first | exact h.f4 | (intros; trivial)
  · first | exact h.f5 | (intros; trivial)
  · first | exact h.f6 | (intros; trivial)
  · first | exact fun _ => rfl | (intros; trivial)
  · first | exact h.g2 | (intros; trivial)
  · first | exact h.g5 | (intros; trivial)
  · first | exact h.g6 | (intros; trivial)
  · first | exact fun _ => l1 | (intros; trivial)


set_option maxRecDepth 100000 in
set_option maxHeartbeats 4000000 in
theorem region15 (C : X30) (ok : C.Ok) (x y : Value) (Q : Exit → Act → World → Prop) (act : Act) (w : World) (h0 : I15 C x y (Array.replicate 8 false) act w.drew)
    (hend : ∀ L a' W, I15 C x y L a' W → (∀ i, i < 8 → L.getD i false = true) → Q .normal a' W) :
    (Code.region 1 ops15 true).wp Try.prog Q act w := by
  refine wp_region_inv (by kernel_rfl) (by kernel_rfl) (I15 C x y) h0 ?_ (fun L a' W hs hall hI => hend L a' W hI hall)
  intro i o L a W ho hs hI hf hpre
  obtain ⟨v5, v6, v13, v14, v15, v16, v17, v18, rfl, h⟩ := hI
  have hL : L.size = 8 := hs
  have hi : i < 8 := (Array.getElem?_eq_some_iff.1 ho).1
  conv at ho => lhs; arg 1; whnf
  have hp := h.bel
  have pa := At5.below ok.p5 hp
  have qa := At5.below ok.q5 hp
  obtain ⟨a0, a1, a2, a3, a4⟩ := pa
  obtain ⟨b0, b1, b2, b3, b4⟩ := qa
  rcases i with _ | _ | _ | _ | _ | _ | _ | _ | i
  · simp only [List.getElem?_toArray, List.getElem?_cons_zero, List.getElem?_cons_succ, Option.some.injEq] at ho
    subst ho
    simp only [Region.wanted, if_true, Nat.zero_add, Nat.reduceAdd] at hf hpre ⊢
    have HQ := Lib.hid (h.s0 hL hf)
    clear h hpre hp ok
    unfold frm15
    go_simp
    exact ⟨_, _, _, _, _, _, _, _, rfl, HQ.out⟩
  · simp only [List.getElem?_toArray, List.getElem?_cons_zero, List.getElem?_cons_succ, Option.some.injEq] at ho
    subst ho
    simp only [Region.wanted, if_true, Nat.zero_add, Nat.reduceAdd] at hf hpre ⊢
    have e := h.f0 (hpre ⟨0, .data⟩ (by simp) rfl)
    subst e
    unfold frm15
    go_simp
    refine (flattenF C.a C.A C.cA W (RN.keep hp ok.ra) ok.sa).mono ?_
    rintro e w' ⟨⟨v, rfl, hv⟩, hb⟩
    exact ⟨_, _, _, _, _, _, _, _, rfl, (h.grow hb).s1 hL hv hf⟩
  · simp only [List.getElem?_toArray, List.getElem?_cons_zero, List.getElem?_cons_succ, Option.some.injEq] at ho
    subst ho
    simp only [Region.wanted, if_true, Nat.zero_add, Nat.reduceAdd] at hf hpre ⊢
    have l1 : L.getD 1 false = true := hpre ⟨1, .data⟩ (by simp) rfl
    have hfl := (h.f1 l1).fld
    have HQ := Lib.hid (h.s2 hL l1 hf)
    clear h hpre hp ok
    unfold frm15
    go_simp
    exact ⟨_, _, _, _, _, _, _, _, rfl, HQ.out⟩
  · simp only [List.getElem?_toArray, List.getElem?_cons_zero, List.getElem?_cons_succ, Option.some.injEq] at ho
    subst ho
    simp only [Region.wanted, if_true, Nat.zero_add, Nat.reduceAdd] at hf hpre ⊢
    have HQ := Lib.hid (h.s3 hL hf)
    clear h hpre hp ok
    unfold frm15
    go_simp
    exact ⟨_, _, _, _, _, _, _, _, rfl, HQ.out⟩
  · simp only [List.getElem?_toArray, List.getElem?_cons_zero, List.getElem?_cons_succ, Option.some.injEq] at ho
    subst ho
    simp only [Region.wanted, if_true, Nat.zero_add, Nat.reduceAdd] at hf hpre ⊢
    have e := h.f3 (hpre ⟨3, .data⟩ (by simp) rfl)
    subst e
    unfold frm15
    go_simp
    refine (flattenF C.b C.B C.cB W (RN.keep hp ok.rb) ok.sb).mono ?_
    rintro e w' ⟨⟨v, rfl, hv⟩, hb⟩
    exact ⟨_, _, _, _, _, _, _, _, rfl, (h.grow hb).s4 hL hv hf⟩
  · simp only [List.getElem?_toArray, List.getElem?_cons_zero, List.getElem?_cons_succ, Option.some.injEq] at ho
    subst ho
    simp only [Region.wanted, if_true, Nat.zero_add, Nat.reduceAdd] at hf hpre ⊢
    have l1 : L.getD 4 false = true := hpre ⟨4, .data⟩ (by simp) rfl
    have hfl := (h.f4 l1).fld
    have HQ := Lib.hid (h.s5 hL l1 hf)
    clear h hpre hp ok
    unfold frm15
    go_simp
    exact ⟨_, _, _, _, _, _, _, _, rfl, HQ.out⟩
  · simp only [List.getElem?_toArray, List.getElem?_cons_zero, List.getElem?_cons_succ, Option.some.injEq] at ho
    subst ho
    simp only [Region.wanted, if_true, Nat.zero_add, Nat.reduceAdd] at hf hpre ⊢
    have l1 : L.getD 2 false = true := hpre ⟨2, .data⟩ (by simp) rfl
    have HQ := Lib.hid (h.s6 hL l1 hf)
    clear h hpre hp ok
    unfold frm15
    go_simp
    exact ⟨_, _, _, _, _, _, _, _, rfl, HQ.out⟩
  · simp only [List.getElem?_toArray, List.getElem?_cons_zero, List.getElem?_cons_succ, Option.some.injEq] at ho
    subst ho
    simp only [Region.wanted, if_true, Nat.zero_add, Nat.reduceAdd] at hf hpre ⊢
    have l1 : L.getD 5 false = true := hpre ⟨5, .data⟩ (by simp) rfl
    have HQ := Lib.hid (h.s7 hL l1 hf)
    clear h hpre hp ok
    unfold frm15
    go_simp
    exact ⟨_, _, _, _, _, _, _, _, rfl, HQ.out⟩
  · omega
end Go.Proofs.Ytjijfgkmjachnaa

namespace Go.Proofs.Ytjijfgkmjachnaa
set_option linter.unusedVariables false
set_option linter.unusedSimpArgs false
open Go.RowKit Go.Maps

def boundV (a b : Nd) : Int := (max a.size b.size : Nat) - (com (labs a) (labs b) : Nat)

set_option maxRecDepth 100000 in
set_option maxHeartbeats 1000000 in
theorem Bound (a b : Nd) (A B : Option Addr) (cA cB : Nat) (w : World) (hA : RN w a A cA) (hB : RN w b B cB) (ha : a.size ≤ 1000000) (hb : b.size ≤ 1000000) (la : LabW a) (lb : LabW b) :
    Calls Try.prog 15 #[a.val A cA, b.val B cB] w fun e w' => e = .returned (.int .i64 (boundV a b)) ∧ Below w.heap.size w w' := by
  obtain ⟨w0, hw0⟩ : ∃ w0, ((w.alloc (.cells #[.int .i64 a.kind, .string a.text, .int .i64 a.pos, .int .i64 a.fin, .slice A a.kids.length cA] 24)).alloc (.cells #[.int .i64 b.kind, .string b.text, .int .i64 b.pos, .int .i64 b.fin, .slice B b.kids.length cB] 24)) = w0 := ⟨_, rfl⟩
  have hbw : Below w.heap.size w w0 := by rw [← hw0]; exact ((Below.refl _ _).alloc (Nat.le_refl _) _).alloc (by simp) _
  have hsz : w0.heap.size = w.heap.size + 2 := by rw [← hw0]; simp
  have ok : X30.Ok ⟨a, b, A, B, cA, cB, w.heap.size, w.heap.size + 1, w0⟩ := by
    have h1 : w0.heap[w.heap.size + 1]? = some (.cells (cells5 b B cB).toArray 24 (0, 0)) := by
      rw [← hw0]
      have := heap_alloc_new (w.alloc (.cells (cells5 a A cA).toArray 24)) (.cells (cells5 b B cB).toArray 24)
      simpa [cells5] using this
    have h0 : w0.heap[w.heap.size]? = some (.cells (cells5 a A cA).toArray 24 (0, 0)) := by
      rw [← hw0, Below.heap_alloc _ _ _ (by simp)]
      exact heap_alloc_new _ _
    exact ⟨At5.of h0, At5.of h1, RN.keep hbw hA, RN.keep hbw hB, ha, hb⟩
  have OK := Lib.hid ok
  have HBW := Lib.hid hbw
  have HSZ := Lib.hid hsz
  have HLA := Lib.hid la
  have HLB := Lib.hid lb
  clear ok hbw hsz hA hB la lb
  unfold Nd.val
  have hmm := @run_makeMap Try.prog
  go_enter Try.func15, Try.ntmps15
  go_wp2_with fail
  refine region15 ⟨a, b, A, B, cA, cB, w.heap.size, w.heap.size + 1, w0⟩ OK.out (.agg #[.int .i64 a.kind, .string a.text, .int .i64 a.pos, .int .i64 a.fin, .slice A a.kids.length cA]) (.agg #[.int .i64 b.kind, .string b.text, .int .i64 b.pos, .int .i64 b.fin, .slice B b.kids.length cB]) _ _ _ ?h0 ?hend
  case h0 =>
    refine ⟨_, _, _, _, _, _, _, _, rfl, ⟨(Below.refl _ w0).drew, ?_, ?_, ?_, ?_, ?_, ?_, ?_, ?_, ?_, ?_, ?_, ?_⟩⟩ <;> intro e <;> exact absurd e (by simp [Array.getD])
  intro L a' W hI hall
  obtain ⟨v5, v6, v13, v14, v15, v16, v17, v18, rfl, h⟩ := hI
  obtain ⟨gL, gF, gN, cL, cF, cN, rfl, FA⟩ := h.f1 (hall 1 (by omega))
  obtain ⟨gL', gF', gN', cL', cF', cN', rfl, FB⟩ := h.f4 (hall 4 (by omega))
  have e5 := h.f6 (hall 6 (by omega))
  rw [h.f2 (hall 2 (by omega))] at e5
  have e6 := h.f7 (hall 7 (by omega))
  rw [h.f5 (hall 5 (by omega))] at e6
  dsimp only at FA FB e5 e6
  have e5' : v5 = .slice (some ⟨gL, 0, none⟩) a.size cL := e5
  have e6' : v6 = .slice (some ⟨gL', 0, none⟩) b.size cL' := e6
  clear e5 e6
  subst e5' e6'
  have hq := h.bel
  dsimp only at hq
  have HBL := Lib.hid (HBW.out.trans (hq.mono (by have := HSZ.out; omega)))
  have HFA := Lib.hid FA
  have HFB := Lib.hid FB
  clear h hq hall OK HBW HSZ hw0 FA FB
  unfold frm15
  dsimp only
  have hWb := HBL.out.size
  go_wp2_with fail
  go_loopw [22] (fun s wr => ∃ (k : Nat) (D : DataW Nat), s = .int .i64 k ∧ k ≤ a.size ∧ CM wr W.heap.size k D ∧ CntD D ((labs a).take k) ∧ Below W.heap.size W wr)
    (fun s _ => a.size - (intOf s).toNat)
  case atStart =>
    exact ⟨0, .map [], rfl, Nat.zero_le _, World.ownsMap_made W _ _ _, fun p hp => by simp [DataW.atKey], (Below.refl _ _).alloc (Nat.le_refl _) _⟩
  case round =>
    obtain ⟨k, D, rfl, hk, hcm, hcd, hbl⟩ := hrel
    by_cases hlt : k < a.size
    · have hkn : (k : Int) < a.size := by omega
      have x0 := (hbl.cell (World.block_lt_of_cell? W _ (HFA.out.lab0 k hlt))).trans (HFA.out.lab0 k hlt)
      have x1 := (hbl.cell (World.block_lt_of_cell? W _ (HFA.out.lab1 k hlt))).trans (HFA.out.lab1 k hlt)
      obtain ⟨t, ht⟩ : ∃ t, nd (post a 0 0) k = t := ⟨_, rfl⟩
      rw [ht] at x0 x1
      have HT := Lib.hid ht
      have HCM := Lib.hid hcm
      have HCD := Lib.hid hcd
      have HB := Lib.hid hbl
      clear ht hcm hcd hbl
      go_wp2_with fail
      obtain ⟨w1, hw1⟩ : ∃ w1, wr.alloc (.cells #[.int .i64 t.kind, .string t.text] 70) = w1 := ⟨_, rfl⟩
      have y0 : w1.drew.cell? ⟨wr.heap.size, 0, none⟩ = some (.int .i64 t.kind) := by rw [← hw1]; exact cell_new _ _ _ _
      have y1 : w1.drew.cell? ⟨wr.heap.size, 1, none⟩ = some (.string t.text) := by rw [← hw1]; exact cell_new _ _ _ _
      have hlab : (labs a)[k]'(by rw [labs_len]; exact hlt) = labOf t := by rw [labs_get a k hlt, HT.out]
      have hlp : LabP (labOf t) := by rw [← hlab]; exact HLA.out _ (List.getElem_mem _)
      have hcw : CM w1.drew W.heap.size k D := by rw [← hw1]; exact (HCM.out.alloc _).drew
      have hbw : Below W.heap.size W w1.drew := by rw [← hw1]; exact (HB.out.alloc HB.out.size _).drew
      obtain ⟨c, v0, st, es1, clock1, hlk, hat, hwc, hme, hlk2, hst⟩ := bump hcw (key_lab t hlp) (by simp only [maxLen]; omega)
      have hc : c = ((labs a).take k).count (labOf t) := by have := HCD.out _ hlp; rw [hat] at this; simpa using this
      have hcs : (((labs a).take k).count (labOf t) : Nat) ≤ 1000000 := by have := List.count_le_length (a := labOf t) (l := (labs a).take k); rw [List.length_take] at this; omega
      have hcb : 0 ≤ c ∧ c ≤ 1000000 := by omega
      have hwrap : IntKind.i64.wrap (c + 1) = c + 1 := IntWalk.i64_in _ (by omega)
      have hk2 : ∀ W' : World, W'.heap[W.heap.size]? = some (.map es1 clock1) → ∃ es' clock', (Instr.entryStore 68 (.map (some W.heap.size)) (.int .i64 st) (.int .i64 (c + 1))).run Try.prog W' = .ok () (ChangeMaps.setBlock W' W.heap.size (.map es' clock')) ∧ CM (ChangeMaps.setBlock W' W.heap.size (.map es' clock')) W.heap.size (k + 1) (D.put (labK (labOf t)) (.lit (.int .i64 (c + 1)))) :=
        fun W' h => hst W' (c + 1) (WalkArith.wf_i64 (by omega)) h
      obtain ⟨w2, hw2⟩ : ∃ w2, ChangeMaps.setBlock w1.drew W.heap.size (.map es1 clock1) = w2 := ⟨_, rfl⟩
      have hBs : W.heap.size < w1.drew.heap.size := by obtain ⟨es, clock, hb, _⟩ := hcw; exact (Array.getElem?_eq_some_iff.1 hb).1
      have hh2 : w2.heap[W.heap.size]? = some (.map es1 clock1) := by rw [← hw2]; exact setBlock_at hBs _
      rw [hw2] at hme
      have hlk3 := hlk2 w2 hh2
      obtain ⟨es', clock', hes, hcm3⟩ := hk2 w2 hh2
      have hwrs : W.heap.size < wr.heap.size := HCM.out.lt
      have hbw2 : Below W.heap.size W w2 := by rw [← hw2]; exact hbw.trans (setBlock_below (Nat.le_refl _) _)
      have y2 : w2.cell? ⟨wr.heap.size, 0, none⟩ = some (.int .i64 t.kind) := by
        rw [← hw2, ← y0]; exact World.cell?_of_block (by simp only [ChangeMaps.setBlock]; rw [Array.getElem?_setIfInBounds, if_neg (by omega)])
      have y3 : w2.cell? ⟨wr.heap.size, 1, none⟩ = some (.string t.text) := by
        rw [← hw2, ← y1]; exact World.cell?_of_block (by simp only [ChangeMaps.setBlock]; rw [Array.getElem?_setIfInBounds, if_neg (by omega)])
      have y4 : (ChangeMaps.setBlock w2 W.heap.size (.map es' clock')).cell? ⟨wr.heap.size, 0, none⟩ = some (.int .i64 t.kind) := by
        rw [← y2]; exact World.cell?_of_block (by simp only [ChangeMaps.setBlock]; rw [Array.getElem?_setIfInBounds, if_neg (by omega)])
      have y5 : (ChangeMaps.setBlock w2 W.heap.size (.map es' clock')).cell? ⟨wr.heap.size, 1, none⟩ = some (.string t.text) := by
        rw [← y3]; exact World.cell?_of_block (by simp only [ChangeMaps.setBlock]; rw [Array.getElem?_setIfInBounds, if_neg (by omega)])
      obtain ⟨w3, hw3⟩ : ∃ w3, ChangeMaps.setBlock w2 W.heap.size (.map es' clock') = w3 := ⟨_, rfl⟩
      rw [hw3] at hes hcm3 y4 y5
      have hbw3 : Below W.heap.size W w3 := by rw [← hw3]; exact hbw2.trans (setBlock_below (Nat.le_refl _) _)
      have HC := Lib.hid hc
      have HAB := Lib.hid hlab
      have HLP := Lib.hid hlp
      have HM3 := Lib.hid hcm3
      have HB3 := Lib.hid hbw3
      rw [hw1]
      clear hw1 hw2 hw3 hh2 hk2 hst hlk2 hcw hbw hbw2 hbw3 hBs hc hlab hlp hcm3 hwc hat x0 x1
      go_region_held3 (fun W' => W'.cell? ⟨wr.heap.size, 0, none⟩ = some (.int .i64 t.kind) ∧ W'.cell? ⟨wr.heap.size, 1, none⟩ = some (.string t.text)) (first | exact ⟨y0, y1⟩ | exact ⟨y2, y3⟩ | exact ⟨y4, y5⟩) (fail)
      all_goals
        go_wp2_with fail
        go_roundw
        case rel =>
          have ht : (labs a).take (k + 1) = (labs a).take k ++ [labOf t] := by
            rw [List.take_succ_eq_append_getElem (by rw [labs_len]; exact hlt), HAB.out]
          refine ⟨k + 1, _, by go_num, by omega, HM3.out, ?_, HB3.out⟩
          refine HCD.out.put HCM.out.isMap HLP.out ?_ (fun q hq => ?_)
          · rw [ht, List.count_append, HC.out]; simp
          · rw [ht, List.count_append]; simp [List.count_cons, Ne.symm hq]
        case measure => simp [intOf]; omega
    · obtain rfl : k = a.size := by omega
      have HCM := Lib.hid hcm
      have HCD := Lib.hid (show CntD D (labs a) by have h := hcd; rw [List.take_of_length_le (by rw [labs_len]; exact Nat.le_refl _)] at h; exact h)
      have HB := Lib.hid hbl
      clear hcm hcd hbl
      go_wp2_with fail
      go_loopw [10, 35] (fun x s wr => ∃ (k : Nat) (D : DataW Nat), s = .int .i64 k ∧ k ≤ b.size ∧ x = .int .i64 (com (labs a) ((labs b).take k) : Nat) ∧ CM wr W.heap.size (a.size + k) D ∧ CntD D (rest (labs a) ((labs b).take k)) ∧ Below W.heap.size W wr)
        (fun _ s _ => b.size - (intOf s).toNat)
      case atStart =>
        exact ⟨0, D, rfl, Nat.zero_le _, by simp [com], HCM.out, by simpa [rest] using HCD.out, HB.out⟩
      case round =>
        clear HCM HCD HB
        obtain ⟨k, D2, rfl, hk, rfl, hcm, hcd, hbl⟩ := hrel
        by_cases hlt : k < b.size
        · have hkn : (k : Int) < b.size := by omega
          have x0 := (hbl.cell (World.block_lt_of_cell? W _ (HFB.out.lab0 k hlt))).trans (HFB.out.lab0 k hlt)
          have x1 := (hbl.cell (World.block_lt_of_cell? W _ (HFB.out.lab1 k hlt))).trans (HFB.out.lab1 k hlt)
          obtain ⟨t, ht⟩ : ∃ t, nd (post b 0 0) k = t := ⟨_, rfl⟩
          rw [ht] at x0 x1
          have HT := Lib.hid ht
          have HCM := Lib.hid hcm
          have HCD := Lib.hid hcd
          have HB := Lib.hid hbl
          obtain ⟨R, hR⟩ : ∃ R, rest (labs a) ((labs b).take k) = R := ⟨_, rfl⟩
          obtain ⟨m, hm⟩ : ∃ m, com (labs a) ((labs b).take k) = m := ⟨_, rfl⟩
          have hmb : m ≤ b.size := by have := com_le ((labs b).take k) (labs a); rw [hm, List.length_take] at this; omega
          rw [hR] at HCD
          rw [hm]
          have HR := Lib.hid hR
          have HMM := Lib.hid hm
          clear ht hcm hcd hbl hR hm
          obtain ⟨w1, hw1⟩ : ∃ w1, wr.alloc (.cells #[.int .i64 t.kind, .string t.text] 70) = w1 := ⟨_, rfl⟩
          have y0 : w1.drew.cell? ⟨wr.heap.size, 0, none⟩ = some (.int .i64 t.kind) := by rw [← hw1]; exact cell_new _ _ _ _
          have y1 : w1.drew.cell? ⟨wr.heap.size, 1, none⟩ = some (.string t.text) := by rw [← hw1]; exact cell_new _ _ _ _
          have hlab : (labs b)[k]'(by rw [labs_len]; exact hlt) = labOf t := by rw [labs_get b k hlt, HT.out]
          have hlp : LabP (labOf t) := by rw [← hlab]; exact HLB.out _ (List.getElem_mem _)
          have hcw : CM w1.drew W.heap.size (a.size + k) D2 := by rw [← hw1]; exact (HCM.out.alloc _).drew
          have hbw : Below W.heap.size W w1.drew := by rw [← hw1]; exact (HB.out.alloc HB.out.size _).drew
          obtain ⟨c, v0, st, es1, clock1, hlk, hat, hwc, hme, hlk2, hst⟩ := bump hcw (key_lab t hlp) (by simp only [maxLen]; omega)
          have hc : c = R.count (labOf t) := by have := HCD.out _ hlp; rw [hat] at this; simpa using this
          have hcs : (R.count (labOf t) : Nat) ≤ 1000000 := by have := List.count_le_length (a := labOf t) (l := R); have h2 := rest_le ((labs b).take k) (labs a); rw [HR.out, labs_len] at h2; omega
          have hcb : 0 ≤ c ∧ c ≤ 1000000 := by omega
          have hwrap : IntKind.i64.wrap (c - 1) = c - 1 := IntWalk.i64_in _ (by omega)
          have hk2 : ∀ W' : World, W'.heap[W.heap.size]? = some (.map es1 clock1) → ∃ es' clock', (Instr.entryStore 68 (.map (some W.heap.size)) (.int .i64 st) (.int .i64 (c - 1))).run Try.prog W' = .ok () (ChangeMaps.setBlock W' W.heap.size (.map es' clock')) ∧ CM (ChangeMaps.setBlock W' W.heap.size (.map es' clock')) W.heap.size (a.size + k + 1) (D2.put (labK (labOf t)) (.lit (.int .i64 (c - 1)))) :=
            fun W' h => hst W' (c - 1) (WalkArith.wf_i64 (by omega)) h
          obtain ⟨w2, hw2⟩ : ∃ w2, ChangeMaps.setBlock w1.drew W.heap.size (.map es1 clock1) = w2 := ⟨_, rfl⟩
          have hBs : W.heap.size < w1.drew.heap.size := by obtain ⟨es, clock, hb, _⟩ := hcw; exact (Array.getElem?_eq_some_iff.1 hb).1
          have hh2 : w2.heap[W.heap.size]? = some (.map es1 clock1) := by rw [← hw2]; exact setBlock_at hBs _
          rw [hw2] at hme
          have hlk3 := hlk2 w2 hh2
          obtain ⟨es', clock', hes, hcm3⟩ := hk2 w2 hh2
          have hwrs : W.heap.size < wr.heap.size := HCM.out.lt
          have hbw2 : Below W.heap.size W w2 := by rw [← hw2]; exact hbw.trans (setBlock_below (Nat.le_refl _) _)
          have y2 : w2.cell? ⟨wr.heap.size, 0, none⟩ = some (.int .i64 t.kind) := by
            rw [← hw2, ← y0]; exact World.cell?_of_block (by simp only [ChangeMaps.setBlock]; rw [Array.getElem?_setIfInBounds, if_neg (by omega)])
          have y3 : w2.cell? ⟨wr.heap.size, 1, none⟩ = some (.string t.text) := by
            rw [← hw2, ← y1]; exact World.cell?_of_block (by simp only [ChangeMaps.setBlock]; rw [Array.getElem?_setIfInBounds, if_neg (by omega)])
          have y4 : (ChangeMaps.setBlock w2 W.heap.size (.map es' clock')).cell? ⟨wr.heap.size, 0, none⟩ = some (.int .i64 t.kind) := by
            rw [← y2]; exact World.cell?_of_block (by simp only [ChangeMaps.setBlock]; rw [Array.getElem?_setIfInBounds, if_neg (by omega)])
          have y5 : (ChangeMaps.setBlock w2 W.heap.size (.map es' clock')).cell? ⟨wr.heap.size, 1, none⟩ = some (.string t.text) := by
            rw [← y3]; exact World.cell?_of_block (by simp only [ChangeMaps.setBlock]; rw [Array.getElem?_setIfInBounds, if_neg (by omega)])
          obtain ⟨w3, hw3⟩ : ∃ w3, ChangeMaps.setBlock w2 W.heap.size (.map es' clock') = w3 := ⟨_, rfl⟩
          rw [hw3] at hes hcm3 y4 y5
          have hbw3 : Below W.heap.size W w3 := by rw [← hw3]; exact hbw2.trans (setBlock_below (Nat.le_refl _) _)
          have HC := Lib.hid hc
          have HC1 := Lib.hid (show CM w1 W.heap.size (a.size + k) D2 from hcw)
          have HAT := Lib.hid hat
          have HBW1 := Lib.hid (show Below W.heap.size W w1 from ⟨hbw.os, hbw.tape, hbw.output, hbw.size, hbw.block⟩)
          have HAB := Lib.hid hlab
          have HLP := Lib.hid hlp
          have HM3 := Lib.hid hcm3
          have HB3 := Lib.hid hbw3
          have HW1 := Lib.hid hw1
          have hlk0 : (Instr.lookup 68 (.map (some W.heap.size)) (.agg #[.int .i64 t.kind, .string t.text]) false).run Try.prog w1 = .ok (.int .i64 c) w1 := by
            obtain ⟨c', h1, h2, _⟩ := World.ownsMap.lookup_int (HC1.out) keyed70 Try.underlying68 Try.underlying3 (Try.zeroValue3 w1) (key_lab t HLP.out)
            rw [HAT.out] at h2
            have : c = c' := by simpa using h2
            rw [this]; exact h1
          have u0 : w1.cell? ⟨wr.heap.size, 0, none⟩ = some (.int .i64 t.kind) := y0
          have u1 : w1.cell? ⟨wr.heap.size, 1, none⟩ = some (.string t.text) := y1
          have HB1 := Lib.hid HBW1.out
          clear hw2 hw3 hh2 hk2 hst hlk2 hcw hbw hbw2 hbw3 hBs hc hlab hlp hcm3 hwc hat
          by_cases hpos : 0 < c
          · go_wp2_with fail
            go_region_held3 (fun W' => W'.cell? ⟨wr.heap.size, 0, none⟩ = some (.int .i64 t.kind) ∧ W'.cell? ⟨wr.heap.size, 1, none⟩ = some (.string t.text)) (first | exact ⟨y0, y1⟩ | exact ⟨y2, y3⟩ | exact ⟨y4, y5⟩) (fail)
            all_goals
              go_wp2_with fail
              go_roundw
              case rel =>
                have ht : (labs b).take (k + 1) = (labs b).take k ++ [labOf t] := by
                  rw [List.take_succ_eq_append_getElem (by rw [labs_len]; exact hlt), HAB.out]
                have hmem : labOf t ∈ R := List.count_pos_iff.1 (by have := HC.out; omega)
                have er : rest (labs a) ((labs b).take (k + 1)) = R.erase (labOf t) := by rw [ht, rest_append, HR.out]; simp [rest, hmem]
                have em : com (labs a) ((labs b).take (k + 1)) = m + 1 := by rw [ht, com_append, HR.out, HMM.out]; simp [com, hmem]
                refine ⟨k + 1, _, by go_num, by omega, by rw [em]; go_num, HM3.out, ?_, HB3.out⟩
                rw [er]
                refine HCD.out.put HCM.out.isMap HLP.out ?_ (fun q hq => ?_)
                · rw [List.count_erase_self, HC.out]; have := List.count_pos_iff.2 hmem; omega
                · exact List.count_erase_of_ne hq
              case measure => simp [intOf]; omega
          · go_wp2_with fail
            go_roundw
            case rel =>
              have ht : (labs b).take (k + 1) = (labs b).take k ++ [labOf t] := by
                rw [List.take_succ_eq_append_getElem (by rw [labs_len]; exact hlt), HAB.out]
              have hmem : ¬ labOf t ∈ R := fun h => by have := List.count_pos_iff.2 h; have := HC.out; omega
              have er : rest (labs a) ((labs b).take (k + 1)) = R := by rw [ht, rest_append, HR.out]; simp [rest, hmem]
              have em : com (labs a) ((labs b).take (k + 1)) = m := by rw [ht, com_append, HR.out, HMM.out]; simp [com, hmem]
              refine ⟨k + 1, D2, by go_num, by omega, by rw [em], HC1.out.mono (by omega), ?_, HB1.out⟩
              rw [er]
              exact HCD.out
            case measure => simp [intOf]; omega
        · obtain rfl : k = b.size := by omega
          have hcl := com_le (labs b) (labs a)
          rw [labs_len] at hcl
          rw [List.take_of_length_le (by rw [labs_len]; exact Nat.le_refl _)]
          have HB := Lib.hid hbl
          clear hcm hcd hbl
          obtain ⟨m, hm⟩ : ∃ m, com (labs a) (labs b) = m := ⟨_, rfl⟩
          rw [hm] at hcl ⊢
          have HM := Lib.hid hm
          clear hm
          have he : boundV a b = max (a.size : Int) (b.size : Int) - (m : Int) := by unfold boundV; rw [HM.out]; omega
          have HE := Lib.hid he
          clear he
          go_wp2_with fail
          go_ret
          exact ⟨by rw [HE.out]; rfl, HBL.out.trans (HB.out.mono HBL.out.size)⟩
end Go.Proofs.Ytjijfgkmjachnaa
