import Derived.Test.YtjijfgkmjachnaaT43
namespace Go.Proofs.Ytjijfgkmjachnaa
set_option linter.unusedVariables false
set_option linter.unusedSimpArgs false
open Go.RowKit Go.Maps Go.ChangeMaps

abbrev CM (W : World) (b n : Nat) (D : DataW Nat) : Prop := W.ownsMap Try.prog 70 (plainElem Try.prog 3) b n D

theorem ownsMap_at {W W' : World} {b n : Nat} {D : DataW Nat} (h : CM W b n D) {es : Array MapEntry} {c : Nat} (h1 : W.heap[b]? = some (.map es c)) (h2 : W'.heap[b]? = some (.map es c)) : CM W' b n D := by
  obtain ⟨es', c', hb, F, hs, hD⟩ := h
  rw [h1] at hb
  simp only [Option.some.injEq, Obj.map.injEq] at hb
  obtain ⟨rfl, rfl⟩ := hb
  exact ⟨_, _, h2, F, hs, hD⟩
theorem setBlock_at {W : World} {b : Nat} (h : b < W.heap.size) (o : Obj) : (setBlock W b o).heap[b]? = some o := by simp [setBlock, h]
theorem wf0 : (Lit.int .i64 0).wf = true := by decide

theorem bump {W : World} {b n : Nat} {D : DataW Nat} (h : CM W b n D) {key : Value} {kl : Lit} (hkey : keyOf Try.prog 70 key = some kl) (hn : n < maxLen) :
    ∃ (c : Int) (v0 : Value) (st : Nat) (es1 : Array MapEntry) (clock1 : Nat), (Instr.lookup 68 (.map (some b)) key false).run Try.prog W = .ok (.int .i64 c) W ∧ D.atKey kl (.lit (.int .i64 0)) = .lit (.int .i64 c) ∧ (Lit.int .i64 c).wf = true ∧
      (Instr.mapEntry 68 (.map (some b)) key).run Try.prog W = .ok (.tuple #[v0, .int .i64 st]) (setBlock W b (.map es1 clock1)) ∧
      (∀ W1 : World, W1.heap[b]? = some (.map es1 clock1) → (Instr.lookup 68 (.map (some b)) key false).run Try.prog W1 = .ok (.int .i64 c) W1) ∧
      ∀ (W2 : World) (val : Int), (Lit.int .i64 val).wf = true → W2.heap[b]? = some (.map es1 clock1) →
        ∃ es' clock', (Instr.entryStore 68 (.map (some b)) (.int .i64 st) (.int .i64 val)).run Try.prog W2 = .ok () (setBlock W2 b (.map es' clock')) ∧ CM (setBlock W2 b (.map es' clock')) b (n + 1) (D.put kl (.lit (.int .i64 val))) := by
  obtain ⟨c, hlk, hat, hwc⟩ := World.ownsMap.lookup_int h keyed70 Try.underlying68 Try.underlying3 (Try.zeroValue3 W) hkey
  have hup := fun val (hv : (Lit.int .i64 val).wf = true) => World.ownsMap.update (t := 68) (e := 3) h keyed70 Try.underlying68 hn hkey (plainElem_int Try.underlying3 hv)
  have hown := h
  obtain ⟨es, clock, hb, F, hs, hD⟩ := h
  have hlt : b < W.heap.size := (Array.getElem?_eq_some_iff.1 hb).1
  obtain ⟨v0, st, es1, clock1, hrun, _, hst⟩ := WideElems.entry_then_store law70 Try.underlying68 (z := .int .i64 0) Try.zeroValue3 hb F hkey
  refine ⟨c, v0, st, es1, clock1, hlk, hat, hwc, hrun, fun W1 hW1 => ?_, fun W2 val hv hW2 => ?_⟩
  · rcases law70.find W hkey es.toList F.keys with ⟨h1, h2⟩ | ⟨j, e0, h1, h2, h3⟩
    · have hr2 : (Instr.mapEntry 68 (.map (some b)) key).run Try.prog W = .ok (.tuple #[.int .i64 0, goInt clock]) (setBlock W b (.map (es.push ⟨key, .int .i64 0, clock⟩) (clock + 1))) := by
        simp [Instr.mapEntry, run_underlying Try.underlying68, MapKept.run_getObj_map hb, law70.check W false hkey, h1, Try.zeroValue3, MapKept.run_setObj_map _ hb, Result.andThen, setBlock]
      rw [hr2] at hrun
      have e1 := congrArg (fun r => match r with | Result.ok _ w => w.heap[b]? | _ => none) hrun
      simp only [setBlock_at hlt, Option.some.injEq, Obj.map.injEq] at e1
      obtain ⟨rfl, rfl⟩ := e1
      have hlk0 : c = 0 := by
        have : (Instr.lookup 68 (.map (some b)) key false).run Try.prog W = .ok (.int .i64 0) W := by
          simp [Instr.lookup, run_underlying Try.underlying68, MapKept.run_getObj_map hb, law70.check W _ hkey, h1, Try.zeroValue3, Result.andThen]
        rw [this] at hlk
        simpa using hlk.symm
      have hkeys : ∀ e ∈ (es.push ⟨key, .int .i64 0, clock⟩).toList, ∃ l, keyOf Try.prog 70 e.key = some l := by
        intro e he
        simp only [Array.toList_push, List.mem_append, List.mem_singleton] at he
        rcases he with he | rfl
        · exact F.keys e he
        · exact ⟨kl, hkey⟩
      rcases law70.find W1 hkey _ hkeys with ⟨_, g2⟩ | ⟨j, e, g1, g2, g3⟩
      · exact absurd rfl (g2 ⟨key, .int .i64 0, clock⟩ (by simp))
      · have hv : e.val = .int .i64 0 := by
          have hm := List.mem_of_getElem? g2
          simp only [Array.toList_push, List.mem_append, List.mem_singleton] at hm
          rcases hm with hm | rfl
          · exact absurd g3 (h2 e hm)
          · rfl
        rw [hlk0, ← hv]
        rw [Array.toList_push] at g1
        simp [Instr.lookup, run_underlying Try.underlying68, MapKept.run_getObj_map hW1, law70.check W1 _ hkey, g1, Result.andThen]
    · have hj : es[j]? = some e0 := by simpa using h2
      have hsame : es.modify j (fun e => { e with key := key }) = es := by
        apply Array.ext'
        rw [Array.toList_modify, modify_eq_set _ _ _ _ h2]
        have : ({ e0 with key := key } : MapEntry) = e0 := by rw [← h3]
        rw [this]
        exact WideElems.set_self _ _ _ h2
      have hr2 : (Instr.mapEntry 68 (.map (some b)) key).run Try.prog W = .ok (.tuple #[e0.val, goInt e0.born]) (setBlock W b (.map es clock)) := by
        simp [Instr.mapEntry, run_underlying Try.underlying68, MapKept.run_getObj_map hb, law70.check W false hkey, h1, hj, h3, law70.stays W hkey, hsame, MapKept.run_setObj_map _ hb, Result.andThen, setBlock]
      rw [hr2] at hrun
      have e1 := congrArg (fun r => match r with | Result.ok _ w => w.heap[b]? | _ => none) hrun
      simp only [setBlock_at hlt, Option.some.injEq, Obj.map.injEq] at e1
      obtain ⟨rfl, rfl⟩ := e1
      obtain ⟨c', hlk', hat', _⟩ := World.ownsMap.lookup_int (ownsMap_at hown hb hW1) keyed70 Try.underlying68 Try.underlying3 (Try.zeroValue3 W1) hkey
      rw [hat] at hat'
      have : c = c' := by simpa using hat'
      rw [this]
      exact hlk'
  · obtain ⟨es', clock', g1, g2⟩ := hst W2 (.int .i64 val) hW2
    refine ⟨es', clock', g1, ?_⟩
    obtain ⟨W', u1, u2, _⟩ := hup val hv
    rw [u1] at g2
    simp only [Result.ok.injEq, true_and] at g2
    rw [g2] at u2
    exact ownsMap_at u2 (setBlock_at hlt _) (setBlock_at (Array.getElem?_eq_some_iff.1 hW2).1 _)
end Go.Proofs.Ytjijfgkmjachnaa
