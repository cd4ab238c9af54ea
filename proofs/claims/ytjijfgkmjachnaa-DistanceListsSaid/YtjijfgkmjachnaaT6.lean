import Derived.Test.YtjijfgkmjachnaaT5
namespace Go.Proofs.Ytjijfgkmjachnaa
set_option linter.unusedVariables false
set_option linter.unusedSimpArgs false
open Go.RowKit Go.Shelf
attribute [local go_sem] Oper.semAt_some

theorem nodes_in (m : Nat) (t : Nd) (A : Option Addr) (c : Nat) (w : World) :
    CallsIn FW m Try.prog 45 #[t.val A c] w fun e w' => e = .returned (.func (.func 49) #[] #[.pointer (some ⟨w.heap.size, 0, none⟩)]) ∧
      w' = w.alloc (.cells #[.int .i64 t.kind, .string t.text, .int .i64 t.pos, .int .i64 t.fin, .slice A t.kids.length c] 24) := by
  unfold Nd.val
  refine callsIn_of_wp Try.func45 rfl trivial ?_ rfl
  simp only [Try.ntmps45, List.size_toArray, List.length_cons, List.length_nil, Nat.reduceAdd, Nat.reduceSub, Array.replicate_succ, Array.replicate_zero, List.push_toArray, List.append_toArray, List.nil_append, List.cons_append]
  gi_wp2_with fail
  go_ret
  exact ⟨rfl, rfl⟩

set_option maxRecDepth 100000 in
set_option maxHeartbeats 2000000 in
theorem Count_in (t : Nd) (A : Option Addr) (c : Nat) (w : World) (hR : RN w t A c) (hsz : t.size ≤ 9223372036854775807) :
    CallsIn FW 9 Try.prog 40 #[t.val A c] w fun e w' => e = .returned (.int .i64 t.size) ∧ Below w.heap.size w w' := by
  have hn := nodes_in 8 t A c
  unfold Nd.val at hn ⊢
  have HN := Lib.hid hn
  clear hn
  refine callsIn_of_wp_marks Try.func40 rfl trivial ?_ rfl
  simp only [Try.ntmps40, List.size_toArray, List.length_cons, List.length_nil, Nat.reduceAdd, Nat.reduceSub, Array.replicate_succ, Array.replicate_zero, List.push_toArray, List.append_toArray, List.nil_append, List.cons_append]
  gi_wp2_with fail
  refine ⟨trivial, ?_⟩
  refine (HN.out _).mono ?_
  clear HN
  rintro e w' ⟨rfl, rfl⟩
  gi_wp2_with fail
  obtain ⟨W0, hW0⟩ : ∃ W0, ((w.alloc (.cells #[.int .i64 t.kind, .string t.text, .int .i64 t.pos, .int .i64 t.fin, .slice A t.kids.length c] 24)).alloc (.cells #[.int .i64 0] 3)).alloc (.cells #[.int .i64 t.kind, .string t.text, .int .i64 t.pos, .int .i64 t.fin, .slice A t.kids.length c] 24) = W0 := ⟨_, rfl⟩
  have hs0 : W0.heap.size = w.heap.size + 3 := by rw [← hW0]; simp
  have hbx : W0.heap[w.heap.size + 1]? = some (.cells #[.int .i64 0] 3 (0, 0)) := by
    rw [← hW0, Below.heap_alloc _ _ _ (by simp)]
    have := heap_alloc_new (w.alloc (.cells #[.int .i64 t.kind, .string t.text, .int .i64 t.pos, .int .i64 t.fin, .slice A t.kids.length c] 24)) (.cells #[.int .i64 0] 3)
    simpa using this
  have hbn : W0.heap[w.heap.size + 2]? = some (.cells #[.int .i64 t.kind, .string t.text, .int .i64 t.pos, .int .i64 t.fin, .slice A t.kids.length c] 24 (0, 0)) := by
    rw [← hW0]
    have := heap_alloc_new ((w.alloc (.cells #[.int .i64 t.kind, .string t.text, .int .i64 t.pos, .int .i64 t.fin, .slice A t.kids.length c] 24)).alloc (.cells #[.int .i64 0] 3)) (.cells #[.int .i64 t.kind, .string t.text, .int .i64 t.pos, .int .i64 t.fin, .slice A t.kids.length c] 24)
    simpa using this
  have hbw : Below w.heap.size w W0 := by
    rw [← hW0]; exact (((Below.refl _ _).alloc (Nat.le_refl _) _).alloc (by simp) _).alloc (by simp; omega) _
  have hkc : KC (· = w.heap.size + 1) w W0 := by
    rw [← hW0]; exact ((KC.alloc _ _ _).trans (KC.alloc _ _ _)).trans (KC.alloc _ _ _)
  rw [hW0]
  have hseq : SeqStopsK FW 8 Try.prog 49 #[.pointer (some ⟨w.heap.size + 2, 0, none⟩)] (fun x : Value => #[x]) (KC (· = w.heap.size + 1)) (fun xs => xs.length = t.size) (fun _ => True) t.size W0 := by
    intro l J Jx W hW hJ hJx hY h0
    have hkW : KC (· = w.heap.size + 1) W0 W := ⟨hW.size, fun k c t f _ h => (hW.block k (Array.getElem?_eq_some_iff.1 h).1).trans h⟩
    refine (nodes1_in l (w.heap.size + 1) (w.heap.size + 2) w (by omega) W.heap.size J Jx hJ 7 t A c hY 8 W hR (hkc.trans hkW) (by have := hW.size; omega) ((hW.block _ (by omega)).trans hbn) h0).mono ?_
    rintro e W' ⟨hv, h⟩
    refine ⟨hv, ?_⟩
    rcases h with ⟨q, h1, h2⟩ | ⟨pre, h⟩
    · exact .inl ⟨q, h1, h2⟩
    · exact .inr ⟨pre, trivial, h⟩
  refine wpIn_rangeFunc_ownF rfl (by omega) (gf := 49) (lb := #[.pointer (some ⟨w.heap.size + 2, 0, none⟩)]) rfl trivial (enters_of Try.func49 (by kernel_rfl) rfl)
    hseq (fun h k => h.trans k) (fun W l o o' _ h1 h2 _ => KC.putObj h1 h2 o') (Below.refl _ _) (fun _ => rfl)
    (fun pre W => W.heap[w.heap.size + 1]? = some (.cells #[.int .i64 (pre.length : Nat)] 3 (0, 0)) ∧ Below w.heap.size w W)
    (fun _ _ _ => False)
    (OwnFrom.and (fun s W W' row hs hg hr => by
      refine (hg.block _ (Array.getElem?_eq_some_iff.1 hs).1 ?_).trans hs
      intro e; obtain ⟨_, o, ho, hc⟩ := hr _ e.symm; rw [hs] at ho; injection ho with ho; subst ho; simp [Obj.isCells] at hc) (ownFrom_below (Nat.le_refl _) (by omega)))
    (fun _ _ _ _ _ hs _ _ => hs)
    ⟨hbx, hbw⟩
    (fun x => { tmps := #[.agg #[.int .i64 t.kind, .string t.text, .int .i64 t.pos, .int .i64 t.fin, .slice A t.kids.length c], .pointer (some ⟨w.heap.size, 0, none⟩), .int .i64 0, .pointer (some ⟨w.heap.size + 1, 0, none⟩), .agg #[.int .i64 t.kind, .string t.text, .int .i64 t.pos, .int .i64 t.fin, .slice A t.kids.length c], .func (.func 49) #[] #[.pointer (some ⟨w.heap.size + 2, 0, none⟩)], x, undef, undef, undef], defers := [] }) ?assign ?body ?done ?stop
  case assign =>
    intro l x W K hK
    gi_wp2
    simpa using hK
  case body =>
    rintro l pre x W ⟨hc, hB⟩ hlt
    have c1 : W.cell? ⟨w.heap.size + 1, 0, none⟩ = some (.int .i64 (pre.length : Nat)) := by simp [World.cell?, hc]
    have c2 : W.frozen? ⟨w.heap.size + 1, 0, none⟩ = false := by simp [World.frozen?, hc]
    have HC := Lib.hid hc
    clear hc
    gi_wp2
    refine ⟨KeepsOthers.setCell _ _ _, KC.setCell (S := (· = w.heap.size + 1)) (a := ⟨w.heap.size + 1, 0, none⟩) rfl _, ?_, hB.setCell (p := ⟨w.heap.size + 1, 0, none⟩) (by simp) _⟩
    have h2 := HC.out
    simp [World.setCell, Array.getElem?_modify, h2]
  case done =>
    rintro D ys W hD hl ⟨hc, hB⟩ hK
    have c1 : W.cell? ⟨w.heap.size + 1, 0, none⟩ = some (.int .i64 (ys.length : Nat)) := by simp [World.cell?, hc]
    have HC := Lib.hid hl
    clear hc hl
    gi_wp2
    refine ⟨by simp, .inl ⟨_, _, rfl, run_takeDeferred hK, ?_⟩⟩
    exact ⟨_, results_tmp (t := 2) rfl _ _ _, ret_nat HC.out, hB.trans (belowK_b (w := w) (Nat.le_refl _) W D _ _ (by omega) hK rfl rfl)⟩
  case stop =>
    rintro D c pre W _ _ h _
    exact h.elim
theorem Count (t : Nd) (A : Option Addr) (c : Nat) (w : World) (hR : RN w t A c) (hsz : t.size ≤ 9223372036854775807) :
    Calls Try.prog 40 #[t.val A c] w fun e w' => e = .returned (.int .i64 t.size) ∧ Below w.heap.size w w' :=
  callsIn_wide.1 (Count_in t A c w hR hsz)
end Go.Proofs.Ytjijfgkmjachnaa
