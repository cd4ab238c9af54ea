/- wide: a tree with a number of nodes. -/
import Derived.Test.YtjijfgkmjachnaaC10
import Derived.Test.YtjijfgkmjachnaaC8
namespace Go.Proofs.Ytjijfgkmjachnaa
set_option linter.unusedVariables false
set_option linter.unusedSimpArgs false
open Go.RowKit

noncomputable def ops25 : Array Oper := ((Try.f25.body.bind (firstReg 4)).getD #[])
def ds25 : List (Option Nat) := [some 9, some 10, some 11, some 12, some 13, some 14, none]
def deps25 : Nat → List Nat
  | 3 => [3, 2]
  | 4 => [4, 3, 1]
  | 6 => [6, 5, 4, 3, 1, 0]
  | j => [j]
def nmA : Nd := nmN sA
def wxs (k : Nat) : List Value := cellsL (List.replicate k nmA) (fun _ => none) (fun _ => 0)
theorem wxs_len (k : Nat) : (wxs k).length = k * 5 := by unfold wxs; rw [cellsL_len, List.length_replicate]
theorem wxs_succ (k : Nat) : wxs (k + 1) = wxs k ++ cells5 nmA none 0 := by
  unfold wxs cellsL
  simp only [List.length_replicate]
  rw [List.range_succ, List.flatMap_append]
  have h1 : ∀ i, i < k + 1 → (List.replicate (k + 1) nmA).getD i (.mk 0 ByteArray.empty 0 0 []) = nmA := fun i hi => by simp [List.getD, List.getElem?_replicate, hi]
  have h2 : ∀ i, i < k → (List.replicate k nmA).getD i (.mk 0 ByteArray.empty 0 0 []) = nmA := fun i hi => by simp [List.getD, List.getElem?_replicate, hi]
  congr 1
  · rw [List.flatMap_def, List.flatMap_def]
    congr 1
    refine List.map_congr_left fun i hi => ?_
    rw [List.mem_range] at hi
    rw [h1 i (by omega), h2 i hi]
  · simp only [List.flatMap_cons, List.flatMap_nil, List.append_nil]
    rw [h1 k (by omega)]
def M25 (p : Nat) (v : Value) : Nat → (Nat → Value) → World → Prop
  | 0, f, _ => f 0 = .pointer (some ⟨p, 4, none⟩)
  | 1, f, _ => f 1 = v
  | 2, f, _ => f 2 = nmA.val none 0
  | 5, f, _ => f 5 = .pointer (some ⟨p, 4, none⟩)
  | _, _, _ => True
theorem M25_w {p : Nat} {v : Value} (j : Nat) {f : Nat → Value} {W : World} (W' : World) (h : M25 p v j f W) : M25 p v j f W' := by
  rcases j with _ | _ | _ | _ | _ | _ | _ | j <;> exact h
structure I25 (w : World) (p k : Nat) (v : Value) (L : Array Bool) (f : Nat → Value) (W : World) : Prop where
  bel : Below w.heap.size w W
  own : L.getD 4 false = false → W.ownsRow w.heap.size 24 5 v k (wxs k)
  pb : W.heap[p]? = some (.cells #[.int .i64 11, .string ⟨#[]⟩, .int .i64 0, .int .i64 0, if L.getD 6 false then f 4 else v] 24 (0, 0))
  b3 : L.getD 3 false = true → L.getD 4 false = false → ∃ g, f 3 = .slice (some ⟨g, 0, none⟩) 1 1 ∧ W.heap[g]? = some (.cells (cells5 nmA none 0).toArray 24 (0, 0)) ∧ v.ownBlock ≠ some g
  o4 : L.getD 4 false = true → ∃ g cap, f 4 = .slice (some ⟨g, 0, none⟩) (k + 1) cap ∧ W.ownsRow w.heap.size 24 5 (f 4) (k + 1) (wxs (k + 1)) ∧ g ≠ p
  l6 : L.getD 6 false = true → L.getD 4 false = true

theorem own_below {W W' : World} {base : Nat} {e : TypeId} {size n : Nat} {v : Value} {xs : List Value} (h : W.ownsRow base e size v n xs) (hb : Below W.heap.size W W') : W'.ownsRow base e size v n xs :=
  h.kept (row := none) ⟨hb.os, hb.tape, hb.output, hb.size, fun k hk _ => hb.block k hk⟩ (by cases hv : v.ownBlock <;> simp)
theorem I25.grow {w : World} {p k : Nat} {v : Value} {L : Array Bool} {f : Nat → Value} {W W' : World} (h : I25 w p k v L f W) (hp : p < W.heap.size) (hb : Below W.heap.size W W') : I25 w p k v L f W' := by
  refine ⟨h.bel.trans (hb.mono h.bel.size), fun l => own_below (h.own l) hb, (hb.block p hp).trans h.pb, fun l l4 => ?_, fun l => ?_, h.l6⟩
  · obtain ⟨g, e, h1, h2⟩ := h.b3 l l4
    have hg : g < W.heap.size := (Array.getElem?_eq_some_iff.1 h1).1
    exact ⟨g, e, (hb.block g hg).trans h1, h2⟩
  · obtain ⟨g, cap, e, h1, h2⟩ := h.o4 l
    exact ⟨g, cap, e, own_below h1 hb, h2⟩
theorem I25.pure {w : World} {p k : Nat} {v : Value} {L : Array Bool} {f : Nat → Value} {W : World} (h : I25 w p k v L f W) (hL : L.size = 7) {i : Nat} (hi : i < 7) (h3 : i ≠ 3) (h4 : i ≠ 4) (h6 : i ≠ 6) (u : Value) : I25 w p k v (L.setIfInBounds i true) (updF f i u) W := by
  have kk : ∀ j, j ≠ i → (L.setIfInBounds i true).getD j false = L.getD j false := fun j hj => by rw [getDs (by omega)]; simp [hj]
  have k3 := kk 3 (Ne.symm h3)
  have k4 := kk 4 (Ne.symm h4)
  have k6 := kk 6 (Ne.symm h6)
  have u3 := updF_other f u (Ne.symm h3)
  have u4 := updF_other f u (Ne.symm h4)
  obtain ⟨h1, h2, h3, h4, h5, h6⟩ := h
  refine ⟨h1, ?_, ?_, ?_, ?_, ?_⟩ <;> simp only [k3, k4, k6, u3, u4] <;> assumption

set_option maxRecDepth 100000 in
set_option maxHeartbeats 1000000 in
theorem region25 (w : World) (p k : Nat) (v : Value) (hk : k ≤ 100000) (hpw : w.heap.size ≤ p) (hvp : v.ownBlock ≠ some p)
    (b : Array Value) (hb : b.size = 17) (b3 : b.getD 3 undef = .pointer (some ⟨p, 0, none⟩)) (Q : Exit → Act → World → Prop) (W0 : World) (hW : Below w.heap.size w W0) (hown : W0.ownsRow w.heap.size 24 5 v k (wxs k))
    (hpb : W0.heap[p]? = some (.cells #[.int .i64 11, .string ⟨#[]⟩, .int .i64 0, .int .i64 0, v] 24 (0, 0)))
    (hend : ∀ (f : Nat → Value) (W : World) (g cap : Nat), Below w.heap.size w W → W.ownsRow w.heap.size 24 5 (.slice (some ⟨g, 0, none⟩) (k + 1) cap) (k + 1) (wxs (k + 1)) → g ≠ p → W.heap[p]? = some (.cells #[.int .i64 11, .string ⟨#[]⟩, .int .i64 0, .int .i64 0, .slice (some ⟨g, 0, none⟩) (k + 1) cap] 24 (0, 0)) → Q .normal ⟨setAll f 0 ds25 b, []⟩ W) :
    (Code.region 4 ops25 true).wp Try.prog Q ⟨b, []⟩ W0 := by
  have hend' : ∀ (L : Array Bool) (f : Nat → Value) (W : World), L.size = 7 → (∀ j, j < 7 → L.getD j false = true) → I25 w p k v L f W → Q .normal ⟨setAll f 0 ds25 b, []⟩ W := fun L f W hL hall hI => by
    obtain ⟨g, cap, e, h1, h2⟩ := hI.o4 (hall 4 (by omega))
    have h3 := hI.pb
    rw [hall 6 (by omega), if_pos rfl, e] at h3
    rw [e] at h1
    exact hend f W g cap hI.bel h1 h2 h3
  refine wp_region_M (by kernel_rfl) (by kernel_rfl) ds25 (by kernel_rfl) (by rw [hb]; decide) (by kernel_rfl) (M25 p v) (I25 w p k v) deps25 (by kernel_rfl) ?_ ?_ ?_ (fun L f W hL hall hI hM => hend' L f W hL hall hI)
  · intro j f f' W h hm
    rcases j with _ | _ | _ | _ | _ | _ | _ | j
    all_goals simp only [deps25, List.mem_cons, List.not_mem_nil, or_false, forall_eq_or_imp, forall_eq, M25, Nat.zero_add, Nat.reduceAdd] at h hm ⊢
    all_goals first | trivial | (rw [← h]; exact hm)
  · refine ⟨hW.drew, fun _ => hown.kept (row := none) ⟨rfl, rfl, rfl, Nat.le_refl _, fun _ _ _ => rfl⟩ (by cases hv : v.ownBlock <;> simp), ?_, ?_, ?_, ?_⟩
    · simp [Array.getD]; exact hpb
    all_goals (intro e; exact absurd e (by simp [Array.getD]))
  intro i o L f a' W ho hs hI hM hf hpre hbs hsl hdc K hK
  have hL : L.size = 7 := hs
  have hi : i < 7 := (Array.getElem?_eq_some_iff.1 ho).1
  conv at ho => lhs; arg 1; whnf
  have hpb' := hI.pb
  have hpl : p < W.heap.size := (Array.getElem?_eq_some_iff.1 hpb').1
  have s3 := (hbs 3 (by decide)).trans b3
  have s3' : a'.tmps[3]?.getD undef = .pointer (some ⟨p, 0, none⟩) := by rw [← Array.getD_eq_getD_getElem?]; exact s3
  have HK := Lib.hid hK
  clear hK hbs b3
  rcases i with _ | _ | _ | _ | _ | _ | _ | i
  -- operation 0
  · simp only [List.getElem?_toArray, List.getElem?_cons_zero, List.getElem?_cons_succ, Option.some.injEq] at ho
    subst ho
    simp only [Nat.zero_add, Nat.reduceAdd] at hf hpre ⊢
    have HQ := Lib.hid (HK.out (.pointer (some ⟨p, 4, none⟩)) W (hI.pure hL (by omega) (by omega) (by omega) (by omega) _) (fun _ _ _ h => h) (by simp [M25, updF_same]))
    clear hI hM hpre hsl HK
    go_simp
    exact HQ.out
  -- operation 1
  · simp only [List.getElem?_toArray, List.getElem?_cons_zero, List.getElem?_cons_succ, Option.some.injEq] at ho
    subst ho
    simp only [Nat.zero_add, Nat.reduceAdd] at hf hpre ⊢
    have l0 := (hpre ⟨0, .data⟩ (by simp) rfl)
    have q0 := (hsl 0 9 l0 rfl).trans (hM 0 l0)
    have q0' : a'.tmps[9]?.getD undef = .pointer (some ⟨p, 4, none⟩) := by rw [← Array.getD_eq_getD_getElem?]; exact q0
    have l6 : L.getD 6 false = false := by cases hq : L.getD 6 false with | false => rfl | true => (have := hdc 6 hq 1 (by simp [deps25]); rw [hf] at this; cases this)
    rw [l6, if_neg (by simp)] at hpb'
    have c1 : W.cell? ⟨p, 4, none⟩ = some v := by simp [World.cell?, hpb']
    have HQ := Lib.hid (HK.out (v) W (hI.pure hL (by omega) (by omega) (by omega) (by omega) _) (fun _ _ _ h => h) (by simp [M25, updF_same]))
    clear hI hM hpre hsl HK
    go_simp
    exact HQ.out
  -- operation 2
  · simp only [List.getElem?_toArray, List.getElem?_cons_zero, List.getElem?_cons_succ, Option.some.injEq] at ho
    subst ho
    simp only [Nat.zero_add, Nat.reduceAdd] at hf hpre ⊢
    have HC := Lib.hid (name sA W)
    go_simp
    refine HC.out.mono ?_
    rintro e w' ⟨rfl, hb⟩
    exact HK.out _ _ ((hI.grow hpl hb).pure hL (by omega) (by omega) (by omega) (by omega) _) (fun j _ _ h => M25_w j _ h) (by simp [M25, updF_same]; rfl)
  -- operation 3
  · simp only [List.getElem?_toArray, List.getElem?_cons_zero, List.getElem?_cons_succ, Option.some.injEq] at ho
    subst ho
    simp only [Nat.zero_add, Nat.reduceAdd] at hf hpre ⊢
    have l2 := (hpre ⟨2, .data⟩ (by simp) rfl)
    have q2 := (hsl 2 11 l2 rfl).trans (hM 2 l2)
    have q2' : a'.tmps[11]?.getD undef = nmA.val none 0 := by rw [← Array.getD_eq_getD_getElem?]; exact q2
    have l4 : L.getD 4 false = false := by cases hq : L.getD 4 false with | false => rfl | true => (have := hdc 4 hq 3 (by simp [deps25]); rw [hf] at this; cases this)
    have kk : ∀ j, j ≠ 3 → (L.setIfInBounds 3 true).getD j false = L.getD j false := fun j hj => by rw [getDs (by omega)]; simp [hj]
    have hb : Below W.heap.size W (W.alloc (.cells (cells5 nmA none 0).toArray 24)) := (Below.refl _ _).alloc (Nat.le_refl _) _
    have hg := hI.grow hpl hb
    have hv : v.ownBlock ≠ some W.heap.size := fun e => by have := (hI.own l4).lt _ e; omega
    have HQ := Lib.hid (HK.out (.slice (some ⟨W.heap.size, 0, none⟩) 1 1) (W.alloc (.cells (cells5 nmA none 0).toArray 24)) (by
      refine ⟨hg.bel, ?_, ?_, ?_, ?_, ?_⟩ <;> simp only [kk 4 (by omega), kk 6 (by omega), updF_other f _ (show 4 ≠ 3 by omega), updF_same]
      · exact hg.own
      · exact hg.pb
      · intro _ _; exact ⟨_, rfl, heap_alloc_new _ _, hv⟩
      · exact hg.o4
      · exact hg.l6) (fun j _ _ h => M25_w j _ h) trivial)
    clear hI hM hpre hsl HK hg hb
    unfold nmA nmN Nd.val at q2 q2'
    simp only [Nd.kind, Nd.text, Nd.pos, Nd.fin, Nd.kids, List.length_nil] at q2 q2'
    unfold nmA nmN cells5 at HQ
    simp only [Nd.kind, Nd.text, Nd.pos, Nd.fin, Nd.kids, List.length_nil] at HQ
    go_simp
    exact HQ.out
  -- operation 4
  · simp only [List.getElem?_toArray, List.getElem?_cons_zero, List.getElem?_cons_succ, Option.some.injEq] at ho
    subst ho
    simp only [Nat.zero_add, Nat.reduceAdd] at hf hpre ⊢
    have l1 := (hpre ⟨1, .data⟩ (by simp) rfl)
    have l3 := (hpre ⟨3, .data⟩ (by simp) rfl)
    have q1 := (hsl 1 10 l1 rfl).trans (hM 1 l1)
    obtain ⟨g0, e3, hh0, hvg⟩ := hI.b3 l3 hf
    have q3 := (hsl 3 12 l3 rfl).trans e3
    have l6 : L.getD 6 false = false := by cases hq : L.getD 6 false with | false => rfl | true => (have := hI.l6 hq; rw [hf] at this; cases this)
    rw [l6, if_neg (by simp)] at hpb'
    obtain ⟨i0, hi0, hz0, hz1, hz2⟩ := info_parts inf24
    have kk : ∀ j, j ≠ 4 → (L.setIfInBounds 4 true).getD j false = L.getD j false := fun j hj => by rw [getDs (by omega)]; simp [hj]
    have k4 : (L.setIfInBounds 4 true).getD 4 false = true := by rw [getDs (by omega)]; simp
    refine wp_append_lies W _ _ 22 rfl w.heap.size 24 i0 _ 5 64 Try.underlying22 hi0 hz0 hz1 hz2 rfl (by omega) v k (wxs k) q1 (hI.own hf) ⟨g0, 0, none⟩ 1 1 (cells5 nmA none 0) q3 rfl (World.news_of_block hh0) (by simp [cells5, Value.oneCell']) (by omega) (by unfold maxLen; omega) (by omega) hI.bel.size _ rfl ?_
    intro g cap w1 ho1 hg1 hat hlt
    have hgp : g ≠ p := by
      rintro rfl
      rcases hat with hat | hat
      · exact hvp hat
      · omega
    refine HK.out _ w1 ?_ (fun j _ _ h => M25_w j _ h) trivial
    refine ⟨hI.bel.grown hg1 hI.bel.size (fun q hq => ((hI.own hf).lt q hq).1), ?_, ?_, ?_, ?_, ?_⟩ <;> simp only [k4, kk 3 (by omega), kk 6 (by omega), updF_other f _ (show 3 ≠ 4 by omega), updF_same]
    · intro h; cases h
    · rw [l6, if_neg (by simp)]
      exact (hg1.block p hpl (fun h => hvp h.symm)).trans hpb'
    · intro _ h; cases h
    · intro _
      refine ⟨g, cap, rfl, ?_, hgp⟩
      rw [wxs_succ]
      exact ho1
    · intro _; trivial
  -- operation 5
  · simp only [List.getElem?_toArray, List.getElem?_cons_zero, List.getElem?_cons_succ, Option.some.injEq] at ho
    subst ho
    simp only [Nat.zero_add, Nat.reduceAdd] at hf hpre ⊢
    have HQ := Lib.hid (HK.out (.pointer (some ⟨p, 4, none⟩)) W (hI.pure hL (by omega) (by omega) (by omega) (by omega) _) (fun _ _ _ h => h) (by simp [M25, updF_same]))
    clear hI hM hpre hsl HK
    go_simp
    exact HQ.out
  -- operation 6
  · simp only [List.getElem?_toArray, List.getElem?_cons_zero, List.getElem?_cons_succ, Option.some.injEq] at ho
    subst ho
    simp only [Nat.zero_add, Nat.reduceAdd] at hf hpre ⊢
    have l5 := (hpre ⟨5, .data⟩ (by simp) rfl)
    have l4 := (hpre ⟨4, .data⟩ (by simp) rfl)
    have q5 := (hsl 5 14 l5 rfl).trans (hM 5 l5)
    obtain ⟨g, cap, e4, ho4, hgp⟩ := hI.o4 l4
    have q4 := (hsl 4 13 l4 rfl).trans e4
    have q5' : a'.tmps[14]?.getD undef = .pointer (some ⟨p, 4, none⟩) := by rw [← Array.getD_eq_getD_getElem?]; exact q5
    have q4' : a'.tmps[13]?.getD undef = .slice (some ⟨g, 0, none⟩) (k + 1) cap := by rw [← Array.getD_eq_getD_getElem?]; exact q4
    rw [hf, if_neg (by simp)] at hpb'
    have c1 : W.cell? ⟨p, 4, none⟩ = some v := by simp [World.cell?, hpb']
    have c2 : W.frozen? ⟨p, 4, none⟩ = false := by simp [World.frozen?, hpb']
    have kk : ∀ j, j ≠ 6 → (L.setIfInBounds 6 true).getD j false = L.getD j false := fun j hj => by rw [getDs (by omega)]; simp [hj]
    have k6 : (L.setIfInBounds 6 true).getD 6 false = true := by rw [getDs (by omega)]; simp
    have hpn : (W.setCell ⟨p, 4, none⟩ (.slice (some ⟨g, 0, none⟩) (k + 1) cap)).heap[p]? = some (.cells #[.int .i64 11, .string ⟨#[]⟩, .int .i64 0, .int .i64 0, .slice (some ⟨g, 0, none⟩) (k + 1) cap] 24 (0, 0)) := by
      simp only [World.setCell, Array.getElem?_modify, if_true, hpb']
      rfl
    have HQ := Lib.hid (HK.out undef (W.setCell ⟨p, 4, none⟩ (.slice (some ⟨g, 0, none⟩) (k + 1) cap)) (by
      refine ⟨hI.bel.setCell (p := ⟨p, 4, none⟩) hpw _, ?_, ?_, ?_, ?_, ?_⟩ <;> simp only [k6, kk 3 (by omega), kk 4 (by omega), updF_other f _ (show 3 ≠ 6 by omega), updF_other f _ (show 4 ≠ 6 by omega), l4]
      · intro h; cases h
      · simp only [if_true]; rw [e4]; exact hpn
      · intro _ h; cases h
      · intro _
        refine ⟨g, cap, e4, ?_, hgp⟩
        rw [e4] at ho4 ⊢
        refine ho4.kept (row := some p) ⟨rfl, rfl, rfl, by simp [World.setCell], fun q hq hne => Below.heap_setCell W _ _ q (fun h => hne (by rw [h]))⟩ (.inr (by simpa [Value.ownBlock] using hgp))
      · intro _; trivial) (fun j _ _ h => M25_w j _ h) trivial)
    clear hI hM hpre hsl HK
    go_simp
    exact HQ.out
  · omega
end Go.Proofs.Ytjijfgkmjachnaa
