/- list, walked. -/
import Derived.Test.YtjijfgkmjachnaaT69
import Derived.Deep.AppendLies
namespace Go.Proofs.Ytjijfgkmjachnaa
set_option linter.unusedVariables false
set_option linter.unusedSimpArgs false
open Go.RowKit

theorem inf73 : (Try.prog.info? 73).map (fun i => (i.zero, i.size, i.bytes)) = some (some (.agg #[(.int .i64 0), (.string ⟨#[]⟩), (.int .i64 0), (.int .i64 0), (.slice none 0 0), (.int .i64 0)]), 6, 72) := by kernel_rfl
theorem kids_len (t : Nd) : t.kids.length ≤ Nd.sizes t.kids := by
  have : ∀ l : List Nd, l.length ≤ Nd.sizes l := by
    intro l
    induction l with
    | nil => simp
    | cons a l ih => rw [Nd.sizes_cons, List.length_cons]; have := a.size_pos; omega
  exact this t.kids
theorem own_belowL {W W' : World} {base : Nat} {e : TypeId} {size n : Nat} {v : Value} {xs : List Value} (h : W.ownsRow base e size v n xs) (hb : Below W.heap.size W W') : W'.ownsRow base e size v n xs :=
  h.kept (row := none) ⟨hb.os, hb.tape, hb.output, hb.size, fun k hk _ => hb.block k hk⟩ (by cases hv : v.ownBlock <;> simp)
def RNall (w : World) (l : List (Nd × Nat)) (As : Nat → Option Addr) (cs : Nat → Nat) : Prop := ∀ i (h : i < l.length), RN w l[i].1 (As i) (cs i)
theorem RNall.keep {w w1 : World} (hb : Below w.heap.size w w1) {l : List (Nd × Nat)} {As : Nat → Option Addr} {cs : Nat → Nat} (h : RNall w l As cs) : RNall w1 l As cs := fun i hi => RN.keep hb (h i hi)
theorem RNall.app {w : World} {l l' : List (Nd × Nat)} {As As' : Nat → Option Addr} {cs cs' : Nat → Nat} (h : RNall w l As cs) (h' : RNall w l' As' cs') : RNall w (l ++ l') (glue l.length As As') (glue l.length cs cs') := fun i hi => by
  unfold glue
  by_cases hlt : i < l.length
  · rw [List.getElem_append_left hlt, if_pos hlt, if_pos hlt]; exact h i hlt
  · rw [List.getElem_append_right (by omega), if_neg hlt, if_neg hlt]
    exact h' _ (by rw [List.length_append] at hi; omega)
/-- what the loop has collected -/
def Coll (w0 w : World) (base : Nat) (v : Value) (m : Nat) (l : List (Nd × Nat)) : Prop := ∃ As cs, w.ownsRow base 73 6 v m (rowL As cs 0 l) ∧ m = l.length ∧ RNall w0 l As cs

theorem RNall.tl {w : World} {t : Nd} {a b : Nat} {l : List (Nd × Nat)} {As : Nat → Option Addr} {cs : Nat → Nat} (h : RNall w ((t, a) :: l) As cs) : RNall w ((t, b) :: l) As cs := fun i hi => by
  cases i with
  | zero => exact h 0 (by simp)
  | succ i => exact h (i + 1) (by simpa using hi)

set_option maxRecDepth 100000 in
set_option maxHeartbeats 2000000 in
theorem listW (w0 : World) (n : Nat) : ∀ (t : Nd) (p : Nat) (A : Option Addr) (c : Nat) (w : World), t.size ≤ n → RN w0 t A c → Below w0.heap.size w0 w → p + t.size ≤ 1000000 →
    Calls Try.prog 18 #[t.val A c, .int .i64 (p : Nat)] w fun e w' => (∃ g cap, e = .returned (.slice (some ⟨g, 0, none⟩) t.size cap) ∧ Coll w0 w' w.heap.size (.slice (some ⟨g, 0, none⟩) t.size cap) t.size (pre [t] p)) ∧ Below w.heap.size w w' := by
  induction n with
  | zero => intro t p A c w h _; have := t.size_pos; omega
  | succ n ih =>
    intro t p A c w hn hR0 hB0 hp
    have hR := RN.keep hB0 hR0
    have HR0 := Lib.hid hR0
    have HB0 := Lib.hid hB0
    clear hR0 hB0
    have IH := Lib.hid ih
    clear ih
    have ht := t.size_eq
    have hkl := kids_len t
    have HR := Lib.hid hR
    have hkl6 : t.kids.length ≤ 1000000 := by omega
    obtain ⟨i73, hi73, hz0, hz1, hz2⟩ := info_parts inf73
    have HT := Lib.hid ht
    clear hR ht
    unfold Nd.val
    go_enter Try.func18, Try.ntmps18
    go_wp2_with fail
    obtain ⟨w2, hw2⟩ : ∃ w2, (w.alloc (.cells #[.int .i64 t.kind, .string t.text, .int .i64 t.pos, .int .i64 t.fin, .slice A t.kids.length c] 24)).alloc (.cells #[.int .i64 t.kind, .string t.text, .int .i64 t.pos, .int .i64 t.fin, .slice A t.kids.length c, .int .i64 0] 73) = w2 := ⟨_, rfl⟩
    rw [hw2]
    have hb2 : Below w.heap.size w w2 := by rw [← hw2]; exact ((Below.refl _ _).alloc (Nat.le_refl _) _).alloc (by simp) _
    have hh2 : w2.heap[w.heap.size + 1]? = some (.cells (cells6 (t, 0) A c).toArray 73 (0, 0)) := by
      rw [← hw2]
      have := heap_alloc_new (w.alloc (.cells #[.int .i64 t.kind, .string t.text, .int .i64 t.pos, .int .i64 t.fin, .slice A t.kids.length c] 24)) (.cells (cells6 (t, 0) A c).toArray 73)
      simpa [cells6, cells5] using this
    have hc2 : Coll w0 w2 w.heap.size (.slice (some ⟨w.heap.size + 1, 0, none⟩) 1 1) 1 [(t, 0)] := by
      refine ⟨fun _ => A, fun _ => c, ⟨by simp [rowL, cells6, cells5], .inr ⟨w.heap.size + 1, 1, _, rfl, by omega, hh2, Nat.le_refl _, by simp [maxLen], by simp [cells6, cells5], by simp [rowL, cells6, cells5]⟩⟩, rfl, fun i hi => ?_⟩
      obtain rfl : i = 0 := by simp at hi; exact hi
      exact HR0.out
    have HB2 := Lib.hid hb2
    have HC2 := Lib.hid hc2
    clear hw2 hb2 hh2 hc2
    go_loopw [5, 14] (fun v s wr => ∃ (i m g cap : Nat), s = .int .i64 i ∧ v = .slice (some ⟨g, 0, none⟩) m cap ∧ i ≤ t.kids.length ∧ m ≤ 1000000 ∧ Hid (m = 1 + Nd.sizes (t.kids.take i)) ∧ Hid (Coll w0 wr w.heap.size (.slice (some ⟨g, 0, none⟩) m cap) m ((t, 0) :: pre (t.kids.take i) (p + 1)) ∧ Below w.heap.size w wr)) (fun _ s _ => t.kids.length - (intOf s).toNat)
    case atStart => exact ⟨0, 1, _, 1, rfl, rfl, Nat.zero_le _, by omega, Lib.hid (by simp [Nd.sizes_nil]), Lib.hid ⟨HC2.out, HB2.out⟩⟩
    case round =>
      obtain ⟨i, m, g, cap, rfl, rfl, hi, hm, HM, HRW⟩ := hrel
      by_cases hlt : i < t.kids.length
      · obtain ⟨b, o, A', c', rfl, hcell0, hrk⟩ := HR0.out.get i hlt
        have hcell := hcell0.keep HB0.out hcell0.lt
        clear hcell0
        have htk := sizes_take_succ t.kids i hlt
        have htl := sizes_take_le t.kids (i + 1)
        have hks := Nd.size_get t i hlt
        have hrow := hcell.keep HRW.out.2 hcell.lt
        obtain ⟨k, hk⟩ : ∃ k, t.kids[i] = k := ⟨_, rfl⟩
        rw [hk] at hrow hrk htk hks
        have HK := Lib.hid hk
        have HRK := Lib.hid hrk
        have HTK := Lib.hid htk
        have hmm : m + k.size ≤ t.size := by have := HM.out; have := HT.out; omega
        have HPM := Lib.hid (show ((p : Nat) : Int) + ((m : Nat) : Int) = ((p + m : Nat) : Int) by omega)
        have hwr : IntKind.i64.wrap (((p : Nat) : Int) + ((m : Nat) : Int)) = (p : Int) + (m : Int) := IntWalk.i64_in _ (by omega)
        obtain ⟨r0, r1, r2, r3, r4⟩ := hrow
        clear hk hrk hcell htk
        have HAL := Lib.hid ((Below.refl wr.heap.size wr).alloc (Nat.le_refl _) (.cells #[.int .i64 k.kind, .string k.text, .int .i64 k.pos, .int .i64 k.fin, .slice A' k.kids.length c'] 24))
        go_wp2_with fail
        rw [HPM.out]
        refine (IH.out k (p + m) A' c' _ (by omega) HRK.out (HB0.out.trans (((HRW.out.2).trans (HAL.out.mono HRW.out.2.size)).mono HB0.out.size)) (by omega)).mono ?_
        rintro e w3 ⟨⟨g2, cap2, rfl, hcoll2⟩, hb3⟩
        obtain ⟨As1, cs1, ho1, hm1, hr1⟩ := HRW.out.1
        obtain ⟨As2, cs2, ho2, hm2, hr2⟩ := hcoll2
        have hb03 : Below wr.heap.size wr w3 := HAL.out.trans (hb3.mono HAL.out.size)
        have ho3 := own_belowL ho1 hb03
        have hkp := k.size_pos
        have hn2 := ho2.cells (g := g2) rfl
        have hw3 : w.heap.size ≤ w3.heap.size := Nat.le_trans HRW.out.2.size hb03.size
        have HB03 := Lib.hid hb03
        have HR1 := Lib.hid (And.intro hr1 (And.intro hr2 (And.intro hm1 hm2)))
        have HO2L := Lib.hid (And.intro hn2 (show (rowL As2 cs2 0 (pre [k] (p + m))).length = k.size * 6 by rw [rowL_len, ← hm2]))
        clear ho1 ho2 hm1 hm2 hr1 hr2 hb3 hb03 hn2 r0 r1 r2 r3 r4
        have HO3 := Lib.hid ho3
        clear ho3
        have HMB := Lib.hid hmm
        clear hwr
        go_wp2_with (at_builtin; refine wpList_append_lies _ rfl _ _ 38 rfl w.heap.size 73 i73 _ 6 72 Try.underlying38 hi73 hz0 hz1 hz2 rfl (by decide) (.slice (some ⟨g, 0, none⟩) m cap) m (rowL As1 cs1 0 ((t, 0) :: pre (t.kids.take i) (p + 1))) (by rfl) ?hown ⟨g2, 0, none⟩ k.size cap2 (rowL As2 cs2 0 (pre [k] (p + m))) (by rfl) ?hlen ?hnews (rowL_one _ _ _ _) hkp ?h63 ?hby ?hbase w3.heap.size rfl ?_)
        case hown => exact HO3.out
        case hlen => exact HO2L.out.2
        case hnews =>
          intro j u hu
          have := HO2L.out.1 j u hu
          simpa [Go.WideShapes.add_plain] using this
        case h63 => unfold maxLen; omega
        case hby => omega
        case hbase => exact hw3
        intro g' cap' w4 hown4 hgrow hat hglt
        have hb4 : Below w.heap.size w w4 := (HRW.out.2.trans (HB03.out.mono HRW.out.2.size)).grown hgrow hw3 (fun q hq => by have := HO3.out.lt q hq; omega)
        have HX := Lib.hid (And.intro hown4 (And.intro hgrow hb4))
        clear hown4 hgrow hb4 hat
        go_wp2_with fail
        go_roundw
        case rel =>
          obtain ⟨hown4, hgrow, hb4⟩ := HX.out
          have hl : (t, 0) :: pre (t.kids.take (i + 1)) (p + 1) = ((t, 0) :: pre (t.kids.take i) (p + 1)) ++ pre [k] (p + m) := by
            rw [List.take_succ_eq_append_getElem hlt, HK.out, pre_app, List.cons_append, show p + 1 + Nd.sizes (t.kids.take i) = p + m by have := HM.out; omega]
          have hk1 : (pre [k] (p + m)).length = k.size := by rw [pre_len, Nd.sizes_cons, Nd.sizes_nil]; omega
          refine ⟨i + 1, m + k.size, g', cap', by go_num, rfl, by omega, by omega, Lib.hid (by have := HM.out; have := HTK.out; omega), Lib.hid ⟨?_, hb4⟩⟩
          obtain ⟨hr1, hr2, hm1, hm2⟩ := HR1.out
          refine ⟨glue ((t, 0) :: pre (t.kids.take i) (p + 1)).length As1 As2, glue ((t, 0) :: pre (t.kids.take i) (p + 1)).length cs1 cs2, ?_, ?_, ?_⟩
          · rw [hl, rowL_glue]; exact hown4
          · rw [hl, List.length_append, ← hm1, hk1]
          · rw [hl]; exact hr1.app hr2
        case measure => simp [intOf]; omega
      · obtain rfl : i = t.kids.length := by omega
        obtain ⟨As, cs, ho, hml, hr⟩ := HRW.out.1
        rw [List.take_length] at HM
        have hm1 : m = t.size := by have := HM.out; have := HT.out; omega
        subst hm1
        have hp2 := t.size_pos
        have c5 : wr.cell? ⟨g, 5, none⟩ = some (.int .i64 0) := by
          rw [ho.cellAt 5 (by omega), rowL_get As cs _ 0 0 5 (by simp) (by omega)]; rfl
        have f5 := ho.frozenAt 5
        have HO := Lib.hid ho
        have HPM := Lib.hid (show ((p : Nat) : Int) + ((t.size : Nat) : Int) = ((p + t.size : Nat) : Int) by omega)
        have hwr : IntKind.i64.wrap (((p : Nat) : Int) + ((t.size : Nat) : Int)) = (p : Int) + (t.size : Int) := IntWalk.i64_in _ (by omega)
        have HML := Lib.hid hml
        have HRA := Lib.hid hr
        clear ho hml hr
        go_wp2_with fail
        go_ret
        have hst := HO.out.stored 5 (.int .i64 ((p : Int) + (t.size : Int)))
        refine ⟨⟨g, cap, rfl, As, cs, ?_, ?_, ?_⟩, ?_⟩
        · have h1 := hst.1
          rw [HPM.out, List.take_length] at h1
          rw [HPM.out]
          rw [pre_cons, List.append_nil]
          exact h1
        · rw [pre_len, Nd.sizes_cons, Nd.sizes_nil]; rfl
        · rw [pre_cons, List.append_nil]
          have h1 := HRA.out
          rw [List.take_length] at h1
          exact h1.tl
        · exact (HRW.out.2.grown hst.2 HRW.out.2.size (fun q hq => (HO.out.lt q (by rw [← hq]; rfl)).1))
end Go.Proofs.Ytjijfgkmjachnaa
