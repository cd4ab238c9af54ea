import Derived.Test.YtjijfgkmjachnaaT4
import Derived.RangeFuncNested
import Derived.RangeFuncBound
import Derived.RangeFuncCalls
import Derived.RangeFuncLeaves
import Derived.Shelf.Abstract
import Derived.Shelf.RegionOpen
import Derived.OwnWalkIn
import Derived.TacticsInMore
import Derived.LoopNIn
import Derived.LoopIn
namespace Go.Proofs.Ytjijfgkmjachnaa
set_option linter.unusedVariables false
set_option linter.unusedSimpArgs false
open Go.RowKit Go.Shelf
attribute [local go_sem] Oper.semAt_some

/-- All cells outside S are as they were. -/
structure KC (S : Nat → Prop) (w W : World) : Prop where
  size : w.heap.size ≤ W.heap.size
  cells : ∀ k c t f, ¬ S k → w.heap[k]? = some (.cells c t f) → W.heap[k]? = some (.cells c t f)
theorem KC.refl (S : Nat → Prop) (w : World) : KC S w w := ⟨Nat.le_refl _, fun _ _ _ _ _ h => h⟩
theorem KC.trans {S : Nat → Prop} {a b c : World} (h : KC S a b) (k : KC S b c) : KC S a c :=
  ⟨Nat.le_trans h.size k.size, fun i x t f hs hi => k.cells i x t f hs (h.cells i x t f hs hi)⟩
theorem KC.alloc (S : Nat → Prop) (w : World) (o : Obj) : KC S w (w.alloc o) :=
  ⟨by simp, fun k c t f _ h => by rw [Below.heap_alloc w o k (Array.getElem?_eq_some_iff.1 h).1]; exact h⟩
theorem KC.setCell {S : Nat → Prop} {w : World} {a : Addr} (hs : S a.block) (v : Value) : KC S w (w.setCell a v) :=
  ⟨by simp [World.setCell], fun k c t f hk h => by rw [Below.heap_setCell w a v k (by rintro rfl; exact hk hs)]; exact h⟩
theorem KC.putObj {S : Nat → Prop} {w : World} {l : Nat} {o : Obj} (h : w.heap[l]? = some o) (ho : o.isCells = false) (o' : Obj) : KC S w (w.putObj l o') := by
  have hg := grownBy_putObj' w l o'
  refine ⟨hg.size, fun k c t f _ hk => ?_⟩
  have hne : k ≠ l := by rintro rfl; rw [h] at hk; injection hk with hk; subst hk; simp [Obj.isCells] at ho
  rw [hg.block k (Array.getElem?_eq_some_iff.1 hk).1 (by simpa using hne)]; exact hk
theorem KC.cell {S : Nat → Prop} {w W : World} (h : KC S w W) {a : Addr} {v : Value} (hs : ¬ S a.block) (hc : w.cell? a = some v) : W.cell? a = some v := by
  unfold World.cell? at hc ⊢
  cases hb : w.heap[a.block]? with
  | none => rw [hb] at hc; simp at hc
  | some o =>
    cases o <;> rw [hb] at hc <;> simp at hc
    rename_i c t f
    rw [h.cells _ _ _ _ hs hb]; simpa using hc
theorem RN.keepC {S : Nat → Prop} {w W : World} (h : KC S w W) (hS : ∀ k, S k → w.heap.size ≤ k) {t : Nd} {A : Option Addr} {c : Nat} (hr : RN w t A c) : RN W t A c := by
  induction hr with
  | mk t b o c As cs hc hm hcell _ ih =>
    refine .mk t b o c As cs hc hm (fun i hi => ?_) ih
    have hlt : ¬ S b := fun hs => by have := (hcell i hi).lt; have := hS b hs; omega
    exact ⟨h.cell (a := ⟨b, _, none⟩) hlt (hcell i hi).c0, h.cell (a := ⟨b, _, none⟩) hlt (hcell i hi).c1, h.cell (a := ⟨b, _, none⟩) hlt (hcell i hi).c2, h.cell (a := ⟨b, _, none⟩) hlt (hcell i hi).c3, h.cell (a := ⟨b, _, none⟩) hlt (hcell i hi).c4⟩
  | nil t c A h => exact .nil t c A h

theorem At5.keepC {S : Nat → Prop} {w W : World} (h : KC S w W) (hS : ∀ k, S k → w.heap.size ≤ k) {b o : Nat} {t : Nd} {A : Option Addr} {c : Nat} (hr : At5 w b o t A c) : At5 W b o t A c := by
  have hlt : ¬ S b := fun hs => by have := hr.lt; have := hS b hs; omega
  exact ⟨h.cell (a := ⟨b, _, none⟩) hlt hr.c0, h.cell (a := ⟨b, _, none⟩) hlt hr.c1, h.cell (a := ⟨b, _, none⟩) hlt hr.c2, h.cell (a := ⟨b, _, none⟩) hlt hr.c3, h.cell (a := ⟨b, _, none⟩) hlt hr.c4⟩
abbrev FW : Fence := Fence.wide
theorem RangeFuncAny.any {m : Nat} (m' : Nat) {P : Program} {l : Nat} {args : Array Value} {W : World} {R : Ending → World → Prop} (h : YieldAt FW m P l args W R) : YieldAt FW m' P l args W R := by
  obtain ⟨fn, tmps, assign, body, hy, hR⟩ := h
  exact ⟨fn, tmps, assign, body, hy, hR.1, fun c cs _ => hR.2 c cs (fun d h => by cases h)⟩

set_option maxRecDepth 100000 in
set_option maxHeartbeats 1000000 in
theorem visit_in (l Bs N : Nat) (w0 : World) (hBs : w0.heap.size ≤ Bs) (B : Nat) (J Jx : List Value → World → Prop) (hJ : AbidesFrom B J)
    (hY : ∀ m pre x W, J pre W → pre.length < N → YieldAt FW m Try.prog l #[x] W fun e W' =>
      (e = .returned (.bool true) ∧ J (pre ++ [x]) W' ∧ KC (· = Bs) W W') ∨ (e = .returned (.bool false) ∧ Jx (pre ++ [x]) W')) (n : Nat) :
    ∀ (t : Nd) (A : Option Addr) (c : Nat) (m : Nat) (pre : List Value) (W : World), t.size ≤ n → RN w0 t A c → KC (· = Bs) w0 W → Bs < W.heap.size → J pre W → pre.length + t.size ≤ N →
      CallsIn FW m Try.prog 50 #[t.val A c, .func (.yield l) #[] #[]] W fun e W' =>
        (e = .returned (.bool true) ∧ (∃ q : List Value, q.length = t.size ∧ J (pre ++ q) W') ∧ KC (· = Bs) W W') ∨ (e = .returned (.bool false) ∧ ∃ pre', Jx pre' W') := by
  induction n with
  | zero => intro t A c m pre W h; have := t.size_pos; omega
  | succ n ih =>
    intro t A c m pre W hn hR hK hB2 hj hN
    have hlen := hR.len
    have hy := hY (m - 1) pre (t.val A c) (W.alloc (.cells #[.int .i64 t.kind, .string t.text, .int .i64 t.pos, .int .i64 t.fin, .slice A t.kids.length c] 24)) (hJ _ _ _ none hj (World.grownBy_alloc W _ none) (fun r e => by cases e)) (by have := t.size_pos; omega)
    have hIH := Lib.hid ih
    clear ih
    unfold Nd.val at hy ⊢
    refine callsIn_of_wp Try.func50 rfl trivial ?_ rfl
    simp only [Try.ntmps50, List.size_toArray, List.length_cons, List.length_nil, Nat.reduceAdd, Nat.reduceSub, Array.replicate_succ, Array.replicate_zero, List.push_toArray, List.append_toArray, List.nil_append, List.cons_append]
    obtain ⟨fn, tmps, assign, body, hy1, hR1⟩ := hy
    have HR1 := Lib.hid hR1
    clear hR1
    gi_wp2_with fail
    refine ⟨fun h => (by cases h), ?_⟩
    refine HR1.out.mono ?_
    clear HR1 hy1
    have hsz : (W.alloc (.cells #[.int .i64 t.kind, .string t.text, .int .i64 t.pos, .int .i64 t.fin, .slice A t.kids.length c] 24)).heap.size = W.heap.size + 1 := by simp
    rintro e W1 (⟨rfl, hj1, hk1⟩ | ⟨rfl, hx1⟩)
    · have hKW : KC (· = Bs) W W1 := (KC.alloc _ W _).trans hk1
      have hb4 : W1.cell? ⟨W.heap.size, 4, none⟩ = some (.slice A t.kids.length c) := hk1.cell (a := ⟨W.heap.size, 4, none⟩) (by simp; omega) (by simp)
      clear hk1 hsz
      gi_wp2_with fail
      gi_loopw [14] (fun i wr => ∃ k : Nat, k ≤ t.kids.length ∧ i = .int .i64 k ∧ KC (· = Bs) W wr ∧ ∃ q : List Value, q.length = 1 + Nd.sizes (t.kids.take k) ∧ J (pre ++ q) wr) (fun i _ => t.kids.length - (intOf i).toNat)
      case atStart => exact ⟨0, Nat.zero_le _, rfl, hKW, [_], by simp [Nd.sizes_nil], hj1⟩
      case round =>
        obtain ⟨k, hk, rfl, hKr, q, hq, hjq⟩ := hrel
        have hse := t.size_eq
        by_cases hlk : k < t.kids.length
        · obtain ⟨b, o, A', c', rfl, h5, hRk⟩ := hR.get k hlk
          obtain ⟨p0, p1, p2, p3, p4⟩ := h5.keepC (hK.trans hKr) (by rintro k rfl; exact hBs)
          have hsk := t.size_get k hlk
          have hts := sizes_take_succ t.kids k hlk
          have hle := sizes_take_le t.kids (k + 1)
          have hal := World.grownBy_alloc wr (.cells #[.int .i64 t.kids[k].kind, .string t.kids[k].text, .int .i64 t.kids[k].pos, .int .i64 t.kids[k].fin, .slice A' t.kids[k].kids.length c'] 24) none
          have hrec := hIH.out t.kids[k] A' c' (m - 1) (pre ++ q) (wr.alloc (.cells #[.int .i64 t.kids[k].kind, .string t.kids[k].text, .int .i64 t.kids[k].pos, .int .i64 t.kids[k].fin, .slice A' t.kids[k].kids.length c'] 24)) (by omega) hRk ((hK.trans hKr).trans (KC.alloc _ _ _)) (by have := hKr.size; simp; omega) (hJ _ _ _ none hjq hal (fun r e => by cases e)) (by simp; omega)
          have HREC := Lib.hid hrec
          clear hrec hal
          clear hse hts hle
          gi_wp2_with fail
          refine ⟨trivial, fun h => (by cases h), ?_⟩
          refine HREC.out.mono ?_
          clear HREC
          rintro e W2 (⟨rfl, ⟨q2, hq2, hj2⟩, hk2⟩ | ⟨rfl, pre2, hx2⟩)
          · have hK2 : KC (· = Bs) W W2 := hKr.trans ((KC.alloc _ _ _).trans hk2)
            have hq3 : (q ++ q2).length = 1 + Nd.sizes (t.kids.take (k + 1)) := by rw [sizes_take_succ t.kids k hlk, List.length_append]; omega
            have HQ := Lib.hid hq3
            rw [List.append_assoc] at hj2
            clear hq hq2 hq3
            gi_wp2_with fail
            go_roundw
            case rel => exact ⟨k + 1, hlk, by go_num, hK2, q ++ q2, HQ.out, hj2⟩
            case measure => simp [intOf]; omega
          · gi_wp2_with fail
            go_ret
            exact .inr ⟨rfl, pre2, hx2⟩
        · have HS := Lib.hid hse
          clear hse
          have HQ := Lib.hid hq
          clear hq
          gi_wp2_with fail
          go_ret
          exact .inl ⟨rfl, ⟨q, by rw [HQ.out, HS.out, List.take_of_length_le (by omega)], hjq⟩, hKr⟩
    · gi_wp2_with fail
      go_ret
      exact .inr ⟨rfl, _, hx1⟩


set_option maxHeartbeats 1000000 in
theorem nodes1_in (l Bs Bn : Nat) (w0 : World) (hBs : w0.heap.size ≤ Bs) (B : Nat) (J Jx : List Value → World → Prop) (hJ : AbidesFrom B J) (m : Nat) (t : Nd) (A : Option Addr) (c : Nat)
    (hY : ∀ pre x W, J pre W → pre.length < t.size → YieldAt FW m Try.prog l #[x] W fun e W' =>
      (e = .returned (.bool true) ∧ J (pre ++ [x]) W' ∧ KC (· = Bs) W W') ∨ (e = .returned (.bool false) ∧ Jx (pre ++ [x]) W'))
    (m2 : Nat) (W : World) (hR : RN w0 t A c) (hK : KC (· = Bs) w0 W) (hB2 : Bs < W.heap.size) (hN : W.heap[Bn]? = some (.cells #[.int .i64 t.kind, .string t.text, .int .i64 t.pos, .int .i64 t.fin, .slice A t.kids.length c] 24 (0, 0))) (hj : J [] W) :
    CallsIn FW m2 Try.prog 49 #[.func (.yield l) #[] #[], .pointer (some ⟨Bn, 0, none⟩)] W fun e W' => (∃ v, e = .returned v) ∧ ((∃ q : List Value, q.length = t.size ∧ J q W') ∨ (∃ pre', Jx pre' W')) := by
  have hv := visit_in l Bs t.size w0 hBs B J Jx hJ (fun m' pre x W hj hl => RangeFuncAny.any m' (hY pre x W hj hl)) t.size t A c (m2 - 1) [] W (Nat.le_refl _) hR hK hB2 hj (by simp)
  unfold Nd.val at hv
  have HV := Lib.hid hv
  clear hv
  have c0 : W.cell? ⟨Bn, 0, none⟩ = some (.int .i64 t.kind) := by simp [World.cell?, hN]
  have c1 : W.cell? ⟨Bn, 1, none⟩ = some (.string t.text) := by simp [World.cell?, hN]
  have c2 : W.cell? ⟨Bn, 2, none⟩ = some (.int .i64 t.pos) := by simp [World.cell?, hN]
  have c3 : W.cell? ⟨Bn, 3, none⟩ = some (.int .i64 t.fin) := by simp [World.cell?, hN]
  have c4 : W.cell? ⟨Bn, 4, none⟩ = some (.slice A t.kids.length c) := by simp [World.cell?, hN]
  clear hN
  refine callsIn_of_wp Try.func49 rfl trivial ?_ rfl
  simp only [Try.ntmps49, List.size_toArray, List.length_cons, List.length_nil, Nat.reduceAdd, Nat.reduceSub, Array.replicate_succ, Array.replicate_zero, List.push_toArray, List.append_toArray, List.nil_append, List.cons_append]
  gi_wp2_with fail
  refine ⟨trivial, fun h => (by cases h), ?_⟩
  refine HV.out.mono ?_
  rintro e W2 (⟨rfl, ⟨q2, hq2, hj2⟩, hk2⟩ | ⟨rfl, pre2, hx2⟩)
  · have HQ := Lib.hid hq2
    clear hq2
    gi_wp2_with fail
    go_end0
    exact ⟨⟨_, rfl⟩, .inl ⟨q2, HQ.out, by simpa using hj2⟩⟩
  · gi_wp2_with fail
    go_end0
    exact ⟨⟨_, rfl⟩, .inr ⟨_, hx2⟩⟩
end Go.Proofs.Ytjijfgkmjachnaa
