/- The reference's flat, walked. -/
import Derived.Test.YtjijfgkmjachnaaC3
import Derived.Test.YtjijfgkmjachnaaT73
namespace Go.Proofs.Ytjijfgkmjachnaa
set_option linter.unusedVariables false
set_option linter.unusedSimpArgs false
open Go.RowKit

def ety (j : Nat) : TypeId := if j = 1 then 9 else 3
/-- a column of the lists -/
def fld (j : Nat) (e : Ent) : Value := if j = 0 then .int .i64 e.1.kind else if j = 1 then .string e.1.text else if j = 2 then .int .i64 (e.2.1 : Nat) else .int .i64 (e.2.2 : Nat)
def fcol (j : Nat) (xs : List Ent) : List Value := xs.map (fld j)
theorem fcol_len (j : Nat) (xs : List Ent) : (fcol j xs).length = xs.length := List.length_map _
theorem fcol_get (j : Nat) (xs : List Ent) (i : Nat) (h : i < xs.length) : (fcol j xs)[i]? = some (fld j (ent xs i)) := by
  unfold fcol ent; rw [List.getElem?_map, List.getElem?_eq_getElem h, List.getD_eq_getElem?_getD, List.getElem?_eq_getElem h]; rfl
def sl (As : Nat → Option Addr) (cs : Nat → Nat) (ns : Nat → Nat) (j : Nat) : Value := .slice (As j) (ns j) (cs j)
def rb4 (As : Nat → Option Addr) (q : Nat) : Prop := ∃ j, j < 4 ∧ ∃ a, As j = some a ∧ a.block = q
theorem own_sl (A : Option Addr) (n c : Nat) (q : Nat) : (Value.slice A n c).ownBlock = some q ↔ ∃ a, A = some a ∧ a.block = q := by
  cases A <;> simp [Value.ownBlock]
structure Q4 (B : Nat) (W : World) (As : Nat → Option Addr) (cs ns : Nat → Nat) (a : Nat → List Value) : Prop where
  own : ∀ j, j < 4 → W.ownsRow B (ety j) 1 (sl As cs ns j) (ns j) (a j)
  dis : ∀ i j, i < 4 → j < 4 → i ≠ j → ∀ p q, As i = some p → As j = some q → p.block ≠ q.block
theorem Q4.blk {B : Nat} {W : World} {As : Nat → Option Addr} {cs ns : Nat → Nat} {a : Nat → List Value} (h : Q4 B W As cs ns a) {j : Nat} (hj : j < 4) {p : Addr} (hp : As j = some p) : B ≤ p.block ∧ p.block < W.heap.size ∧ ∃ cur, W.heap[p.block]? = some (.cells cur (ety j) (0, 0)) := by
  have hb : (sl As cs ns j).ownBlock = some p.block := by unfold sl; rw [hp]; rfl
  obtain ⟨h1, cur, h2⟩ := own_block_at (h.own j hj) hb
  exact ⟨h1, hlt h2, cur, h2⟩
theorem Q4.lt {B : Nat} {W : World} {As : Nat → Option Addr} {cs ns : Nat → Nat} {a : Nat → List Value} (h : Q4 B W As cs ns a) {q : Nat} (hq : rb4 As q) : B ≤ q ∧ q < W.heap.size := by
  obtain ⟨j, hj, p, hp, rfl⟩ := hq
  have := h.blk hj hp
  exact ⟨this.1, this.2.1⟩
theorem Q4.move {B : Nat} {W W1 : World} {As : Nat → Option Addr} {cs ns : Nat → Nat} {a : Nat → List Value} (h : Q4 B W As cs ns a) (hm : ∀ q, rb4 As q → W1.heap[q]? = W.heap[q]?) : Q4 B W1 As cs ns a :=
  ⟨fun j hj => own_move (h.own j hj) fun k hk => hm k (by obtain ⟨p, hp, rfl⟩ := (own_sl _ _ _ _).1 hk; exact ⟨j, hj, p, hp, rfl⟩), h.dis⟩
theorem Q4.alloc {B : Nat} {W : World} {As : Nat → Option Addr} {cs ns : Nat → Nat} {a : Nat → List Value} (h : Q4 B W As cs ns a) (o : Obj) : Q4 B (W.alloc o) As cs ns a :=
  h.move fun q hq => Below.heap_alloc _ _ _ (h.lt hq).2
def up {α : Type} (f : Nat → α) (j : Nat) (x : α) : Nat → α := fun i => if i = j then x else f i
theorem up_same {α : Type} (f : Nat → α) (j : Nat) (x : α) : up f j x j = x := if_pos rfl
theorem up_other {α : Type} (f : Nat → α) {i j : Nat} (x : α) (h : i ≠ j) : up f j x i = f i := if_neg h

/-- the state with the struct's own box -/
structure S4 (B b : Nat) (A0 : Nat → Option Addr) (W0 W : World) (As : Nat → Option Addr) (cs ns : Nat → Nat) (a : Nat → List Value) : Prop where
  q : Q4 B W As cs ns a
  hb : W.heap[b]? = some (.cells #[sl As cs ns 0, sl As cs ns 1, sl As cs ns 2, sl As cs ns 3] 60 (0, 0))
  rb : ∀ q, rb4 As q → rb4 A0 q ∨ W0.heap.size ≤ q
  kp : Keeps (rb4 A0) W0 W
  bb : W0.heap.size ≤ b
theorem S4.nb {B b : Nat} {A0 : Nat → Option Addr} {W0 W : World} {As : Nat → Option Addr} {cs ns : Nat → Nat} {a : Nat → List Value} (h : S4 B b A0 W0 W As cs ns a) {q : Nat} (hq : rb4 As q) : q ≠ b := by
  obtain ⟨j, hj, p, hp, rfl⟩ := hq
  obtain ⟨_, _, cur, h1⟩ := h.q.blk hj hp
  refine heap_ne_type h1 h.hb ?_
  unfold ety; split <;> decide
theorem S4.alloc {B b : Nat} {A0 : Nat → Option Addr} {W0 W : World} {As : Nat → Option Addr} {cs ns : Nat → Nat} {a : Nat → List Value} (h : S4 B b A0 W0 W As cs ns a) (o : Obj) : S4 B b A0 W0 (W.alloc o) As cs ns a :=
  ⟨h.q.alloc o, (Below.heap_alloc _ _ _ (hlt h.hb)).trans h.hb, h.rb, h.kp.alloc o, h.bb⟩
theorem S4.below {B b : Nat} {A0 : Nat → Option Addr} {W0 W W1 : World} {As : Nat → Option Addr} {cs ns : Nat → Nat} {a : Nat → List Value} (h : S4 B b A0 W0 W As cs ns a) (hb : Below W.heap.size W W1) : S4 B b A0 W0 W1 As cs ns a :=
  ⟨h.q.move fun q hq => hb.block _ (h.q.lt hq).2, (hb.block _ (hlt h.hb)).trans h.hb, h.rb, h.kp.trans (Keeps.of_below hb), h.bb⟩
theorem setAt (W : World) (b j : Nat) (cs : Array Value) (t : TypeId) (v : Value) (h : W.heap[b]? = some (.cells cs t (0, 0))) : (W.setCell ⟨b, j, none⟩ v).heap[b]? = some (.cells (cs.setIfInBounds j v) t (0, 0)) := heap_setCell_same W b j cs t v h
/-- an append to a column, stored -/
theorem S4.app {B b : Nat} {A0 : Nat → Option Addr} {W0 W W1 : World} {As : Nat → Option Addr} {cs ns : Nat → Nat} {a : Nat → List Value} (h : S4 B b A0 W0 W As cs ns a) {j : Nat} (hj : j < 4) (hBW : B ≤ W0.heap.size) {g cap : Nat} {u : Value}
    (ho : W1.ownsRow B (ety j) 1 (.slice (some ⟨g, 0, none⟩) (ns j + 1) cap) (ns j + 1) (a j ++ [u])) (hg : W.grownBy W1 (sl As cs ns j).ownBlock) (hat : (sl As cs ns j).ownBlock = some g ∨ g = W.heap.size) :
    S4 B b A0 W0 (W1.setCell ⟨b, j, none⟩ (.slice (some ⟨g, 0, none⟩) (ns j + 1) cap)) (up As j (some ⟨g, 0, none⟩)) (up cs j cap) (up ns j (ns j + 1)) (up a j (a j ++ [u])) := by
  have hs : ∀ q, q < W.heap.size → (sl As cs ns j).ownBlock ≠ some q → W1.heap[q]? = W.heap[q]? := fun q hq hn => hg.block q hq (fun e => hn e.symm)
  have own : ∀ q, (sl As cs ns j).ownBlock = some q → rb4 As q := fun q hq => by obtain ⟨p, hp, rfl⟩ := (own_sl _ _ _ _).1 hq; exact ⟨j, hj, p, hp, rfl⟩
  have hbj : (sl As cs ns j).ownBlock ≠ some b := fun e => h.nb (own _ e) rfl
  have hb1 : W1.heap[b]? = some (.cells #[sl As cs ns 0, sl As cs ns 1, sl As cs ns 2, sl As cs ns 3] 60 (0, 0)) := (hs b (hlt h.hb) hbj).trans h.hb
  have hgb : g ≠ b := by rintro rfl; rcases hat with h1 | h1; exact hbj h1; have := hlt h.hb; omega
  have ne : ∀ i, i < 4 → i ≠ j → ∀ p, As i = some p → p.block ≠ g ∧ (sl As cs ns j).ownBlock ≠ some p.block ∧ p.block ≠ b := by
    intro i hi hij p hp
    have h2 : (sl As cs ns j).ownBlock ≠ some p.block := fun e => by
      obtain ⟨p', hp', e'⟩ := (own_sl _ _ _ _).1 e
      exact h.q.dis i j hi hj hij p p' hp hp' e'.symm
    refine ⟨fun e => ?_, h2, h.nb ⟨i, hi, p, hp, rfl⟩⟩
    rcases hat with h1 | h1
    · exact h2 (by rw [e]; exact h1)
    · have := (h.q.blk hi hp).2.1; omega
  have st : ∀ q, q ≠ b → (W1.setCell ⟨b, j, none⟩ (.slice (some ⟨g, 0, none⟩) (ns j + 1) cap)).heap[q]? = W1.heap[q]? := fun q hq => Below.heap_setCell _ _ _ _ hq
  refine ⟨⟨fun i hi => ?_, fun i k hi hk hik p q hp hq => ?_⟩, ?_, fun q hq => ?_, ?_, h.bb⟩
  · by_cases hij : i = j
    · subst hij
      simp only [sl, up_same]
      exact own_move ho fun k hk => st k (by have : g = k := by simpa [Value.ownBlock] using hk
                                             omega)
    · simp only [sl, up_other _ _ hij]
      refine own_move (h.q.own i hi) fun k hk => ?_
      obtain ⟨p, hp, rfl⟩ := (own_sl _ _ _ _).1 hk
      obtain ⟨_, h2, h3⟩ := ne i hi hij p hp
      rw [st _ h3]; exact hs _ (h.q.blk hi hp).2.1 h2
  · by_cases hij : i = j
    · subst hij
      rw [up_same] at hp
      rw [up_other _ _ (Ne.symm hik)] at hq
      injection hp with hp; subst hp
      exact (ne k hk (Ne.symm hik) q hq).1.symm
    · rw [up_other _ _ hij] at hp
      by_cases hkj : k = j
      · subst hkj
        rw [up_same] at hq
        injection hq with hq; subst hq
        exact (ne i hi hij p hp).1
      · rw [up_other _ _ hkj] at hq
        exact h.q.dis i k hi hk hik p q hp hq
  · rw [setAt _ _ _ _ _ _ hb1]
    have : j = 0 ∨ j = 1 ∨ j = 2 ∨ j = 3 := by omega
    rcases this with rfl | rfl | rfl | rfl <;> rfl
  · obtain ⟨i, hi, p, hp, rfl⟩ := hq
    by_cases hij : i = j
    · subst hij
      rw [up_same] at hp
      injection hp with hp; subst hp
      rcases hat with h1 | h1
      · exact h.rb g (own _ h1)
      · right; show W0.heap.size ≤ g; have := h.kp.size; omega
    · rw [up_other _ _ hij] at hp
      exact h.rb _ ⟨i, hi, p, hp, rfl⟩
  · have kg : Keeps (rb4 A0) W0 W1 := by
      refine ⟨hg.os.trans h.kp.os, hg.tape.trans h.kp.tape, hg.output.trans h.kp.output, Nat.le_trans h.kp.size hg.size, fun q hq hn => ?_⟩
      rw [hs q (Nat.lt_of_lt_of_le hq h.kp.size) (fun e => ?_)]
      · exact h.kp.block q hq hn
      · rcases h.rb q (own _ e) with h1 | h1
        · exact hn h1
        · omega
    exact kg.setCell (p := ⟨b, j, none⟩) (.inr h.bb) _
end Go.Proofs.Ytjijfgkmjachnaa
