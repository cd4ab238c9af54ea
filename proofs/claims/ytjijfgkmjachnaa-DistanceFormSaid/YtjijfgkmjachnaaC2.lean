/- Seat 37, texts merged: the walk of the inner table (filler$1). Lemmas for the laws of chapter 37; no conditions of their own beyond what each states. -/
import Derived.Test.YtjijfgkmjachnaaC1
import Derived.StillTailTactics
import Derived.Deep.QuietTactic
import Derived.BigQuiet
import Derived.IntWalk
namespace Go.Proofs.Ytjijfgkmjachnaa
set_option linter.unusedVariables false
set_option linter.unusedSimpArgs false
open Go.RowKit

/-- Outside S the world is as it was. -/
structure Keeps (S : Nat → Prop) (w W : World) : Prop where
  os : W.os = w.os
  tape : W.tape = w.tape
  output : W.output = w.output
  size : w.heap.size ≤ W.heap.size
  block : ∀ k, k < w.heap.size → ¬ S k → W.heap[k]? = w.heap[k]?
theorem Keeps.refl (S : Nat → Prop) (w : World) : Keeps S w w := ⟨rfl, rfl, rfl, Nat.le_refl _, fun _ _ _ => rfl⟩
theorem Keeps.trans {S : Nat → Prop} {a b c : World} (h : Keeps S a b) (k : Keeps S b c) : Keeps S a c :=
  ⟨k.os.trans h.os, k.tape.trans h.tape, k.output.trans h.output, Nat.le_trans h.size k.size, fun i hi hs => (k.block i (Nat.lt_of_lt_of_le hi h.size) hs).trans (h.block i hi hs)⟩
theorem Keeps.of_below {S : Nat → Prop} {w W : World} (h : Below w.heap.size w W) : Keeps S w W := ⟨h.os, h.tape, h.output, h.size, fun k hk _ => h.block k hk⟩
theorem Keeps.drew {S : Nat → Prop} {a w : World} (h : Keeps S a w) : Keeps S a w.drew := ⟨h.os, h.tape, h.output, h.size, h.block⟩
theorem Keeps.drewN {S : Nat → Prop} {a w : World} (h : Keeps S a w) (n : Nat) : Keeps S a (w.drewN n) := ⟨h.os, h.tape, h.output, h.size, h.block⟩
theorem Keeps.alloc {S : Nat → Prop} {a w : World} (h : Keeps S a w) (o : Obj) : Keeps S a (w.alloc o) := h.trans (Keeps.of_below ((Below.refl _ _).alloc (Nat.le_refl _) o))
theorem Keeps.setCell {S : Nat → Prop} {a w : World} (h : Keeps S a w) {p : Addr} (hp : S p.block ∨ a.heap.size ≤ p.block) (v : Value) : Keeps S a (w.setCell p v) :=
  ⟨h.os, h.tape, h.output, by have := h.size; simp [World.setCell]; omega, fun k hk hs => (Below.heap_setCell w p v k (by rintro rfl; rcases hp with hp | hp; exact hs hp; omega)).trans (h.block k hk hs)⟩
theorem Keeps.cell {S : Nat → Prop} {w W : World} (h : Keeps S w W) {p : Addr} (hp : p.block < w.heap.size) (hs : ¬ S p.block) : W.cell? p = w.cell? p := World.cell?_of_block (h.block _ hp hs)
theorem Keeps.frozen {S : Nat → Prop} {w W : World} (h : Keeps S w W) {p : Addr} (hp : p.block < w.heap.size) (hs : ¬ S p.block) : W.frozen? p = w.frozen? p := World.frozen?_of_block (h.block _ hp hs)
theorem Keeps.below {S : Nat → Prop} {w W : World} (h : Keeps S w W) {B : Nat} (hB : B ≤ w.heap.size) (hS : ∀ k, S k → B ≤ k) : Below B w W :=
  ⟨h.os, h.tape, h.output, h.size, fun k hk => h.block k (by omega) (fun hs => by have := hS k hs; omega)⟩
theorem Keeps.mono {S S' : Nat → Prop} {w W : World} (h : Keeps S w W) (hs : ∀ k, k < w.heap.size → S k → S' k) : Keeps S' w W :=
  ⟨h.os, h.tape, h.output, h.size, fun k hk hn => h.block k hk (fun hk2 => hn (hs k hk hk2))⟩

/-! ### a tree in postorder -/
abbrev Ent := Nd × Nat × Nat
def ent (xs : List Ent) (i : Nat) : Ent := xs.getD i (.mk 0 ByteArray.empty 0 0 [], 0, 0)
def nd (xs : List Ent) (i : Nat) : Nd := (ent xs i).1
def lf (xs : List Ent) (i : Nat) : Nat := (ent xs i).2.1
def nm (xs : List Ent) (i : Nat) : Nat := (ent xs i).2.2

structure Flat (w : World) (xs : List Ent) (n gL gF gN : Nat) : Prop where
  lab0 : ∀ i, i < n → w.cell? ⟨gL, i * 2, none⟩ = some (.int .i64 (nd xs i).kind)
  lab1 : ∀ i, i < n → w.cell? ⟨gL, i * 2 + 1, none⟩ = some (.string (nd xs i).text)
  lef : ∀ i, i < n → w.cell? ⟨gF, i, none⟩ = some (.int .i64 (lf xs i : Nat))
  num : ∀ i, i < n → w.cell? ⟨gN, i, none⟩ = some (.int .i64 (nm xs i : Nat))
theorem Flat.keep {S : Nat → Prop} {w W : World} {xs : List Ent} {n gL gF gN : Nat} (h : Flat w xs n gL gF gN) (hk : Keeps S w W) (h1 : ¬ S gL) (h2 : ¬ S gF) (h3 : ¬ S gN) : Flat W xs n gL gF gN :=
  ⟨fun i hi => (hk.cell (p := ⟨gL, _, none⟩) (World.block_lt_of_cell? w _ (h.lab0 i hi)) h1).trans (h.lab0 i hi), fun i hi => (hk.cell (p := ⟨gL, _, none⟩) (World.block_lt_of_cell? w _ (h.lab1 i hi)) h1).trans (h.lab1 i hi),
   fun i hi => (hk.cell (p := ⟨gF, _, none⟩) (World.block_lt_of_cell? w _ (h.lef i hi)) h2).trans (h.lef i hi), fun i hi => (hk.cell (p := ⟨gN, _, none⟩) (World.block_lt_of_cell? w _ (h.num i hi)) h3).trans (h.num i hi)⟩

/-- What the fill of two roots does: what its own table F holds in the end. -/
structure Rec (xs ys : List Ent) (i k : Nat) (D F : Nat → Nat → Int) : Prop where
  row : ∀ x, x ≤ i - lf xs i + 1 → F x 0 = x
  col : ∀ y, y ≤ k - lf ys k + 1 → F 0 y = y
  one : ∀ s t, lf xs i ≤ s → s ≤ i → lf ys k ≤ t → t ≤ k → lf xs s = lf xs i → lf ys t = lf ys k →
    F (s - lf xs i + 1) (t - lf ys k + 1) = min (min (F (s - lf xs i) (t - lf ys k + 1)) (F (s - lf xs i + 1) (t - lf ys k)) + 1) (F (s - lf xs i) (t - lf ys k) + if sameLabel (nd xs s) (nd ys t) then 0 else 1)
  two : ∀ s t, lf xs i ≤ s → s ≤ i → lf ys k ≤ t → t ≤ k → (lf xs s ≠ lf xs i ∨ lf ys t ≠ lf ys k) →
    F (s - lf xs i + 1) (t - lf ys k + 1) = min (min (F (s - lf xs i) (t - lf ys k + 1)) (F (s - lf xs i + 1) (t - lf ys k)) + 1) (F (lf xs s - lf xs i) (lf ys t - lf ys k) + D s t)

def upd (T : Nat → Nat → Int) (x y : Nat) (v : Int) : Nat → Nat → Int := fun a b => if a = x ∧ b = y then v else T a b
theorem upd_same (T : Nat → Nat → Int) (x y : Nat) (v : Int) : upd T x y v x y = v := by simp [upd]
theorem upd_other (T : Nat → Nat → Int) (x y a b : Nat) (v : Int) (h : ¬ (a = x ∧ b = y)) : upd T x y v a b = T a b := by simp only [upd]; rw [if_neg h]
theorem Tab.set {w : World} {base g : Nat} {bs : Nat → Nat} {n m : Nat} {T : Nat → Nat → Int} (h : Tab w base g bs n m T) {x y : Nat} (hx : x < n) (hy : y < m) (v : Int) :
    Tab (w.setCell ⟨bs x, y, none⟩ (.int .i64 v)) base g bs n m (upd T x y v) := by
  refine ⟨fun i hi => ?_, fun i j hi hj => ?_, fun i j hi hj => ?_, h.inj, h.ne, fun i hi => by have := h.lo i hi; simpa [World.setCell] using this, by have := h.glo; simpa [World.setCell] using this⟩
  · rw [cell_set_other _ _ _ _ (fun e => h.ne x hx e.symm)]; exact h.outer i hi
  · by_cases he : i = x ∧ j = y
    · obtain ⟨rfl, rfl⟩ := he
      rw [World.cell?_setCell_same' _ _ _ (by rw [h.inner i j hi hj]; rfl), upd_same]
    · rw [upd_other _ _ _ _ _ _ he]
      by_cases hb : bs i = bs x
      · obtain rfl := h.inj i x hi hx hb
        rw [World.cell?_setCell_other w ⟨bs i, y, none⟩ ⟨bs i, j, none⟩ _ (fun e => by injection e with _ e; exact he ⟨rfl, e.symm⟩)]; exact h.inner i j hi hj
      · rw [cell_set_other _ _ _ _ hb]; exact h.inner i j hi hj
  · rw [free_set]; exact h.free i j hi hj
theorem Tab.set' {w : World} {base g : Nat} {bs : Nat → Nat} {n m : Nat} {T : Nat → Nat → Int} (h : Tab w base g bs n m T) {x y : Nat} (hx : x < n) (hy : y < m) {u v : Int} (he : u = v) :
    Tab (w.setCell ⟨bs x, y, none⟩ (.int .i64 u)) base g bs n m (upd T x y v) := he ▸ h.set hx hy u
theorem Tab.keep {S : Nat → Prop} {w W : World} {base g : Nat} {bs : Nat → Nat} {n m : Nat} {T : Nat → Nat → Int} (h : Tab w base g bs n m T) (hk : Keeps S w W) (hg : ¬ S g) (hb : ∀ i, i < n → ¬ S (bs i)) : Tab W base g bs n m T :=
  ⟨fun i hi => (hk.cell (p := ⟨g, i, none⟩) h.glo.2 hg).trans (h.outer i hi), fun i j hi hj => (hk.cell (p := ⟨bs i, j, none⟩) (h.lo i hi).2 (hb i hi)).trans (h.inner i j hi hj),
   fun i j hi hj => (hk.frozen (p := ⟨bs i, j, none⟩) (h.lo i hi).2 (hb i hi)).trans (h.free i j hi hj), h.inj, h.ne, fun i hi => ⟨(h.lo i hi).1, Nat.lt_of_lt_of_le (h.lo i hi).2 hk.size⟩, ⟨h.glo.1, Nat.lt_of_lt_of_le h.glo.2 hk.size⟩⟩
theorem Tab.congr {w : World} {base g : Nat} {bs : Nat → Nat} {n m : Nat} {T T' : Nat → Nat → Int} (h : Tab w base g bs n m T) (he : ∀ i j, i < n → j < m → T' i j = T i j) : Tab w base g bs n m T' :=
  ⟨h.outer, fun i j hi hj => by rw [he i j hi hj]; exact h.inner i j hi hj, h.free, h.inj, h.ne, h.lo, h.glo⟩

def Eqn (xs ys : List Ent) (p q : Nat) (D F : Nat → Nat → Int) (s t : Nat) : Prop :=
  F (s - p + 1) (t - q + 1) = min (min (F (s - p) (t - q + 1)) (F (s - p + 1) (t - q)) + 1)
    (if lf xs s = p ∧ lf ys t = q then F (s - p) (t - q) + (if sameLabel (nd xs s) (nd ys t) then 0 else 1) else F (lf xs s - p) (lf ys t - q) + D s t)
def dcur (xs ys : List Ent) (p q i k : Nat) (D F : Nat → Nat → Int) (s0 t0 : Nat) (s t : Nat) : Int :=
  if p ≤ s ∧ s ≤ i ∧ q ≤ t ∧ t ≤ k ∧ lf xs s = p ∧ lf ys t = q ∧ (s < s0 ∨ s = s0 ∧ t < t0) then F (s - p + 1) (t - q + 1) else D s t
structure Inv (xs ys : List Ent) (p q i k : Nat) (D F : Nat → Nat → Int) (s0 t0 : Nat) : Prop where
  row : ∀ x : Nat, x ≤ i - p + 1 → F x 0 = x
  col : ∀ y : Nat, y ≤ k - q + 1 → F 0 y = y
  bd : ∀ x y : Nat, 0 ≤ F x y ∧ F x y ≤ x + y
  eqn : ∀ s t, p ≤ s → s ≤ i → q ≤ t → t ≤ k → (s < s0 ∨ s = s0 ∧ t < t0) → Eqn xs ys p q D F s t

theorem Inv.step {xs ys : List Ent} {p q i k : Nat} {D F : Nat → Nat → Int} {s t : Nat} (HI : Inv xs ys p q i k D F s t) (hs1 : p ≤ s) (hs2 : s ≤ i) (ht1 : q ≤ t) (ht2 : t ≤ k)
    (ha : ∀ s, p ≤ s → s ≤ i → p ≤ lf xs s ∧ lf xs s ≤ s) (hb : ∀ t, q ≤ t → t ≤ k → q ≤ lf ys t ∧ lf ys t ≤ t) {v : Int} (hv0 : 0 ≤ v)
    (hv : v = min (min (F (s - p) (t - q + 1)) (F (s - p + 1) (t - q)) + 1)
      (if lf xs s = p ∧ lf ys t = q then F (s - p) (t - q) + (if sameLabel (nd xs s) (nd ys t) then 0 else 1) else F (lf xs s - p) (lf ys t - q) + D s t)) :
    Inv xs ys p q i k D (upd F (s - p + 1) (t - q + 1) v) s (t + 1) := by
  refine ⟨fun x hx => ?_, fun y hy => ?_, fun x y => ?_, fun s' t' h1 h2 h3 h4 h5 => ?_⟩
  · rw [upd_other _ _ _ _ _ _ (by omega)]; exact HI.row x hx
  · rw [upd_other _ _ _ _ _ _ (by omega)]; exact HI.col y hy
  · simp only [upd]
    split
    · rename_i h; obtain ⟨rfl, rfl⟩ := h
      have := HI.bd (s - p) (t - q + 1)
      have h2 := HI.bd (s - p + 1) (t - q)
      refine ⟨hv0, ?_⟩
      rw [hv]
      omega
    · exact HI.bd x y
  · unfold Eqn
    have hla := ha s' h1 h2
    have hlb := hb t' h3 h4
    rw [upd_other _ _ _ (s' - p) (t' - q + 1) _ (by omega), upd_other _ _ _ (s' - p + 1) (t' - q) _ (by omega), upd_other _ _ _ (s' - p) (t' - q) _ (by omega), upd_other _ _ _ (lf xs s' - p) (lf ys t' - q) _ (by omega)]
    by_cases he : s' = s ∧ t' = t
    · obtain ⟨rfl, rfl⟩ := he
      rw [upd_same, hv]
    · rw [upd_other _ _ _ (s' - p + 1) (t' - q + 1) _ (by omega)]
      exact HI.eqn s' t' h1 h2 h3 h4 (by omega)
theorem dcur_keep {xs ys : List Ent} {p q i k : Nat} {D F : Nat → Nat → Int} {s t : Nat} (v : Int) (hs1 : p ≤ s) (ht1 : q ≤ t) (hal : ¬ (lf xs s = p ∧ lf ys t = q)) (s' t' : Nat) :
    dcur xs ys p q i k D (upd F (s - p + 1) (t - q + 1) v) s (t + 1) s' t' = dcur xs ys p q i k D F s t s' t' := by
  unfold dcur
  by_cases he : s' = s ∧ t' = t
  · obtain ⟨rfl, rfl⟩ := he
    rw [if_neg (by intro h; exact hal ⟨h.2.2.2.2.1, h.2.2.2.2.2.1⟩), if_neg (by intro h; exact hal ⟨h.2.2.2.2.1, h.2.2.2.2.2.1⟩)]
  · by_cases hc : p ≤ s' ∧ s' ≤ i ∧ q ≤ t' ∧ t' ≤ k ∧ lf xs s' = p ∧ lf ys t' = q ∧ (s' < s ∨ s' = s ∧ t' < t)
    · rw [if_pos hc, if_pos ⟨hc.1, hc.2.1, hc.2.2.1, hc.2.2.2.1, hc.2.2.2.2.1, hc.2.2.2.2.2.1, by omega⟩, upd_other _ _ _ _ _ _ (by omega)]
    · rw [if_neg hc, if_neg (fun h => hc ⟨h.1, h.2.1, h.2.2.1, h.2.2.2.1, h.2.2.2.2.1, h.2.2.2.2.2.1, by omega⟩)]
theorem dcur_set {xs ys : List Ent} {p q i k : Nat} {D F : Nat → Nat → Int} {s t : Nat} (v : Int) (hs1 : p ≤ s) (hs2 : s ≤ i) (ht1 : q ≤ t) (ht2 : t ≤ k) (hal : lf xs s = p ∧ lf ys t = q) (s' t' : Nat) :
    dcur xs ys p q i k D (upd F (s - p + 1) (t - q + 1) v) s (t + 1) s' t' = upd (dcur xs ys p q i k D F s t) s t v s' t' := by
  by_cases he : s' = s ∧ t' = t
  · obtain ⟨rfl, rfl⟩ := he
    rw [upd_same]; unfold dcur
    rw [if_pos ⟨hs1, hs2, ht1, ht2, hal.1, hal.2, by omega⟩, upd_same]
  · rw [upd_other _ _ _ _ _ _ he]
    unfold dcur
    by_cases hc : p ≤ s' ∧ s' ≤ i ∧ q ≤ t' ∧ t' ≤ k ∧ lf xs s' = p ∧ lf ys t' = q ∧ (s' < s ∨ s' = s ∧ t' < t)
    · rw [if_pos hc, if_pos ⟨hc.1, hc.2.1, hc.2.2.1, hc.2.2.2.1, hc.2.2.2.2.1, hc.2.2.2.2.2.1, by omega⟩, upd_other _ _ _ _ _ _ (by omega)]
    · rw [if_neg hc, if_neg (fun h => hc ⟨h.1, h.2.1, h.2.2.1, h.2.2.2.1, h.2.2.2.2.1, h.2.2.2.2.2.1, by omega⟩)]
theorem Tab.drewN {w : World} {base g : Nat} {bs : Nat → Nat} {n m : Nat} {T : Nat → Nat → Int} (h : Tab w base g bs n m T) (c : Nat) : Tab (w.drewN c) base g bs n m T := ⟨h.outer, h.inner, h.free, h.inj, h.ne, h.lo, h.glo⟩
theorem dcur_row {xs ys : List Ent} {p q i k : Nat} {D F : Nat → Nat → Int} {s : Nat} (s' t' : Nat) : dcur xs ys p q i k D F s (k + 1) s' t' = dcur xs ys p q i k D F (s + 1) q s' t' := by
  unfold dcur
  by_cases hc : p ≤ s' ∧ s' ≤ i ∧ q ≤ t' ∧ t' ≤ k ∧ lf xs s' = p ∧ lf ys t' = q ∧ (s' < s ∨ s' = s ∧ t' < k + 1)
  · rw [if_pos hc, if_pos ⟨hc.1, hc.2.1, hc.2.2.1, hc.2.2.2.1, hc.2.2.2.2.1, hc.2.2.2.2.2.1, by omega⟩]
  · rw [if_neg hc, if_neg (fun h => hc ⟨h.1, h.2.1, h.2.2.1, h.2.2.2.1, h.2.2.2.2.1, h.2.2.2.2.2.1, by omega⟩)]
theorem Inv.next {xs ys : List Ent} {p q i k : Nat} {D F : Nat → Nat → Int} {s : Nat} (HI : Inv xs ys p q i k D F s (k + 1)) : Inv xs ys p q i k D F (s + 1) q :=
  ⟨HI.row, HI.col, HI.bd, fun s' t' h1 h2 h3 h4 h5 => HI.eqn s' t' h1 h2 h3 h4 (by omega)⟩

set_option maxRecDepth 100000 in
set_option maxHeartbeats 4000000 in
theorem fill (xs ys : List Ent) (n m i k : Nat) (hi : i < n) (hk : k < m) (hn : n ≤ 1000000) (hm : m ≤ 1000000) (w : World) (ba bb bd gL gF gN gL' gF' gN' gd base cL cF cN cL' cF' cN' cd : Nat) (bs : Nat → Nat) (D : Nat → Nat → Int)
    (hA0 : w.cell? ⟨ba, 0, none⟩ = some (.slice (some ⟨gL, 0, none⟩) n cL)) (hA1 : w.cell? ⟨ba, 1, none⟩ = some (.slice (some ⟨gF, 0, none⟩) n cF))
    (hB0 : w.cell? ⟨bb, 0, none⟩ = some (.slice (some ⟨gL', 0, none⟩) m cL')) (hB1 : w.cell? ⟨bb, 1, none⟩ = some (.slice (some ⟨gF', 0, none⟩) m cF'))
    (hd : w.cell? ⟨bd, 0, none⟩ = some (.slice (some ⟨gd, 0, none⟩) n cd)) (FA : Flat w xs n gL gF gN) (FB : Flat w ys m gL' gF' gN') (TD : Tab w base gd bs n m D)
    (hD : ∀ s t, s < n → t < m → 0 ≤ D s t ∧ D s t ≤ 10000000)
    (ha : ∀ s, lf xs i ≤ s → s ≤ i → lf xs i ≤ lf xs s ∧ lf xs s ≤ s) (hb : ∀ t, lf ys k ≤ t → t ≤ k → lf ys k ≤ lf ys t ∧ lf ys t ≤ t) (ha0 : lf xs i ≤ i) (hb0 : lf ys k ≤ k)
    (s1 : ∀ s, s < n → bs s ≠ ba ∧ bs s ≠ bb ∧ bs s ≠ bd ∧ bs s ≠ gL ∧ bs s ≠ gF ∧ bs s ≠ gL' ∧ bs s ≠ gF' ∧ bs s ≠ gN ∧ bs s ≠ gN') :
    Calls Try.prog 46 #[.int .i64 i, .int .i64 k, .pointer (some ⟨ba, 0, none⟩), .pointer (some ⟨bb, 0, none⟩), .pointer (some ⟨bd, 0, none⟩)] w fun e w' => e = .returned (.tuple #[]) ∧
      Keeps (fun b => ∃ s, s < n ∧ b = bs s) w w' ∧ ∃ F, Rec xs ys i k D F ∧ (∀ x y : Nat, 0 ≤ F x y ∧ F x y ≤ x + y) ∧
        Tab w' base gd bs n m (fun s t => if lf xs i ≤ s ∧ s ≤ i ∧ lf ys k ≤ t ∧ t ≤ k ∧ lf xs s = lf xs i ∧ lf ys t = lf ys k then F (s - lf xs i + 1) (t - lf ys k + 1) else D s t) := by
  have l1 := FA.lef i hi
  have l2 := FB.lef k hk
  generalize hp : lf xs i = p at *
  generalize hq : lf ys k = q at *
  have HP := Lib.hid hp
  have HQ := Lib.hid hq
  have HS := Lib.hid s1
  have Ha := Lib.hid ha
  have Hb := Lib.hid hb
  have Hd := Lib.hid hD
  clear hp hq s1 ha hb hD
  have ctx : ∀ W, Keeps (fun b => ∃ s, s < n ∧ b = bs s) w W → W.cell? ⟨ba, 0, none⟩ = some (.slice (some ⟨gL, 0, none⟩) n cL) ∧ W.cell? ⟨ba, 1, none⟩ = some (.slice (some ⟨gF, 0, none⟩) n cF) ∧
      W.cell? ⟨bb, 0, none⟩ = some (.slice (some ⟨gL', 0, none⟩) m cL') ∧ W.cell? ⟨bb, 1, none⟩ = some (.slice (some ⟨gF', 0, none⟩) m cF') ∧ W.cell? ⟨bd, 0, none⟩ = some (.slice (some ⟨gd, 0, none⟩) n cd) ∧ Flat W xs n gL gF gN ∧ Flat W ys m gL' gF' gN' := by
    intro W hK
    have s1 := HS.out
    exact ⟨(hK.cell (p := ⟨ba, 0, none⟩) (World.block_lt_of_cell? w _ hA0) (fun ⟨s, h, e⟩ => (s1 s h).1 e.symm)).trans hA0, (hK.cell (p := ⟨ba, 1, none⟩) (World.block_lt_of_cell? w _ hA1) (fun ⟨s, h, e⟩ => (s1 s h).1 e.symm)).trans hA1,
      (hK.cell (p := ⟨bb, 0, none⟩) (World.block_lt_of_cell? w _ hB0) (fun ⟨s, h, e⟩ => (s1 s h).2.1 e.symm)).trans hB0, (hK.cell (p := ⟨bb, 1, none⟩) (World.block_lt_of_cell? w _ hB1) (fun ⟨s, h, e⟩ => (s1 s h).2.1 e.symm)).trans hB1,
      (hK.cell (p := ⟨bd, 0, none⟩) (World.block_lt_of_cell? w _ hd) (fun ⟨s, h, e⟩ => (s1 s h).2.2.1 e.symm)).trans hd,
      FA.keep hK (fun ⟨s, h, e⟩ => (s1 s h).2.2.2.1 e.symm) (fun ⟨s, h, e⟩ => (s1 s h).2.2.2.2.1 e.symm) (fun ⟨s, h, e⟩ => (s1 s h).2.2.2.2.2.2.2.1 e.symm),
      FB.keep hK (fun ⟨s, h, e⟩ => (s1 s h).2.2.2.2.2.1 e.symm) (fun ⟨s, h, e⟩ => (s1 s h).2.2.2.2.2.2.1 e.symm) (fun ⟨s, h, e⟩ => (s1 s h).2.2.2.2.2.2.2.2 e.symm)⟩
  have CTX := Lib.hid ctx
  have TDW := Lib.hid TD.lo
  have GLO := Lib.hid TD.glo
  clear ctx
  have i0 : (0 : Int) ≤ (i : Int) := by omega
  have k0 : (0 : Int) ≤ (k : Int) := by omega
  have i1 : (i : Int) < (n : Int) := by omega
  have k1 : (k : Int) < (m : Int) := by omega
  go_enter Try.func46, Try.ntmps46
  go_wp2_with fail
  go_quiet (fail)
  go_wp2_with fail
  have e1 : ((i : Int) - (p : Int) + 2) = ((i - p + 2 : Nat) : Int) := by omega
  have e2 : ((k : Int) - (q : Int) + 2) = ((k - q + 2 : Nat) : Int) := by omega
  rw [e1, e2]
  clear e1 e2
  refine (tableMake (i - p + 2) (k - q + 2) (w.drewN nq) (by omega) (by omega)).mono ?_
  rintro e w1 ⟨rfl, TF, hb1, hz1⟩
  have hKw : Keeps (fun _ => False) w w1 := ((Keeps.refl _ w).drewN nq).trans (Keeps.of_below hb1)
  simp only [World.heap_drewN] at TF hz1 ⊢
  have hlo : ∀ x, x < i - p + 2 → w.heap.size ≤ w.heap.size + 1 + x := fun x _ => by omega
  generalize (fun i => w.heap.size + 1 + i) = bf at *
  obtain ⟨X, hX⟩ : ∃ X, X = i - p + 2 := ⟨_, rfl⟩
  obtain ⟨Y, hY⟩ : ∃ Y, Y = k - q + 2 := ⟨_, rfl⟩
  rw [← hX] at TF ⊢
  rw [← hY] at TF ⊢
  have HX := Lib.hid hX
  have HY := Lib.hid hY
  have hX2 : 2 ≤ X := by omega
  have hY2 : 2 ≤ Y := by omega
  have hXb : X ≤ 1000010 := by omega
  have hYb : Y ≤ 1000010 := by omega
  clear hX hY hz1 hb1 hlo
  go_wp2_with fail
  go_loopw [10, 39] (fun _ c wr => ∃ j : Nat, j ≤ X ∧ c = .int .i64 j ∧ Keeps (fun _ => False) w wr ∧ ∃ F, Tab wr w.heap.size w.heap.size bf X Y F ∧ (∀ x, x < j → F x 0 = x) ∧ ∀ x y : Nat, 0 ≤ F x y ∧ F x y ≤ x + y) (fun _ c _ => X - (intOf c).toNat)
  case atStart => exact ⟨0, Nat.zero_le _, rfl, hKw, _, TF, fun x hx => by omega, fun x y => by simp; omega⟩
  case round =>
    obtain ⟨j, hj, rfl, hKr, F, TF1, hF0, hFb⟩ := hrel
    have HF0 := Lib.hid hF0
    have HFb := Lib.hid hFb
    clear hF0 hFb TF hKw
    by_cases hlj : j < X
    · have o1 := TF1.outer j hlj
      have c1 := TF1.inner j 0 hlj (by omega)
      have f1 := TF1.free j 0 hlj (by omega)
      have hlo := (TF1.lo j hlj).1
      go_wp2_with fail
      go_roundw
      case rel =>
        refine ⟨j + 1, hlj, by go_num, hKr.setCell (p := ⟨bf j, 0, none⟩) (.inr hlo) _, upd F j 0 j, TF1.set hlj (by omega) _, fun x hx => ?_, fun x y => ?_⟩
        · by_cases h : x = j
          · subst h; rw [upd_same]
          · rw [upd_other _ _ _ _ _ _ (by omega)]; exact HF0.out x (by omega)
        · simp only [upd]; split
          · rename_i h; obtain ⟨rfl, rfl⟩ := h; omega
          · exact HFb.out x y
      case measure => simp [intOf]; omega
    · obtain rfl : j = X := by omega
      have o0 := TF1.outer 0 (by omega)
      go_wp2_with fail
      go_loopw [11, 53] (fun _ c wr => ∃ y : Nat, y ≤ Y ∧ c = .int .i64 y ∧ Keeps (fun _ => False) w wr ∧ ∃ F, Tab wr w.heap.size w.heap.size bf j Y F ∧ Hid ((∀ x : Nat, x < j → F x 0 = x) ∧ (∀ x : Nat, x < y → F 0 x = x) ∧ ∀ x y : Nat, 0 ≤ F x y ∧ F x y ≤ x + y)) (fun _ c _ => Y - (intOf c).toNat)
      case atStart => exact ⟨0, Nat.zero_le _, rfl, hKr, _, TF1, HF0.out, fun x hx => by omega, HFb.out⟩
      case round =>
        clear o0 TF1 hKr HF0 HFb
        obtain ⟨y, hy, rfl, hKr, F, TF2, HF⟩ := hrel
        by_cases hly : y < Y
        · have o1 := TF2.outer 0 (by omega)
          have c1 := TF2.inner 0 y (by omega) hly
          have f1 := TF2.free 0 y (by omega) hly
          have hlo := (TF2.lo 0 (by omega)).1
          go_wp2_with fail
          go_roundw
          case rel =>
            refine ⟨y + 1, hly, by go_num, hKr.setCell (p := ⟨bf 0, y, none⟩) (.inr hlo) _, upd F 0 y y, TF2.set (by omega) hly _, fun x hx => ?_, fun x hx => ?_, fun a b => ?_⟩
            · by_cases h : x = 0 ∧ 0 = y
              · obtain ⟨rfl, rfl⟩ := h; rw [upd_same]
              · rw [upd_other _ _ _ _ _ _ h]; exact HF.out.1 x hx
            · by_cases h : x = y
              · subst h; rw [upd_same]
              · rw [upd_other _ _ _ _ _ _ (by omega)]; exact HF.out.2.1 x (by omega)
            · simp only [upd]; split
              · rename_i h; obtain ⟨rfl, rfl⟩ := h; omega
              · exact HF.out.2.2 a b
          case measure => simp [intOf]; omega
        · obtain rfl : y = Y := by omega
          have hKd : Keeps (fun b => ∃ s, s < n ∧ b = bs s) w wr := hKr.mono (fun _ _ h => h.elim)
          have TD1 := TD.keep hKr (fun h => h) (fun _ _ h => h)
          have HI : Inv xs ys p q i k D F p q := ⟨fun x hx => HF.out.1 x (by have := HX.out; omega), fun x hx => HF.out.2.1 x (by have := HY.out; omega), HF.out.2.2, fun s t _ _ _ _ h => by omega⟩
          have TD2 : Tab wr base gd bs n m (dcur xs ys p q i k D F p q) := TD1.congr (fun s t _ _ => by simp only [dcur]; rw [if_neg (by omega)])
          clear HF hKr TD1 TD
          go_wp2_with fail
          go_loopw [12] (fun c wr => ∃ s : Nat, p ≤ s ∧ s ≤ i + 1 ∧ c = .int .i64 s ∧ Keeps (fun b => ∃ s, s < n ∧ b = bs s) w wr ∧ ∃ F, Tab wr w.heap.size w.heap.size bf j y F ∧ Tab wr base gd bs n m (dcur xs ys p q i k D F s q) ∧ Inv xs ys p q i k D F s q) (fun c _ => i + 1 - (intOf c).toNat)
          case atStart => exact ⟨p, Nat.le_refl _, by omega, rfl, hKd, F, TF2, TD2, HI⟩
          case round =>
            clear TF2 TD2 HI hKd
            obtain ⟨s, hs1, hs2, rfl, hKr, F, TF3, TD3, HI⟩ := hrel
            by_cases hls : s ≤ i
            · go_wp2_with fail
              obtain ⟨wo, hwo⟩ : ∃ wo : World, wo = wr := ⟨_, rfl⟩
              have HWO := Lib.hid hwo
              clear hwo
              go_loopw [13] (fun c wr => ∃ t : Nat, q ≤ t ∧ t ≤ k + 1 ∧ c = .int .i64 t ∧ Keeps (fun b => ∃ s, s < n ∧ b = bs s) w wr ∧ ∃ F, Tab wr w.heap.size w.heap.size bf j y F ∧ Tab wr base gd bs n m (dcur xs ys p q i k D F s t) ∧ Inv xs ys p q i k D F s t) (fun c _ => k + 1 - (intOf c).toNat)
              case atStart => exact ⟨q, Nat.le_refl _, by omega, rfl, hKr, F, TF3, TD3, HI⟩
              case round =>
                clear TF3 TD3 HI hKr HWO
                obtain ⟨t, ht1, ht2, rfl, hKr, F, TF3, TD3, HI⟩ := hrel
                by_cases hlt : t ≤ k
                · obtain ⟨a, ha⟩ : ∃ a : Nat, s = p + a := ⟨s - p, by omega⟩
                  obtain ⟨b, hb⟩ : ∃ b : Nat, t = q + b := ⟨t - q, by omega⟩
                  have e1 : ((s : Int) - (p : Int) + 1) = ((a + 1 : Nat) : Int) := by omega
                  have e2 : ((t : Int) - (q : Int) + 1) = ((b + 1 : Nat) : Int) := by omega
                  have hA := Lib.hid ha
                  have hB := Lib.hid hb
                  have hax : a + 1 < j := by have := HX.out; omega
                  have hby : b + 1 < y := by have := HY.out; omega
                  obtain ⟨x1, hx1⟩ : ∃ x1, x1 = a + 1 := ⟨_, rfl⟩
                  obtain ⟨y1, hy1⟩ : ∃ y1, y1 = b + 1 := ⟨_, rfl⟩
                  rw [← hx1] at e1 hax
                  rw [← hy1] at e2 hby
                  have e3 : ((x1 : Int) - 1) = (a : Int) := by omega
                  have e4 : ((y1 : Int) - 1) = (b : Int) := by omega
                  have e5 : IntKind.i64.wrap ((x1 : Int) - 1) = (a : Int) := by rw [e3]; exact IntWalk.i64_in _ (by omega)
                  have e6 : IntKind.i64.wrap ((y1 : Int) - 1) = (b : Int) := by rw [e4]; exact IntWalk.i64_in _ (by omega)
                  have HX1 := Lib.hid hx1
                  have HY1 := Lib.hid hy1
                  have haj : a < j := by omega
                  have hby2 : b < y := by omega
                  clear ha hb hx1 hy1
                  have o1 := TF3.outer a haj
                  have o2 := TF3.outer x1 hax
                  have c1 := TF3.inner a y1 haj hby
                  have c2 := TF3.inner x1 b hax hby2
                  go_wp2_with fail
                  go_quiet (fail)
                  have b1 := HI.bd a y1
                  have b2 := HI.bd x1 b
                  have hm : (if F x1 b < F a y1 then F x1 b else F a y1) = min (F a y1) (F x1 b) := by split <;> omega
                  rw [hm]
                  have hbst : 0 ≤ min (F a y1) (F x1 b) ∧ min (F a y1) (F x1 b) ≤ 3000000 := by omega
                  generalize hbe : min (F a y1) (F x1 b) = mn at hbst ⊢
                  have HBE := Lib.hid hbe
                  have hw : wrap64 (mn + 1) = mn + 1 := by unfold wrap64; omega
                  rw [hw]
                  clear hm hbe b1 b2 c1 c2 hw
                  have hsn : s < n := by omega
                  have htm : t < m := by omega
                  have HCX := CTX.out wr hKr
                  obtain ⟨r1, r2, r3, r4, r5, fA, fB⟩ := HCX
                  have l3 := fA.lef s hsn
                  have l4 := fB.lef t htm
                  have h0s : (0 : Int) ≤ (s : Int) := by omega
                  have h0t : (0 : Int) ≤ (t : Int) := by omega
                  have h1s : (s : Int) < (n : Int) := by omega
                  have h1t : (t : Int) < (m : Int) := by omega
                  by_cases hal : lf xs s = p ∧ lf ys t = q
                  · have d1 : ((lf xs s : Int) != (p : Int)) = false := by rw [bne_eq_false_iff_eq]; omega
                    have d2 : ((lf ys t : Int) != (q : Int)) = false := by rw [bne_eq_false_iff_eq]; omega
                    have HAL := Lib.hid hal
                    clear hal
                    have c3 := TF3.inner a b haj hby2
                    have b0 := HI.bd a b
                    have m1 := fA.lab0 s hsn
                    have m2 := fA.lab1 s hsn
                    have m3 := fB.lab0 t htm
                    have m4 := fB.lab1 t htm
                    have hneq := neqLab (nd xs s) (nd ys t)
                    go_wp2_with fail
                    go_quiet (fail)
                    have c4 := TF3.inner x1 y1 hax hby
                    have f4 := TF3.free x1 y1 hax hby
                    clear hneq m1 m2 m3 m4 c3
                    have hlo1 := (TF3.lo x1 hax).1
                    have hbs := TD3.lo s hsn
                    have hfne : ∀ z, z < n → bs z < w.heap.size := fun z hz => by have := (TDW.out z hz).2; omega
                    have HFN := Lib.hid hfne
                    clear hfne
                    cases hsl : sameLabel (nd xs s) (nd ys t)
                    all_goals
                      have HSL := Lib.hid hsl
                      clear hsl
                      go_wp2_with fail
                    all_goals
                      obtain ⟨vv, hvv⟩ : ∃ vv : Int, vv = min (mn + 1) (F a b + if sameLabel (nd xs s) (nd ys t) then 0 else 1) := ⟨_, rfl⟩
                      have hv2 := hvv
                      rw [HSL.out] at hv2
                      simp only [Bool.false_eq_true, if_false, if_true, Int.add_zero] at hv2
                      generalize hW2 : World.setCell (World.drewN wr _) ⟨bf x1, y1, none⟩ (.int .i64 _) = W2
                      obtain ⟨nq1, uu, hW3, huu⟩ : ∃ nq1 uu, World.setCell (World.drewN wr nq1) ⟨bf x1, y1, none⟩ (.int .i64 uu) = W2 ∧ uu = vv := ⟨_, _, hW2, by omega⟩
                      rw [huu] at hW3
                      clear hW2 huu
                      have hK2 : Keeps (fun b => ∃ s, s < n ∧ b = bs s) w W2 := by rw [← hW3]; exact (hKr.drewN nq1).setCell (p := ⟨bf x1, y1, none⟩) (.inr hlo1) _
                      have TF4 : Tab W2 w.heap.size w.heap.size bf j y (upd F x1 y1 vv) := by rw [← hW3]; exact (TF3.drewN nq1).set hax hby vv
                      have TD4 : Tab W2 base gd bs n m (dcur xs ys p q i k D F s t) := by
                        rw [← hW3]
                        refine TD3.keep (S := fun b => b = bf x1) (Keeps.setCell (S := fun b => b = bf x1) ((Keeps.refl _ wr).drewN nq1) (p := ⟨bf x1, y1, none⟩) (.inl rfl) _) (fun h => ?_) (fun z hz h => ?_)
                        · have := GLO.out; omega
                        · have := HFN.out z hz; omega
                      obtain ⟨q1, q2, q3, q4, q5, _, _⟩ := CTX.out W2 hK2
                      have z2 := TD4.outer s hsn
                      have z3 := TD4.inner s t hsn htm
                      have z4 := TD4.free s t hsn htm
                      have z5 := TF4.outer x1 hax
                      have z6 := TF4.inner x1 y1 hax hby
                      rw [upd_same] at z6
                      have HVV := Lib.hid hvv
                      clear hW3 hvv hv2 c4 f4 o1 o2
                      go_still_tail 13, (by kernel_rfl)
                      go_wp2_with fail
                      go_roundw
                      case rel =>
                        have ea : s - p = a := by have := hA.out; omega
                        have eb : t - q = b := by have := hB.out; omega
                        have ex : x1 = s - p + 1 := by have := HX1.out; omega
                        have ey : y1 = t - q + 1 := by have := HY1.out; omega
                        refine ⟨t + 1, by omega, by omega, by go_num, hK2.drew.setCell (p := ⟨bs s, t, none⟩) (.inl ⟨s, hsn, rfl⟩) _, upd F (s - p + 1) (t - q + 1) vv, ?_, ?_, ?_⟩
                        · rw [← ex, ← ey]
                          refine TF4.keep (Keeps.setCell (S := fun b => b = bs s) (Keeps.refl _ W2).drew (p := ⟨bs s, t, none⟩) (.inl rfl) _) (fun h => ?_) (fun z hz h => ?_)
                          · have := HFN.out s hsn; omega
                          · have := HFN.out s hsn; have := (TF4.lo z hz).1; omega
                        · exact (Tab.set (w := W2.drew) (TD4.drewN 1) hsn htm vv).congr (fun s' t' _ _ => dcur_set vv hs1 hls ht1 hlt HAL.out s' t')
                        · refine HI.step hs1 hls ht1 hlt Ha.out Hb.out ?_ ?_
                          · rw [HVV.out]; split <;> omega
                          · rw [if_pos HAL.out, ea, eb, ← HX1.out, ← HY1.out, HBE.out]; exact HVV.out
                      case measure => simp [intOf]; omega
                  · have hdc : dcur xs ys p q i k D F s t s t = D s t := by unfold dcur; rw [if_neg (fun h => hal ⟨h.2.2.2.2.1, h.2.2.2.2.2.1⟩)]
                    have hDb := Hd.out s t hsn htm
                    obtain ⟨hu1, hu2⟩ := Ha.out s hs1 hls
                    obtain ⟨hv1, hv2⟩ := Hb.out t ht1 hlt
                    obtain ⟨u, hu⟩ : ∃ u, u = lf xs s - p := ⟨_, rfl⟩
                    obtain ⟨v, hv⟩ : ∃ v, v = lf ys t - q := ⟨_, rfl⟩
                    have hul : u ≤ a := by have := hA.out; omega
                    have hvl : v ≤ b := by have := hB.out; omega
                    have f1 : ((lf xs s : Int) - (p : Int)) = (u : Int) := by omega
                    have f2 : ((lf ys t : Int) - (q : Int)) = (v : Int) := by omega
                    have f3 : IntKind.i64.wrap ((lf xs s : Int) - (p : Int)) = (u : Int) := by rw [f1]; exact IntWalk.i64_in _ (by omega)
                    have f4' : IntKind.i64.wrap ((lf ys t : Int) - (q : Int)) = (v : Int) := by rw [f2]; exact IntWalk.i64_in _ (by omega)
                    have f7 : IntKind.i64.wrap (u : Int) = (u : Int) := IntWalk.i64_in _ (by omega)
                    have f8 : IntKind.i64.wrap (v : Int) = (v : Int) := IntWalk.i64_in _ (by omega)
                    have b0 := HI.bd u v
                    have f5 : IntKind.i64.wrap (F u v + D s t) = F u v + D s t := IntWalk.i64_in _ (by omega)
                    have f6 : 0 ≤ F u v + D s t ∧ F u v + D s t ≤ 30000000 := by omega
                    have HAL := Lib.hid hal
                    have HU := Lib.hid hu
                    have HV := Lib.hid hv
                    have o3 := TF3.outer u (by omega)
                    have c3 := TF3.inner u v (by omega) (by omega)
                    have c4 := TF3.inner x1 y1 hax hby
                    have fr4 := TF3.free x1 y1 hax hby
                    have z2 := TD3.outer s hsn
                    have z3 := TD3.inner s t hsn htm
                    rw [hdc] at z3
                    have hlo1 := (TF3.lo x1 hax).1
                    have hfne : ∀ z, z < n → bs z < w.heap.size := fun z hz => by have := (TDW.out z hz).2; omega
                    have HFN := Lib.hid hfne
                    have hul2 : u < j := by omega
                    have hvl2 : v < y := by omega
                    clear hfne hal hdc hu hv hDb hu1 hu2 hv1 hv2
                    have hcs : ((lf xs s : Int) != (p : Int)) = true ∨ (((lf xs s : Int) != (p : Int)) = false ∧ ((lf ys t : Int) != (q : Int)) = true) := by
                      by_cases h : lf xs s = p
                      · right
                        refine ⟨by rw [bne_eq_false_iff_eq]; omega, ?_⟩
                        rw [bne_iff_ne]; intro h2; exact HAL.out ⟨h, by omega⟩
                      · left; rw [bne_iff_ne]; omega
                    obtain ⟨vv, hvv⟩ : ∃ vv : Int, vv = min (mn + 1) (F u v + D s t) := ⟨_, rfl⟩
                    have HVV := Lib.hid hvv
                    clear hvv
                    rcases hcs with d1 | ⟨d1, d2⟩
                    all_goals
                      go_wp2_with fail
                      generalize hW5 : World.drewN wr _ = W5
                      have g1 : W5.cell? ⟨ba, 1, none⟩ = some (.slice (some ⟨gF, 0, none⟩) n cF) := by rw [← hW5]; exact r2
                      have g2 : W5.cell? ⟨bb, 1, none⟩ = some (.slice (some ⟨gF', 0, none⟩) m cF') := by rw [← hW5]; exact r4
                      have g3 : W5.cell? ⟨bd, 0, none⟩ = some (.slice (some ⟨gd, 0, none⟩) n cd) := by rw [← hW5]; exact r5
                      have g4 : W5.cell? ⟨gF, s, none⟩ = some (.int .i64 (lf xs s : Nat)) := by rw [← hW5]; exact l3
                      have g5 : W5.cell? ⟨gF', t, none⟩ = some (.int .i64 (lf ys t : Nat)) := by rw [← hW5]; exact l4
                      have g6 : W5.cell? ⟨w.heap.size, x1, none⟩ = some (.slice (some ⟨bf x1, 0, none⟩) y y) := by rw [← hW5]; exact o2
                      have g7 : W5.cell? ⟨w.heap.size, u, none⟩ = some (.slice (some ⟨bf u, 0, none⟩) y y) := by rw [← hW5]; exact o3
                      have g8 : W5.cell? ⟨bf u, v, none⟩ = some (.int .i64 (F u v)) := by rw [← hW5]; exact c3
                      have g9 : W5.cell? ⟨bf x1, y1, none⟩ = some (.int .i64 (F x1 y1)) := by rw [← hW5]; exact c4
                      have g10 : W5.frozen? ⟨bf x1, y1, none⟩ = false := by rw [← hW5]; exact fr4
                      have g11 : W5.cell? ⟨gd, s, none⟩ = some (.slice (some ⟨bs s, 0, none⟩) m m) := by rw [← hW5]; exact z2
                      have g12 : W5.cell? ⟨bs s, t, none⟩ = some (.int .i64 (D s t)) := by rw [← hW5]; exact z3
                      have hK5 : Keeps (fun b => ∃ s, s < n ∧ b = bs s) w W5 := by rw [← hW5]; exact hKr.drewN _
                      have hK6 : Keeps (fun _ => False) wr W5 := by rw [← hW5]; exact (Keeps.refl _ _).drewN _
                      clear hW5 r1 r2 r3 r4 r5 l3 l4 o1 o2 o3 c3 c4 fr4 z2 z3
                      go_still_tail 35, (by kernel_rfl)
                      go_wp2_with fail
                    all_goals
                      go_roundw
                      case rel =>
                        have ea : s - p = a := by have := hA.out; omega
                        have eb : t - q = b := by have := hB.out; omega
                        have ex : x1 = s - p + 1 := by have := HX1.out; omega
                        have ey : y1 = t - q + 1 := by have := HY1.out; omega
                        have TF5 : Tab W5.drew w.heap.size w.heap.size bf j y F := (TF3.keep hK6 (fun h => h) (fun _ _ h => h)).drewN 1
                        have TD5 : Tab W5.drew base gd bs n m (dcur xs ys p q i k D F s t) := (TD3.keep hK6 (fun h => h) (fun _ _ h => h)).drewN 1
                        have hvv := HVV.out
                        refine ⟨t + 1, by omega, by omega, by go_num, hK5.drew.setCell (p := ⟨bf x1, y1, none⟩) (.inr hlo1) _, upd F (s - p + 1) (t - q + 1) vv, ?_, ?_, ?_⟩
                        · rw [← ex, ← ey]
                          exact TF5.set' hax hby (by omega)
                        · refine (Tab.keep (S := fun b => b = bf x1) TD5 (Keeps.setCell (S := fun b => b = bf x1) (Keeps.refl _ _) (p := ⟨bf x1, y1, none⟩) (.inl rfl) _) (fun h => ?_) (fun z hz h => ?_)).congr (fun s' t' _ _ => dcur_keep vv hs1 ht1 HAL.out s' t')
                          · have := GLO.out; omega
                          · have := HFN.out z hz; omega
                        · refine HI.step hs1 hls ht1 hlt Ha.out Hb.out (by omega) ?_
                          rw [if_neg HAL.out, ea, eb, ← HX1.out, ← HY1.out, HBE.out, ← HU.out, ← HV.out]; exact hvv
                      case measure => simp [intOf]; omega
                · obtain rfl : t = k + 1 := by omega
                  have TD6 : Tab wr base gd bs n m (dcur xs ys p q i k D F (s + 1) q) := TD3.congr (fun s' t' _ _ => (dcur_row s' t').symm)
                  have HI6 := HI.next
                  clear TD3 HI
                  go_wp2_with fail
                  go_roundw
                  case rel => exact ⟨s + 1, by omega, by omega, by go_num, hKr, F, TF3, TD6, HI6⟩
                  case measure => simp [intOf]; omega
            · obtain rfl : s = i + 1 := by omega
              go_wp2_with fail
              go_end0
              refine ⟨rfl, hKr, F, ⟨by rw [HP.out]; exact HI.row, by rw [HQ.out]; exact HI.col, fun s t h1 h2 h3 h4 h5 h6 => ?_, fun s t h1 h2 h3 h4 h5 => ?_⟩, HI.bd, TD3.congr (fun s' t' _ _ => ?_)⟩
              · have h := HI.eqn s t (by rw [← HP.out]; exact h1) h2 (by rw [← HQ.out]; exact h3) h4 (by omega)
                unfold Eqn at h
                rw [HP.out, HQ.out]
                rw [h, if_pos ⟨by rw [h5, HP.out], by rw [h6, HQ.out]⟩]
              · have h := HI.eqn s t (by rw [← HP.out]; exact h1) h2 (by rw [← HQ.out]; exact h3) h4 (by omega)
                unfold Eqn at h
                rw [HP.out, HQ.out]
                rw [h, if_neg (by rintro ⟨h6, h7⟩; rw [HP.out, HQ.out] at h5; rcases h5 with h5 | h5; exact h5 h6; exact h5 h7)]
              · unfold dcur
                by_cases hc : p ≤ s' ∧ s' ≤ i ∧ q ≤ t' ∧ t' ≤ k ∧ lf xs s' = p ∧ lf ys t' = q
                · rw [if_pos hc, if_pos ⟨hc.1, hc.2.1, hc.2.2.1, hc.2.2.2.1, hc.2.2.2.2.1, hc.2.2.2.2.2, by omega⟩]
                · rw [if_neg hc, if_neg (fun h => hc ⟨h.1, h.2.1, h.2.2.1, h.2.2.2.1, h.2.2.2.2.1, h.2.2.2.2.2.1⟩)]
end Go.Proofs.Ytjijfgkmjachnaa
