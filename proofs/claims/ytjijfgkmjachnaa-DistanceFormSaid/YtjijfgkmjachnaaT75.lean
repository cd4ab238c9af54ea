/- The reference's flat, walked. -/
import Derived.Test.YtjijfgkmjachnaaT74
import Derived.Test.YtjijfgkmjachnaaC10
namespace Go.Proofs.Ytjijfgkmjachnaa
set_option linter.unusedVariables false
set_option linter.unusedSimpArgs false
open Go.RowKit

theorem inf9 : (Try.prog.info? 9).map (fun i => (i.zero, i.size, i.bytes)) = some (some (.string ⟨#[]⟩), 1, 16) := by kernel_rfl
/-- the lists of one length -/
def Q1 (B : Nat) (W : World) (As : Nat → Option Addr) (cs : Nat → Nat) (xs : List Ent) : Prop := Q4 B W As cs (fun _ => xs.length) (fun j => fcol j xs)
theorem kids_len' (t : Nd) : t.kids.length ≤ Nd.sizes t.kids := by
  have : ∀ l : List Nd, l.length ≤ Nd.sizes l := by
    intro l
    induction l with
    | nil => simp
    | cons a l ih => rw [Nd.sizes_cons, List.length_cons]; have := a.size_pos; omega
  exact this t.kids
def box4 (As : Nat → Option Addr) (cs : Nat → Nat) (n : Nat) : Array Value := #[.slice (As 0) n (cs 0), .slice (As 1) n (cs 1), .slice (As 2) n (cs 2), .slice (As 3) n (cs 3)]
/-- after some kids -/
structure L31 (B : Nat) (W0 W : World) (A0 : Nat → Option Addr) (As : Nat → Option Addr) (cs : Nat → Nat) (xs : List Ent) (t : Nd) (A : Option Addr) (c : Nat) : Prop where
  s : S4 B W0.heap.size A0 W0 W As cs (fun _ => xs.length) (fun j => fcol j xs)
  b4 : W.heap[W0.heap.size + 1]? = some (.cells (cells5 t A c).toArray 24 (0, 0))
  b6 : W.heap[W0.heap.size + 1 + 1]? = some (.cells #[.slice none 0 0, .slice none 0 0, .slice none 0 0, .slice none 0 0] 60 (0, 0))

theorem L31.ne {B : Nat} {W0 W : World} {A0 As : Nat → Option Addr} {cs : Nat → Nat} {xs : List Ent} {t : Nd} {A : Option Addr} {c : Nat} (h : L31 B W0 W A0 As cs xs t A c) {q : Nat} (hq : rb4 As q) : q ≠ W0.heap.size ∧ q ≠ W0.heap.size + 1 ∧ q ≠ W0.heap.size + 1 + 1 ∧ q < W.heap.size := by
  refine ⟨h.s.nb hq, ?_, ?_, (h.s.q.lt hq).2⟩
  · obtain ⟨j, hj, p, hp, rfl⟩ := hq
    obtain ⟨_, _, cur, h1⟩ := h.s.q.blk hj hp
    exact heap_ne_type h1 h.b4 (by unfold ety; split <;> decide)
  · obtain ⟨j, hj, p, hp, rfl⟩ := hq
    obtain ⟨_, _, cur, h1⟩ := h.s.q.blk hj hp
    exact heap_ne_type h1 h.b6 (by unfold ety; split <;> decide)
theorem box_cells {W : World} {b : Nat} {As : Nat → Option Addr} {cs ns : Nat → Nat} (hb : W.heap[b]? = some (.cells #[sl As cs ns 0, sl As cs ns 1, sl As cs ns 2, sl As cs ns 3] 60 (0, 0))) :
    (W.cell? ⟨b, 0, none⟩ = some (.slice (As 0) (ns 0) (cs 0)) ∧ W.cell? ⟨b, 1, none⟩ = some (.slice (As 1) (ns 1) (cs 1)) ∧ W.cell? ⟨b, 2, none⟩ = some (.slice (As 2) (ns 2) (cs 2)) ∧ W.cell? ⟨b, 3, none⟩ = some (.slice (As 3) (ns 3) (cs 3))) ∧
    ∀ j, W.frozen? ⟨b, j, none⟩ = false := by
  refine ⟨⟨?_, ?_, ?_, ?_⟩, fun j => ?_⟩
  · simp [World.cell?, hb]; rfl
  · simp [World.cell?, hb]; rfl
  · simp [World.cell?, hb]; rfl
  · simp [World.cell?, hb]; rfl
  · simp [World.frozen?, hb]
/-- the box's cells -/
theorem L31.cells {B : Nat} {W0 W : World} {A0 As : Nat → Option Addr} {cs : Nat → Nat} {xs : List Ent} {t : Nd} {A : Option Addr} {c : Nat} (h : L31 B W0 W A0 As cs xs t A c) :
    (W.cell? ⟨W0.heap.size, 0, none⟩ = some (.slice (As 0) xs.length (cs 0)) ∧ W.cell? ⟨W0.heap.size, 1, none⟩ = some (.slice (As 1) xs.length (cs 1)) ∧ W.cell? ⟨W0.heap.size, 2, none⟩ = some (.slice (As 2) xs.length (cs 2)) ∧ W.cell? ⟨W0.heap.size, 3, none⟩ = some (.slice (As 3) xs.length (cs 3))) ∧
    ∀ j, W.frozen? ⟨W0.heap.size, j, none⟩ = false := by
  have hb := h.s.hb
  refine ⟨⟨?_, ?_, ?_, ?_⟩, fun j => ?_⟩
  · simp [World.cell?, hb]; rfl
  · simp [World.cell?, hb]; rfl
  · simp [World.cell?, hb]; rfl
  · simp [World.cell?, hb]; rfl
  · simp [World.frozen?, hb]
theorem L31.below {B : Nat} {W0 W W1 : World} {A0 As : Nat → Option Addr} {cs : Nat → Nat} {xs : List Ent} {t : Nd} {A : Option Addr} {c : Nat} (h : L31 B W0 W A0 As cs xs t A c) (hb : Below W.heap.size W W1) : L31 B W0 W1 A0 As cs xs t A c :=
  ⟨h.s.below hb, (hb.block _ (hlt h.b4)).trans h.b4, (hb.block _ (hlt h.b6)).trans h.b6⟩
def set4 (w : World) (b : Nat) (a0 a1 a2 a3 : Value) : World := (((w.setCell ⟨b, 0, none⟩ a0).setCell ⟨b, 1, none⟩ a1).setCell ⟨b, 2, none⟩ a2).setCell ⟨b, 3, none⟩ a3
theorem set4_other (w : World) (b : Nat) (a0 a1 a2 a3 : Value) {q : Nat} (h : q ≠ b) : (set4 w b a0 a1 a2 a3).heap[q]? = w.heap[q]? := by
  unfold set4
  rw [Below.heap_setCell _ _ _ _ h, Below.heap_setCell _ _ _ _ h, Below.heap_setCell _ _ _ _ h, Below.heap_setCell _ _ _ _ h]
theorem set4_at (w : World) (b : Nat) (a0 a1 a2 a3 u0 u1 u2 u3 : Value) (t : TypeId) (h : w.heap[b]? = some (.cells #[u0, u1, u2, u3] t (0, 0))) : (set4 w b a0 a1 a2 a3).heap[b]? = some (.cells #[a0, a1, a2, a3] t (0, 0)) := by
  unfold set4
  have h1 := setAt w b 0 _ t a0 h
  have h2 := setAt _ b 1 _ t a1 h1
  have h3 := setAt _ b 2 _ t a2 h2
  have h4 := setAt _ b 3 _ t a3 h3
  exact h4
/-- a kid's call, stored in the box -/
theorem L31.kid {B : Nat} {W0 W W3 : World} {A0 As As' : Nat → Option Addr} {cs cs' : Nat → Nat} {xs ys : List Ent} {t : Nd} {A : Option Addr} {c : Nat} (h : L31 B W0 W A0 As cs xs t A c) (hq : Q1 B W3 As' cs' ys) (hrb : ∀ q, rb4 As' q → rb4 As q ∨ W.heap.size ≤ q) (hk : Keeps (rb4 As) W W3) :
    L31 B W0 (set4 W3 W0.heap.size (.slice (As' 0) ys.length (cs' 0)) (.slice (As' 1) ys.length (cs' 1)) (.slice (As' 2) ys.length (cs' 2)) (.slice (As' 3) ys.length (cs' 3))) A0 As' cs' ys t A c := by
  have l3 := hlt h.s.hb
  have l4 := hlt h.b4
  have l6 := hlt h.b6
  have h3 := (hk.block _ l3 (fun e => (h.ne e).1 rfl)).trans h.s.hb
  have h4 := (hk.block _ l4 (fun e => (h.ne e).2.1 rfl)).trans h.b4
  have h6 := (hk.block _ l6 (fun e => (h.ne e).2.2.1 rfl)).trans h.b6
  have hn : ∀ q, rb4 As' q → q ≠ W0.heap.size := fun q hq' => by
    rcases hrb q hq' with h1 | h1
    · exact (h.ne h1).1
    · omega
  refine ⟨⟨hq.move fun q hq' => set4_other _ _ _ _ _ _ (hn q hq'), set4_at _ _ _ _ _ _ _ _ _ _ _ h3, fun q hq' => ?_, ?_, Nat.le_refl _⟩, (set4_other _ _ _ _ _ _ (by omega)).trans h4, (set4_other _ _ _ _ _ _ (by omega)).trans h6⟩
  · rcases hrb q hq' with h1 | h1
    · exact h.s.rb q h1
    · right; have := h.s.kp.size; omega
  · have k1 : Keeps (rb4 A0) W0 W3 := h.s.kp.trans' hk fun i hi e => by
      rcases h.s.rb i e with h1 | h1
      · exact h1
      · omega
    exact (((k1.setCell (p := ⟨_, 0, none⟩) (.inr (Nat.le_refl _)) _).setCell (p := ⟨_, 1, none⟩) (.inr (Nat.le_refl _)) _).setCell (p := ⟨_, 2, none⟩) (.inr (Nat.le_refl _)) _).setCell (p := ⟨_, 3, none⟩) (.inr (Nat.le_refl _)) _

/-- columns of different lengths -/
structure L32 (B : Nat) (W0 W : World) (A0 : Nat → Option Addr) (As : Nat → Option Addr) (cs ns : Nat → Nat) (a : Nat → List Value) (t : Nd) (A : Option Addr) (c : Nat) : Prop where
  s : S4 B W0.heap.size A0 W0 W As cs ns a
  b4 : W.heap[W0.heap.size + 1]? = some (.cells (cells5 t A c).toArray 24 (0, 0))
  b6 : W.heap[W0.heap.size + 1 + 1]? = some (.cells #[.slice none 0 0, .slice none 0 0, .slice none 0 0, .slice none 0 0] 60 (0, 0))
theorem L32.alloc {B : Nat} {W0 W : World} {A0 As : Nat → Option Addr} {cs ns : Nat → Nat} {a : Nat → List Value} {t : Nd} {A : Option Addr} {c : Nat} (h : L32 B W0 W A0 As cs ns a t A c) (o : Obj) : L32 B W0 (W.alloc o) A0 As cs ns a t A c :=
  ⟨h.s.alloc o, (Below.heap_alloc _ _ _ (hlt h.b4)).trans h.b4, (Below.heap_alloc _ _ _ (hlt h.b6)).trans h.b6⟩
theorem L32.same {B : Nat} {W0 W W1 : World} {A0 As : Nat → Option Addr} {cs ns : Nat → Nat} {a : Nat → List Value} {t : Nd} {A : Option Addr} {c : Nat} (h : L32 B W0 W A0 As cs ns a t A c) {j : Nat} (hj : j < 4)
    (hg : W.grownBy W1 (sl As cs ns j).ownBlock) : ∀ (b : Nat) (t' : TypeId) (cs' : Array Value), W.heap[b]? = some (.cells cs' t' (0, 0)) → t' ≠ ety j → W1.heap[b]? = some (.cells cs' t' (0, 0)) := by
  intro b t' cs' hb ht
  rw [hg.block b (hlt hb) (fun e => ?_)]
  · exact hb
  · obtain ⟨p, hp, rfl⟩ := (own_sl _ _ _ _).1 e.symm
    obtain ⟨_, _, cur, h1⟩ := h.s.q.blk hj hp
    rw [h1] at hb
    injection hb with hb; injection hb with _ e2; exact ht e2.symm
theorem ety_ne (j : Nat) : (60 : TypeId) ≠ ety j ∧ (24 : TypeId) ≠ ety j := by unfold ety; split <;> decide
theorem L32.app {B : Nat} {W0 W W1 : World} {A0 As : Nat → Option Addr} {cs ns : Nat → Nat} {a : Nat → List Value} {t : Nd} {A : Option Addr} {c : Nat} (h : L32 B W0 W A0 As cs ns a t A c) (j : Nat) (hj : j < 4) (hBW : B ≤ W0.heap.size) {g cap : Nat} {u : Value}
    (ho : W1.ownsRow B (ety j) 1 (.slice (some ⟨g, 0, none⟩) (ns j + 1) cap) (ns j + 1) (a j ++ [u])) (hg : W.grownBy W1 (sl As cs ns j).ownBlock) (hat : (sl As cs ns j).ownBlock = some g ∨ g = W.heap.size) :
    L32 B W0 (W1.setCell ⟨W0.heap.size, j, none⟩ (.slice (some ⟨g, 0, none⟩) (ns j + 1) cap)) A0 (up As j (some ⟨g, 0, none⟩)) (up cs j cap) (up ns j (ns j + 1)) (up a j (a j ++ [u])) t A c :=
  ⟨h.s.app hj hBW ho hg hat, (Below.heap_setCell _ _ _ _ (by simp)).trans (h.same hj hg _ _ _ h.b4 (ety_ne j).2), (Below.heap_setCell _ _ _ _ (by simp; omega)).trans (h.same hj hg _ _ _ h.b6 (ety_ne j).1)⟩
theorem box4_cells {W : World} {b : Nat} {v0 v1 v2 v3 : Value} (hb : W.heap[b]? = some (.cells #[v0, v1, v2, v3] 60 (0, 0))) :
    (W.cell? ⟨b, 0, none⟩ = some v0 ∧ W.cell? ⟨b, 1, none⟩ = some v1 ∧ W.cell? ⟨b, 2, none⟩ = some v2 ∧ W.cell? ⟨b, 3, none⟩ = some v3) ∧ ∀ j, W.frozen? ⟨b, j, none⟩ = false := by
  refine ⟨⟨?_, ?_, ?_, ?_⟩, fun j => ?_⟩
  · simp [World.cell?, hb]
  · simp [World.cell?, hb]
  · simp [World.cell?, hb]
  · simp [World.cell?, hb]
  · simp [World.frozen?, hb]

set_option maxRecDepth 100000 in
set_option maxHeartbeats 4000000 in
theorem refFlat (w0 : World) (B : Nat) (hB0 : w0.heap.size ≤ B) (n : Nat) : ∀ (t : Nd) (A : Option Addr) (c : Nat) (xs : List Ent) (m : Nat) (As : Nat → Option Addr) (cs : Nat → Nat) (W : World), t.size ≤ n → RN w0 t A c → Below w0.heap.size w0 W →
    B ≤ W.heap.size → Q1 B W As cs xs → xs.length + t.size ≤ 1000000 → m + t.size ≤ 1000000 →
    Calls Try.prog 31 #[.agg #[.slice (As 0) xs.length (cs 0), .slice (As 1) xs.length (cs 1), .slice (As 2) xs.length (cs 2), .slice (As 3) xs.length (cs 3)], t.val A c, .int .i64 (m : Nat)] W fun e W' =>
      (∃ As' cs', e = .returned (.agg #[.slice (As' 0) (xs.length + t.size) (cs' 0), .slice (As' 1) (xs.length + t.size) (cs' 1), .slice (As' 2) (xs.length + t.size) (cs' 2), .slice (As' 3) (xs.length + t.size) (cs' 3)]) ∧
        Q1 B W' As' cs' (xs ++ post t xs.length m) ∧ ∀ q, rb4 As' q → rb4 As q ∨ W.heap.size ≤ q) ∧ Keeps (rb4 As) W W' := by
  induction n with
  | zero => intro t A c xs m As cs W h; have := t.size_pos; omega
  | succ n ih =>
    intro t A c xs m As cs W hn hR hbw hBW hQ hx hm
    have HIH := Lib.hid ih
    have hkl := kids_len' t
    have hse := Lib.hid t.size_eq
    have HR := Lib.hid hR
    have HQ := Lib.hid hQ
    have HBW := Lib.hid hbw
    have hlen : t.kids.length ≤ 1000000 := by have := hse.out; omega
    clear ih hR hQ hbw
    unfold Nd.val
    go_enter Try.func31, Try.ntmps31
    go_wp2_with fail
    obtain ⟨W1, hW1⟩ : ∃ W1, (((W.alloc (.cells #[.slice (As 0) xs.length (cs 0), .slice (As 1) xs.length (cs 1), .slice (As 2) xs.length (cs 2), .slice (As 3) xs.length (cs 3)] 60)).alloc (.cells #[.int .i64 t.kind, .string t.text, .int .i64 t.pos, .int .i64 t.fin, .slice A t.kids.length c] 24)).alloc (.cells #[.slice none 0 0, .slice none 0 0, .slice none 0 0, .slice none 0 0] 60)) = W1 := ⟨_, rfl⟩
    rw [hW1]
    have hL : L31 B W W1 As As cs xs t A c := by
      subst hW1
      have z1 : (W.alloc (.cells #[.slice (As 0) xs.length (cs 0), .slice (As 1) xs.length (cs 1), .slice (As 2) xs.length (cs 2), .slice (As 3) xs.length (cs 3)] 60)).heap.size = W.heap.size + 1 := by simp
      have z2 : ((W.alloc (.cells #[.slice (As 0) xs.length (cs 0), .slice (As 1) xs.length (cs 1), .slice (As 2) xs.length (cs 2), .slice (As 3) xs.length (cs 3)] 60)).alloc (.cells #[.int .i64 t.kind, .string t.text, .int .i64 t.pos, .int .i64 t.fin, .slice A t.kids.length c] 24)).heap.size = W.heap.size + 1 + 1 := by simp
      refine ⟨⟨((HQ.out.alloc _).alloc _).alloc _, ?_, fun q hq => .inl hq, (((Keeps.refl _ _).alloc _).alloc _).alloc _, Nat.le_refl _⟩, ?_, ?_⟩
      · rw [Below.heap_alloc _ _ _ (by rw [z2]; omega), Below.heap_alloc _ _ _ (by rw [z1]; omega)]
        exact heap_alloc_new _ _
      · rw [Below.heap_alloc _ _ _ (by rw [z2]; omega), ← z1]
        exact heap_alloc_new _ _
      · rw [← z2]
        exact heap_alloc_new _ _
    have HL := Lib.hid hL
    clear hW1 hL
    go_loopw [8, 9] (fun v i wr => ∃ (k : Nat) (As' : Nat → Option Addr) (cs' : Nat → Nat), i = .int .i64 k ∧ v = .int .i64 ((m + 1 + Nd.sizes (t.kids.take k) : Nat) : Int) ∧ k ≤ t.kids.length ∧ Hid (L31 B W wr As As' cs' (xs ++ postK (t.kids.take k) xs.length (m + 1)) t A c)) (fun _ i _ => t.kids.length - (intOf i).toNat)
    case atStart => exact ⟨0, As, cs, rfl, by simp [Nd.sizes_nil], Nat.zero_le _, Lib.hid (by simpa [postK_nil] using HL.out)⟩
    case round =>
      clear HL
      obtain ⟨k, As1, cs1, rfl, rfl, hk, H⟩ := hrel
      have hbw1 : Below w0.heap.size w0 wr := HBW.out.trans (H.out.s.kp.below HBW.out.size (fun q hq => by have := (HQ.out.lt hq).1; omega))
      obtain ⟨⟨c0, c1, c2, c3⟩, hf⟩ := H.out.cells
      obtain ⟨d0, d1, d2, d3, d4⟩ := At5.of H.out.b4
      by_cases hlk : k < t.kids.length
      · obtain ⟨b, o, A', c', rfl, hcell, hrk⟩ := HR.out.get k hlk
        obtain ⟨r0, r1, r2, r3, r4⟩ := hcell.keep hbw1 hcell.lt
        have hpl := postK_len (t.kids.take k) xs.length (m + 1)
        have hts := sizes_take_succ t.kids k hlk
        have hle := sizes_take_le t.kids (k + 1)
        have hsk := Nd.size_get t k hlk
        have hps := postK_take_succ t.kids k hlk xs.length (m + 1)
        obtain ⟨Y, hY⟩ : ∃ Y, xs ++ postK (t.kids.take k) xs.length (m + 1) = Y := ⟨_, rfl⟩
        obtain ⟨S, hS⟩ : ∃ S, Nd.sizes (t.kids.take k) = S := ⟨_, rfl⟩
        have hYl : Y.length = xs.length + S := by rw [← hY, List.length_append, hpl, hS]
        rw [hS] at hts hps
        rw [hY] at H c0 c1 c2 c3
        rw [hS]
        obtain ⟨ch, hch⟩ : ∃ ch, t.kids[k] = ch := ⟨_, rfl⟩
        rw [hch] at r0 r1 r2 r3 r4 hrk hsk hts hps
        have hse2 := hse.out
        have HC := Lib.hid (fun (V : World) (h1 : Below w0.heap.size w0 V) (h2 : B ≤ V.heap.size) (h3 : Q1 B V As1 cs1 Y) => HIH.out ch A' c' Y (m + 1 + S) As1 cs1 V (by omega) hrk h1 h2 h3 (by omega) (by omega))
        have HCNT := Lib.hid (fun (V : World) (h1 : Below w0.heap.size w0 V) => refCount ch.size ch A' c' V (Nat.le_refl _) (RN.keep h1 hrk) (by omega))
        have HX := Lib.hid (And.intro hY (And.intro hS (And.intro hYl (And.intro hps hts))))
        have hb2 : m + 1 + S + ch.size ≤ 1000000 := by omega
        have hbW := Lib.hid hbw1
        have hcl := hcell.lt
        have HCELL := Lib.hid hcell
        clear hpl hle hsk hrk hY hS hYl hps hse2 hbw1 hcell
        unfold Nd.val at HC HCNT
        go_wp2_with fail
        go_still_tail 7, (by kernel_rfl)
        go_wp2_with fail
        refine (HC.out wr.drew hbW.out.drew (Nat.le_trans (Nat.le_trans hBW H.out.s.kp.size) (Nat.le_refl _)) ?_).mono ?_
        · exact H.out.s.q.move fun _ _ => rfl
        rintro e w3 ⟨⟨As2, cs2, rfl, hq2, hrb2⟩, hk2'⟩
        have hk2 : Keeps (rb4 As1) wr w3 := ⟨hk2'.os, hk2'.tape, hk2'.output, hk2'.size, hk2'.block⟩
        have hlen2 : (Y ++ post ch Y.length (m + 1 + S)).length = Y.length + ch.size := by rw [List.length_append, post_len]
        obtain ⟨w4, hw4⟩ : ∃ w4, (((w3.setCell ⟨W.heap.size, 0, none⟩ (.slice (As2 0) (Y.length + ch.size) (cs2 0))).setCell ⟨W.heap.size, 1, none⟩ (.slice (As2 1) (Y.length + ch.size) (cs2 1))).setCell ⟨W.heap.size, 2, none⟩ (.slice (As2 2) (Y.length + ch.size) (cs2 2))).setCell ⟨W.heap.size, 3, none⟩ (.slice (As2 3) (Y.length + ch.size) (cs2 3)) = w4 := ⟨_, rfl⟩
        have hL4 : L31 B W w4 As As2 cs2 (Y ++ post ch Y.length (m + 1 + S)) t (some ⟨b, o, none⟩) c := by
          have := H.out.kid hq2 hrb2 hk2
          rw [hlen2] at this
          rw [← hw4]
          exact this
        have h3 : w3.heap[W.heap.size]? = _ := (hk2.block _ (hlt H.out.s.hb) (fun e => (H.out.ne e).1 rfl)).trans H.out.s.hb
        obtain ⟨⟨p0, p1, p2, p3⟩, pf⟩ := box_cells h3
        clear c0 c1 c2 c3 hf d0 d1 d2 d3 d4 r0 r1 r2 r3 r4 h3 hk2' hq2 hrb2 hk2
        have HL4 := Lib.hid hL4
        have hbw4 : Below w0.heap.size w0 w4 := HBW.out.trans (hL4.s.kp.below HBW.out.size (fun q hq => by have := (HQ.out.lt hq).1; omega))
        obtain ⟨d0, d1, d2, d3, d4⟩ := At5.of hL4.b4
        obtain ⟨r0, r1, r2, r3, r4⟩ := HCELL.out.keep hbw4 hcl
        rw [hch] at r0 r1 r2 r3 r4
        have HB4 := Lib.hid hbw4
        clear hL4 hbw4
        go_wp2_with fail
        refine (HCNT.out w4 HB4.out).mono ?_
        rintro e w5 ⟨rfl, hb5⟩
        have HL5 := Lib.hid (HL4.out.below hb5)
        clear d0 d1 d2 d3 d4 r0 r1 r2 r3 r4 hb5
        go_wp2_with fail
        go_roundw
        case rel =>
          obtain ⟨hY, hS, hYl, hps, hts⟩ := HX.out
          refine ⟨k + 1, As2, cs2, by go_num, by go_num, by omega, Lib.hid ?_⟩
          have h5 := HL5.out
          rw [hYl] at h5
          rw [hps, ← List.append_assoc, hY]
          exact h5
        case measure => simp [intOf]; omega
      · obtain rfl : k = t.kids.length := by omega
        have hpl := postK_len t.kids xs.length (m + 1)
        have hse2 := hse.out
        rw [List.take_length] at H c0 c1 c2 c3
        obtain ⟨Z, hZ⟩ : ∃ Z, xs ++ postK t.kids xs.length (m + 1) = Z := ⟨_, rfl⟩
        rw [hZ] at H c0 c1 c2 c3
        obtain ⟨N, hN⟩ : ∃ N, Z.length = N := ⟨_, rfl⟩
        have hN2 : N = xs.length + Nd.sizes t.kids := by rw [← hN, ← hZ, List.length_append, hpl]
        have hNb : N ≤ 1000000 := by omega
        have H32 : L32 B W wr As As1 cs1 (fun _ => N) (fun j => fcol j Z) t A c := by
          have h := H.out
          exact ⟨by have := h.s; rw [hN] at this; exact this, h.b4, h.b6⟩
        have HLL0 := Lib.hid H32
        rw [hN] at c0 c1 c2 c3
        have HZN := Lib.hid (And.intro hZ (And.intro hN hN2))
        clear hpl hse2 hZ hN hN2 H32 H
        obtain ⟨i3, hi3, hz30, hz31, hz32⟩ := info_parts inf3
        obtain ⟨i9, hi9, hz90, hz91, hz92⟩ := info_parts inf9
        obtain ⟨wa0, hwa0⟩ : ∃ wa, wr.alloc (.cells #[.int .i64 t.kind] 3) = wa := ⟨_, rfl⟩
        have na0 : wa0.heap[wr.heap.size]? = some (.cells #[.int .i64 t.kind] 3 (0, 0)) := by rw [← hwa0]; exact heap_alloc_new _ _
        have hla0 := Lib.hid (show L32 B W wa0 _ _ _ _ _ t A c by rw [← hwa0]; exact HLL0.out.alloc _)
        have hbs0 : B ≤ wa0.heap.size := by have := HLL0.out.s.kp.size; rw [← hwa0]; simp; omega
        have HNA0 := Lib.hid na0
        obtain ⟨⟨c0, c1, c2, c3⟩, hf⟩ := box4_cells (v0 := .slice (As1 0) N (cs1 0)) (v1 := .slice (As1 1) N (cs1 1)) (v2 := .slice (As1 2) N (cs1 2)) (v3 := .slice (As1 3) N (cs1 3)) HLL0.out.s.hb
        obtain ⟨d0, d1, d2, d3, d4⟩ := At5.of HLL0.out.b4
        clear na0
        go_wp2_with (at_builtin; refine wpList_append_lies _ rfl _ _ 34 rfl B 3 i3 _ 1 8 Try.underlying34 hi3 hz30 hz31 hz32 rfl (by decide) (.slice (As1 0) N (cs1 0)) N (fcol 0 Z) (by rfl) ?hown ⟨wr.heap.size, 0, none⟩ 1 1 [.int .i64 t.kind] (by rfl) rfl ?hnews (by simp [Value.oneCell']) (by omega) ?h63 ?hby ?hbase wa0.heap.size rfl ?_)
        case hown => exact hla0.out.s.q.own 0 (by omega)
        case hnews =>
          intro q u hu
          have hq : q = 0 := by have := (List.getElem?_eq_some_iff.1 hu).1; simp at this; exact this
          subst hq
          rw [Go.WideShapes.add_plain]
          have := HNA0.out
          simp [World.cell?, this] at hu ⊢
          exact hu
        case h63 => unfold maxLen; omega
        case hby => omega
        case hbase => exact hbs0
        intro g0 cap0 x0 hown0 hgrow0 hat0 hglt0
        obtain ⟨y0, hy0⟩ : ∃ y, x0.setCell ⟨W.heap.size, 0, none⟩ (.slice (some ⟨g0, 0, none⟩) (N + 1) cap0) = y := ⟨_, rfl⟩
        have HLL1 := Lib.hid (show L32 B W y0 _ _ _ _ _ t A c by rw [← hy0]; exact hla0.out.app 0 (by omega) hBW hown0 hgrow0 hat0)
        have hx0 := hla0.out.same (j := 0) (by omega) hgrow0 _ _ _ hla0.out.s.hb (ety_ne _).1
        clear c0 c1 c2 c3 hf d0 d1 d2 d3 d4
        obtain ⟨⟨p0, p1, p2, p3⟩, pf⟩ := box4_cells (v0 := .slice (As1 0) N (cs1 0)) (v1 := .slice (As1 1) N (cs1 1)) (v2 := .slice (As1 2) N (cs1 2)) (v3 := .slice (As1 3) N (cs1 3)) hx0
        clear hx0 hown0 hgrow0 hat0 hla0 HNA0 hwa0 HLL0
        obtain ⟨wa1, hwa1⟩ : ∃ wa, y0.alloc (.cells #[.string t.text] 9) = wa := ⟨_, rfl⟩
        have na1 : wa1.heap[y0.heap.size]? = some (.cells #[.string t.text] 9 (0, 0)) := by rw [← hwa1]; exact heap_alloc_new _ _
        have hla1 := Lib.hid (show L32 B W wa1 _ _ _ _ _ t A c by rw [← hwa1]; exact HLL1.out.alloc _)
        have hbs1 : B ≤ wa1.heap.size := by have := HLL1.out.s.kp.size; rw [← hwa1]; simp; omega
        have HNA1 := Lib.hid na1
        obtain ⟨⟨c0, c1, c2, c3⟩, hf⟩ := box4_cells (v0 := .slice (some ⟨g0, 0, none⟩) (N + 1) cap0) (v1 := .slice (As1 1) N (cs1 1)) (v2 := .slice (As1 2) N (cs1 2)) (v3 := .slice (As1 3) N (cs1 3)) HLL1.out.s.hb
        obtain ⟨d0, d1, d2, d3, d4⟩ := At5.of HLL1.out.b4
        clear na1
        go_wp2_with (at_builtin; refine wpList_append_lies _ rfl _ _ 58 rfl B 9 i9 _ 1 16 Try.underlying58 hi9 hz90 hz91 hz92 rfl (by decide) (.slice (As1 1) N (cs1 1)) N (fcol 1 Z) (by rfl) ?hown ⟨y0.heap.size, 0, none⟩ 1 1 [.string t.text] (by rfl) rfl ?hnews (by simp [Value.oneCell']) (by omega) ?h63 ?hby ?hbase wa1.heap.size rfl ?_)
        case hown => exact hla1.out.s.q.own 1 (by omega)
        case hnews =>
          intro q u hu
          have hq : q = 0 := by have := (List.getElem?_eq_some_iff.1 hu).1; simp at this; exact this
          subst hq
          rw [Go.WideShapes.add_plain]
          have := HNA1.out
          simp [World.cell?, this] at hu ⊢
          exact hu
        case h63 => unfold maxLen; omega
        case hby => omega
        case hbase => exact hbs1
        intro g1 cap1 x1 hown1 hgrow1 hat1 hglt1
        obtain ⟨y1, hy1⟩ : ∃ y, x1.setCell ⟨W.heap.size, 1, none⟩ (.slice (some ⟨g1, 0, none⟩) (N + 1) cap1) = y := ⟨_, rfl⟩
        have HLL2 := Lib.hid (show L32 B W y1 _ _ _ _ _ t A c by rw [← hy1]; exact hla1.out.app 1 (by omega) hBW hown1 hgrow1 hat1)
        have hx1 := hla1.out.same (j := 1) (by omega) hgrow1 _ _ _ hla1.out.s.hb (ety_ne _).1
        clear c0 c1 c2 c3 hf d0 d1 d2 d3 d4 p0 p1 p2 p3 pf
        obtain ⟨⟨p0, p1, p2, p3⟩, pf⟩ := box4_cells (v0 := .slice (some ⟨g0, 0, none⟩) (N + 1) cap0) (v1 := .slice (As1 1) N (cs1 1)) (v2 := .slice (As1 2) N (cs1 2)) (v3 := .slice (As1 3) N (cs1 3)) hx1
        clear hx1 hown1 hgrow1 hat1 hla1 HNA1 hwa1 HLL1
        obtain ⟨wa2, hwa2⟩ : ∃ wa, y1.alloc (.cells #[.int .i64 (xs.length : Nat)] 3) = wa := ⟨_, rfl⟩
        have na2 : wa2.heap[y1.heap.size]? = some (.cells #[.int .i64 (xs.length : Nat)] 3 (0, 0)) := by rw [← hwa2]; exact heap_alloc_new _ _
        have hla2 := Lib.hid (show L32 B W wa2 _ _ _ _ _ t A c by rw [← hwa2]; exact HLL2.out.alloc _)
        have hbs2 : B ≤ wa2.heap.size := by have := HLL2.out.s.kp.size; rw [← hwa2]; simp; omega
        have HNA2 := Lib.hid na2
        obtain ⟨⟨c0, c1, c2, c3⟩, hf⟩ := box4_cells (v0 := .slice (some ⟨g0, 0, none⟩) (N + 1) cap0) (v1 := .slice (some ⟨g1, 0, none⟩) (N + 1) cap1) (v2 := .slice (As1 2) N (cs1 2)) (v3 := .slice (As1 3) N (cs1 3)) HLL2.out.s.hb
        obtain ⟨d0, d1, d2, d3, d4⟩ := At5.of HLL2.out.b4
        clear na2
        go_wp2_with (at_builtin; refine wpList_append_lies _ rfl _ _ 34 rfl B 3 i3 _ 1 8 Try.underlying34 hi3 hz30 hz31 hz32 rfl (by decide) (.slice (As1 2) N (cs1 2)) N (fcol 2 Z) (by rfl) ?hown ⟨y1.heap.size, 0, none⟩ 1 1 [.int .i64 (xs.length : Nat)] (by rfl) rfl ?hnews (by simp [Value.oneCell']) (by omega) ?h63 ?hby ?hbase wa2.heap.size rfl ?_)
        case hown => exact hla2.out.s.q.own 2 (by omega)
        case hnews =>
          intro q u hu
          have hq : q = 0 := by have := (List.getElem?_eq_some_iff.1 hu).1; simp at this; exact this
          subst hq
          rw [Go.WideShapes.add_plain]
          have := HNA2.out
          simp [World.cell?, this] at hu ⊢
          exact hu
        case h63 => unfold maxLen; omega
        case hby => omega
        case hbase => exact hbs2
        intro g2 cap2 x2 hown2 hgrow2 hat2 hglt2
        obtain ⟨y2, hy2⟩ : ∃ y, x2.setCell ⟨W.heap.size, 2, none⟩ (.slice (some ⟨g2, 0, none⟩) (N + 1) cap2) = y := ⟨_, rfl⟩
        have HLL3 := Lib.hid (show L32 B W y2 _ _ _ _ _ t A c by rw [← hy2]; exact hla2.out.app 2 (by omega) hBW hown2 hgrow2 hat2)
        have hx2 := hla2.out.same (j := 2) (by omega) hgrow2 _ _ _ hla2.out.s.hb (ety_ne _).1
        clear c0 c1 c2 c3 hf d0 d1 d2 d3 d4 p0 p1 p2 p3 pf
        obtain ⟨⟨p0, p1, p2, p3⟩, pf⟩ := box4_cells (v0 := .slice (some ⟨g0, 0, none⟩) (N + 1) cap0) (v1 := .slice (some ⟨g1, 0, none⟩) (N + 1) cap1) (v2 := .slice (As1 2) N (cs1 2)) (v3 := .slice (As1 3) N (cs1 3)) hx2
        clear hx2 hown2 hgrow2 hat2 hla2 HNA2 hwa2 HLL2
        obtain ⟨wa3, hwa3⟩ : ∃ wa, y2.alloc (.cells #[.int .i64 (m : Nat)] 3) = wa := ⟨_, rfl⟩
        have na3 : wa3.heap[y2.heap.size]? = some (.cells #[.int .i64 (m : Nat)] 3 (0, 0)) := by rw [← hwa3]; exact heap_alloc_new _ _
        have hla3 := Lib.hid (show L32 B W wa3 _ _ _ _ _ t A c by rw [← hwa3]; exact HLL3.out.alloc _)
        have hbs3 : B ≤ wa3.heap.size := by have := HLL3.out.s.kp.size; rw [← hwa3]; simp; omega
        have HNA3 := Lib.hid na3
        obtain ⟨⟨c0, c1, c2, c3⟩, hf⟩ := box4_cells (v0 := .slice (some ⟨g0, 0, none⟩) (N + 1) cap0) (v1 := .slice (some ⟨g1, 0, none⟩) (N + 1) cap1) (v2 := .slice (some ⟨g2, 0, none⟩) (N + 1) cap2) (v3 := .slice (As1 3) N (cs1 3)) HLL3.out.s.hb
        obtain ⟨d0, d1, d2, d3, d4⟩ := At5.of HLL3.out.b4
        clear na3
        go_wp2_with (at_builtin; refine wpList_append_lies _ rfl _ _ 34 rfl B 3 i3 _ 1 8 Try.underlying34 hi3 hz30 hz31 hz32 rfl (by decide) (.slice (As1 3) N (cs1 3)) N (fcol 3 Z) (by rfl) ?hown ⟨y2.heap.size, 0, none⟩ 1 1 [.int .i64 (m : Nat)] (by rfl) rfl ?hnews (by simp [Value.oneCell']) (by omega) ?h63 ?hby ?hbase wa3.heap.size rfl ?_)
        case hown => exact hla3.out.s.q.own 3 (by omega)
        case hnews =>
          intro q u hu
          have hq : q = 0 := by have := (List.getElem?_eq_some_iff.1 hu).1; simp at this; exact this
          subst hq
          rw [Go.WideShapes.add_plain]
          have := HNA3.out
          simp [World.cell?, this] at hu ⊢
          exact hu
        case h63 => unfold maxLen; omega
        case hby => omega
        case hbase => exact hbs3
        intro g3 cap3 x3 hown3 hgrow3 hat3 hglt3
        obtain ⟨y3, hy3⟩ : ∃ y, x3.setCell ⟨W.heap.size, 3, none⟩ (.slice (some ⟨g3, 0, none⟩) (N + 1) cap3) = y := ⟨_, rfl⟩
        have HLL4 := Lib.hid (show L32 B W y3 _ _ _ _ _ t A c by rw [← hy3]; exact hla3.out.app 3 (by omega) hBW hown3 hgrow3 hat3)
        have hx3 := hla3.out.same (j := 3) (by omega) hgrow3 _ _ _ hla3.out.s.hb (ety_ne _).1
        clear c0 c1 c2 c3 hf d0 d1 d2 d3 d4 p0 p1 p2 p3 pf
        obtain ⟨⟨p0, p1, p2, p3⟩, pf⟩ := box4_cells (v0 := .slice (some ⟨g0, 0, none⟩) (N + 1) cap0) (v1 := .slice (some ⟨g1, 0, none⟩) (N + 1) cap1) (v2 := .slice (some ⟨g2, 0, none⟩) (N + 1) cap2) (v3 := .slice (As1 3) N (cs1 3)) hx3
        clear hx3 hown3 hgrow3 hat3 hla3 HNA3 hwa3 HLL3
        obtain ⟨⟨c0, c1, c2, c3⟩, hf⟩ := box4_cells (v0 := .slice (some ⟨g0, 0, none⟩) (N + 1) cap0) (v1 := .slice (some ⟨g1, 0, none⟩) (N + 1) cap1) (v2 := .slice (some ⟨g2, 0, none⟩) (N + 1) cap2) (v3 := .slice (some ⟨g3, 0, none⟩) (N + 1) cap3) HLL4.out.s.hb
        obtain ⟨⟨z0, z1, z2, z3⟩, zf⟩ := box4_cells HLL4.out.b6
        obtain ⟨yf, hyf⟩ : ∃ yf, (((y3.setCell ⟨W.heap.size + 1 + 1, 0, none⟩ (.slice (some ⟨g0, 0, none⟩) (N + 1) cap0)).setCell ⟨W.heap.size + 1 + 1, 1, none⟩ (.slice (some ⟨g1, 0, none⟩) (N + 1) cap1)).setCell ⟨W.heap.size + 1 + 1, 2, none⟩ (.slice (some ⟨g2, 0, none⟩) (N + 1) cap2)).setCell ⟨W.heap.size + 1 + 1, 3, none⟩ (.slice (some ⟨g3, 0, none⟩) (N + 1) cap3) = yf := ⟨_, rfl⟩
        have hbf : yf.heap[W.heap.size + 1 + 1]? = some (.cells #[.slice (some ⟨g0, 0, none⟩) (N + 1) cap0, .slice (some ⟨g1, 0, none⟩) (N + 1) cap1, .slice (some ⟨g2, 0, none⟩) (N + 1) cap2, .slice (some ⟨g3, 0, none⟩) (N + 1) cap3] 60 (0, 0)) := by
          rw [← hyf]; exact set4_at _ _ _ _ _ _ _ _ _ _ _ HLL4.out.b6
        obtain ⟨⟨e0, e1, e2, e3⟩, ef⟩ := box4_cells hbf
        have hof : ∀ q, q ≠ W.heap.size + 1 + 1 → yf.heap[q]? = y3.heap[q]? := fun q hq => by rw [← hyf]; exact set4_other _ _ _ _ _ _ hq
        have hkf : Keeps (rb4 As) W yf := by
          rw [← hyf]
          exact (((HLL4.out.s.kp.setCell (p := ⟨_, 0, none⟩) (.inr (by show W.heap.size ≤ W.heap.size + 1 + 1; omega)) _).setCell (p := ⟨_, 1, none⟩) (.inr (by show W.heap.size ≤ W.heap.size + 1 + 1; omega)) _).setCell (p := ⟨_, 2, none⟩) (.inr (by show W.heap.size ≤ W.heap.size + 1 + 1; omega)) _).setCell (p := ⟨_, 3, none⟩) (.inr (by show W.heap.size ≤ W.heap.size + 1 + 1; omega)) _
        have HOF := Lib.hid hof
        have HKF := Lib.hid hkf
        clear hbf hof hkf
        go_wp2_with fail
        refine bodyPost_ret (v := .agg #[.slice (some ⟨g0, 0, none⟩) (N + 1) cap0, .slice (some ⟨g1, 0, none⟩) (N + 1) cap1, .slice (some ⟨g2, 0, none⟩) (N + 1) cap2, .slice (some ⟨g3, 0, none⟩) (N + 1) cap3]) (by simp [results, Try.results31, go_sem, e0, e1, e2, e3]) rfl ?_
        obtain ⟨hZ, hN, hN2⟩ := HZN.out
        have hse2 := hse.out
        have hNt : N + 1 = xs.length + t.size := by omega
        have hlf : (xs ++ post t xs.length m).length = N + 1 := by rw [List.length_append, post_len]; omega
        have hcol : ∀ j, fcol j (xs ++ post t xs.length m) = fcol j Z ++ [fld j (t, xs.length, m)] := fun j => by
          rw [post_eq, ← List.append_assoc, hZ]; unfold fcol; rw [List.map_append]; rfl
        refine ⟨⟨(up (up (up (up As1 0 (some ⟨g0, 0, none⟩)) 1 (some ⟨g1, 0, none⟩)) 2 (some ⟨g2, 0, none⟩)) 3 (some ⟨g3, 0, none⟩)), (up (up (up (up cs1 0 cap0) 1 cap1) 2 cap2) 3 cap3), ?_, ⟨fun j hj => ?_, HLL4.out.s.q.dis⟩, HLL4.out.s.rb⟩, HKF.out⟩
        · rw [← hNt]; rfl
        · have h := (HLL4.out.s.q.move (W1 := yf) fun q hq => HOF.out q (fun e => ?_)).own j hj
          · simp only [hlf, hcol]
            have hj4 : j = 0 ∨ j = 1 ∨ j = 2 ∨ j = 3 := by omega
            rcases hj4 with rfl | rfl | rfl | rfl <;> exact h
          · obtain ⟨i, hi, p, hp, rfl⟩ := hq
            obtain ⟨_, _, cur, h1⟩ := HLL4.out.s.q.blk hi hp
            have h6 := HLL4.out.b6
            rw [← e] at h6
            exact heap_ne_type h1 h6 (ety_ne i).1.symm rfl
end Go.Proofs.Ytjijfgkmjachnaa
