/- Shared, walked. -/
import Derived.Test.YtpkjiimcoepjpaaDoorT18
import Derived.Test.YtpkjiimcoepjpaaDoorT19
import Derived.Maps.OwnSet
import Derived.Maps.OwnOps
namespace Go.Proofs.YtpkjiimcoepjpaaDoor
set_option linter.unusedVariables false
set_option linter.unusedSimpArgs false
open Go.RowKit Go.Shelf Go.Maps Go.Sort

/-- a set of numbers as a map to true -/
def SetM {H : Type} (D : DataW H) (S : Int → Prop) : Prop :=
  (∀ x : Int, has D (.int .i64 x) = true ↔ S x) ∧ ∀ x : Int, S x → ∀ zd, D.atKey (.int .i64 x) zd = .lit (.bool true)
theorem setM_nil {H : Type} : SetM (.map [] : DataW H) (fun _ => False) :=
  ⟨fun x => ⟨fun h => by simp [has, DataW.atKey] at h, fun h => h.elim⟩, fun x h => h.elim⟩
theorem setM_put {H : Type} {D : DataW H} {S : Int → Prop} (h : SetM D S) (hD : IsMap D) (y : Int) : SetM (D.put (.int .i64 y) (.lit (.bool true))) (fun x => S x ∨ x = y) := by
  obtain ⟨h1, h2⟩ := h
  refine ⟨fun x => ?_, fun x hx zd => ?_⟩
  · by_cases hxy : x = y
    · subst hxy
      rw [has_put_same hD (by simp [WideAt.IsKeyLit])]
      exact ⟨fun _ => .inr rfl, fun _ => rfl⟩
    · rw [has_put_other (by simpa using hxy), h1]
      exact ⟨fun h => .inl h, fun h => h.resolve_right hxy⟩
  · by_cases hxy : x = y
    · subst hxy
      rw [atKey_put_same hD (by simp [WideAt.IsKeyLit])]
    · rw [atKey_put_other (by simp; exact hxy)]
      exact h2 x (hx.resolve_right hxy) zd
open PFingerprintSymbols (S48 k48 k48_mk k48_openM)
/-- a row of marks, read -/
def MkI (w : World) (A : Option Addr) (c : Nat) (l : List S48) : Prop :=
  l.length ≤ c ∧ l.length ≤ 9223372036854775807 ∧ (0 < l.length → ∃ b o, A = some ⟨b, o, none⟩ ∧ ∀ i (h : i < l.length), w.cell? ⟨b, o + i * 2, none⟩ = some (.int .i64 l[i].f0) ∧ w.cell? ⟨b, o + i * 2 + 1, none⟩ = some (.int .i64 l[i].f1))
theorem MkI.below {w w1 : World} {A : Option Addr} {c : Nat} {l : List S48} (h : MkI w A c l) (hb : Below w.heap.size w w1) : MkI w1 A c l :=
  ⟨h.1, h.2.1, fun hp => by
    obtain ⟨b, o, e, hc⟩ := h.2.2 hp
    exact ⟨b, o, e, fun i hi => ⟨(hb.cell (p := ⟨b, _, none⟩) (World.block_lt_of_cell? w _ (hc i hi).1)).trans (hc i hi).1, (hb.cell (p := ⟨b, _, none⟩) (World.block_lt_of_cell? w _ (hc i hi).2)).trans (hc i hi).2⟩⟩⟩
theorem MkR.mkI {w : World} {v : Value} {l : List S48} (h : MkR w v l) : ∃ A c, v = .slice A l.length c ∧ MkI w A c l := by
  obtain ⟨base, _, inner, ho, hr⟩ := h
  rcases ho.2 with ⟨hv, h0⟩ | ⟨g, cap, cur, hv, hb, hg, hnc, hcm, hcs, htake⟩
  · have : l = [] := List.eq_nil_of_length_eq_zero h0
    subst this
    exact ⟨none, 0, hv, Nat.le_refl _, by simp, fun h => by simp at h⟩
  · subst hv
    refine ⟨_, cap, rfl, hnc, by unfold maxLen at hcm; omega, fun hp => ⟨g, 0, rfl, fun i hi => ?_⟩⟩
    have h1 := hr.2 i l[i] (List.getElem?_eq_getElem hi)
    have h2 := k48_openM h1
    have hc0 := ho.cellAt (i * 2) (by show i * 2 < l.length * 2; omega)
    have hc1 := ho.cellAt (i * 2 + 1) (by show i * 2 + 1 < l.length * 2; omega)
    have e0 : inner[i * 2]? = some (.int .i64 l[i].f0) := by
      have := congrArg (fun x : List Value => x[0]?) h2
      simpa [List.getElem?_take, List.getElem?_drop, show k48.sz = 2 from rfl] using this
    have e1 : inner[i * 2 + 1]? = some (.int .i64 l[i].f1) := by
      have := congrArg (fun x : List Value => x[1]?) h2
      simpa [List.getElem?_take, List.getElem?_drop, show k48.sz = 2 from rfl] using this
    rw [Nat.zero_add]
    exact ⟨hc0.trans e0, hc1.trans e1⟩

theorem take_ex (a : List S48) (i : Nat) (h : i < a.length) (z : Int) : (∃ m ∈ a.take (i + 1), m.f0 = z) ↔ (∃ m ∈ a.take i, m.f0 = z) ∨ z = a[i].f0 := by
  rw [List.take_succ_eq_append_getElem h]
  constructor
  · rintro ⟨m, hm, e⟩
    rcases List.mem_append.1 hm with hm | hm
    · exact .inl ⟨m, hm, e⟩
    · obtain rfl : m = a[i] := by simpa using hm
      exact .inr e.symm
  · rintro (⟨m, hm, e⟩ | e)
    · exact ⟨m, List.mem_append.2 (.inl hm), e⟩
    · exact ⟨a[i], List.mem_append.2 (.inr (by simp)), e.symm⟩
/-- what both lists' hashes have in common -/
def Both (a b : List S48) (x : Int) : Prop := (∃ m ∈ a, m.f0 = x) ∧ ∃ m ∈ b, m.f0 = x

theorem keys_mem {H : Type} {w : World} {k : TypeId} {R : Value → Option (DataW H × List MemPlace)} {b n : Nat} {D0 : DataW H} (hown : w.ownsMap Tryd.prog k R b n D0) (K : Keyed Tryd.prog k) (hk : Tryd.prog.underlying k = some (.int .i64)) :
    (intKeys D0).Nodup ∧ ∀ x, x ∈ intKeys D0 ↔ has D0 (.int .i64 x) = true := by
  obtain ⟨es, hD, hp, _⟩ := hown.entries K
  obtain ⟨es', hD', hko⟩ := hown.keysOf
  obtain rfl : es = es' := by rw [hD] at hD'; simpa using hD'
  subst hD
  have hk : ∀ p ∈ es, ∃ x, p.1 = .int .i64 x := fun p hp => by obtain ⟨v, hv⟩ := hko p hp; obtain ⟨x, _, hx, _⟩ := Maps.keyOf_i64 hk hv; exact ⟨x, hx⟩
  constructor
  · show (es.map fun p => Go.intOf p.1).Nodup
    refine List.pairwise_map.2 (hp.imp_of_mem fun {p q} hp' hq' hne e => hne ?_)
    obtain ⟨a, ha⟩ := hk p hp'
    obtain ⟨b, hb⟩ := hk q hq'
    rw [ha, hb] at e ⊢
    exact congrArg _ e
  · intro x
    rw [has_eq, List.any_eq_true]
    show x ∈ es.map (fun p => Go.intOf p.1) ↔ _
    rw [List.mem_map]
    constructor
    · rintro ⟨p, hp', rfl⟩
      obtain ⟨a, ha⟩ := hk p hp'
      exact ⟨p, hp', by rw [ha]; simp [Lit.sameKey, Go.intOf]⟩
    · rintro ⟨p, hp', hs⟩
      obtain ⟨a, ha⟩ := hk p hp'
      rw [ha] at hs
      exact ⟨p, hp', by rw [ha]; simpa [Lit.sameKey, Go.intOf] using hs⟩
/-- a sorted list of different numbers -/
theorem sort_up {ss ks : List Int} (hp : ss.Perm ks) (hn : ks.Nodup) : (ss.mergeSort (fun x y => decide (x ≤ y))).Pairwise (· < ·) ∧ ∀ x, x ∈ ss.mergeSort (fun x y => decide (x ≤ y)) ↔ x ∈ ks := by
  have tr : ∀ a b c : Int, decide (a ≤ b) = true → decide (b ≤ c) = true → decide (a ≤ c) = true := fun a b c h1 h2 => by simp only [decide_eq_true_eq] at *; omega
  have hto : ∀ a b : Int, (decide (a ≤ b) || decide (b ≤ a)) = true := fun a b => by simp only [Bool.or_eq_true, decide_eq_true_eq]; omega
  have hperm := List.mergeSort_perm ss (fun x y => decide (x ≤ y))
  have hs := List.pairwise_mergeSort tr hto ss
  refine ⟨?_, fun x => by rw [hperm.mem_iff, hp.mem_iff]⟩
  have hn3 := (hperm.trans hp).nodup_iff.2 hn
  refine (hs.and hn3).imp ?_
  rintro a b ⟨h1, h2⟩
  simp only [decide_eq_true_eq] at h1
  omega
theorem zeroB (w : World) : (zeroValue 4).run Tryd.prog w = .ok (.bool false) w := by kernel_rfl
theorem plain_bool {v : Value} {x : Bool} {ps : List MemPlace} (h : plainElem (H := Nat) Tryd.prog 4 v = some (.lit (.bool x), ps)) : v = .bool x := by
  cases v <;> simp [plainElem, Tryd.underlying4] at h
  simp [h]
theorem look_in {w : World} {b n : Nat} {D : DataW Nat} {S : Int → Prop} (h : w.ownsMap Tryd.prog 3 (plainElem Tryd.prog 4) b n D) (hs : SetM D S) {x : Int} (hkey : keyOf Tryd.prog 3 (.int .i64 x) = some (.int .i64 x)) :
    ∃ v : Bool, (Instr.lookup 64 (.map (some b)) (.int .i64 x) false).run Tryd.prog w = .ok (.bool v) w ∧ (v = true ↔ S x) := by
  obtain ⟨v, ps, hrun, hv⟩ := h.lookup (int_keyed Tryd.underlying3) Tryd.underlying64 (zeroB w) (plainElem_bool Tryd.underlying4 false) hkey
  by_cases hx : S x
  · rw [hs.2 x hx] at hv
    refine ⟨true, ?_, by simp [hx]⟩
    rw [hrun, plain_bool hv]
  · have hf : has D (.int .i64 x) = false := by
      cases hh : has D (.int .i64 x) with
      | false => rfl
      | true => exact absurd ((hs.1 x).1 hh) hx
    rw [atKey_of_not_has hf] at hv
    refine ⟨false, ?_, by simp [hx]⟩
    rw [hrun, plain_bool hv]

set_option maxRecDepth 100000 in
set_option maxHeartbeats 4000000 in
theorem SharedW (a b : List S48) (A B : Option Addr) (cA cB : Nat) (w : World) (hA : MkI w A cA a) (hB : MkI w B cB b) (la : a.length ≤ 100000) (lb : b.length ≤ 100000) (wa : ∀ m ∈ a, (Lit.int .i64 m.f0).wf = true) (wb : ∀ m ∈ b, (Lit.int .i64 m.f0).wf = true) :
    Calls Tryd.prog 26 #[.slice A a.length cA, .slice B b.length cB] w fun e w' => (∃ v L, e = .returned v ∧ OwR w' w.heap.size v L ∧ L.Pairwise (· < ·) ∧ ∀ x, x ∈ L ↔ Both a b x) ∧ Below w.heap.size w w' := by
  have HA := Lib.hid hA
  have HB := Lib.hid hB
  have HWA := Lib.hid wa
  have HWB := Lib.hid wb
  have hmm := @run_makeMap Tryd.prog
  clear hA hB wa wb
  go_enter Tryd.func26, Tryd.ntmps26
  go_wp2_with fail
  obtain ⟨w1, hw1⟩ : ∃ w1, (w.alloc (.map #[] 0)).alloc (.map #[] 0) = w1 := ⟨_, rfl⟩
  have hb1 : Below w.heap.size w w1 := by rw [← hw1]; exact ((Below.refl _ _).alloc (Nat.le_refl _) _).alloc (by simp) _
  have hs1 : w1.heap.size = w.heap.size + 2 := by rw [← hw1]; simp
  have ho1 : w1.ownsMap Tryd.prog 3 (plainElem (H := Nat) Tryd.prog 4) w.heap.size 0 (.map []) := by rw [← hw1]; exact (World.ownsMap_made w _ _ _).alloc _
  have ho2 : w1.ownsMap Tryd.prog 3 (plainElem (H := Nat) Tryd.prog 4) (w.heap.size + 1) 0 (.map []) := by
    rw [← hw1]
    have := World.ownsMap_made (H := Nat) (P := Tryd.prog) (w.alloc (.map #[] 0)) 3 (plainElem Tryd.prog 4)
    simpa using this
  rw [hw1]
  have H1 := Lib.hid (And.intro ho1 (And.intro ho2 (And.intro hb1 hs1)))
  clear hw1 hb1 hs1 ho1 ho2
  go_loopw [15] (fun c wr => ∃ (i : Nat) (D : DataW Nat), c = .int .i64 (i : Nat) ∧ i ≤ a.length ∧ Hid (wr.ownsMap Tryd.prog 3 (plainElem Tryd.prog 4) w.heap.size i D ∧ wr.ownsMap Tryd.prog 3 (plainElem (H := Nat) Tryd.prog 4) (w.heap.size + 1) 0 (.map []) ∧ SetM D (fun x => ∃ m ∈ a.take i, m.f0 = x) ∧ Below w.heap.size w wr)) (fun c _ => a.length - (Go.RowKit.intOf c).toNat)
  case atStart => exact ⟨0, .map [], rfl, Nat.zero_le _, Lib.hid ⟨H1.out.1, H1.out.2.1, ⟨fun x => by simpa using (setM_nil (H := Nat)).1 x, fun x hx => by simp at hx⟩, H1.out.2.2.1⟩⟩
  case round =>
    clear H1
    obtain ⟨i, D, rfl, hi, H⟩ := hrel
    by_cases hlt : i < a.length
    · obtain ⟨b', o', rfl, hc⟩ := (HA.out.below H.out.2.2.2).2.2 (by omega)
      obtain ⟨c0, c1⟩ := hc i hlt
      have hiI : (i : Int) < (a.length : Int) := by omega
      obtain ⟨x, hx⟩ : ∃ x, a[i].f0 = x := ⟨_, rfl⟩
      obtain ⟨y, hy⟩ : ∃ y, a[i].f1 = y := ⟨_, rfl⟩
      have hwf : (Lit.int .i64 x).wf = true := by rw [← hx]; exact HWA.out _ (List.getElem_mem _)
      rw [hx] at c0
      rw [hy] at c1
      have hkey : keyOf Tryd.prog 3 (.int .i64 x) = some (.int .i64 x) := keyOf_int_mk Tryd.underlying3 hwf
      have HKEY := Lib.hid hkey
      have HX := Lib.hid hx
      have HMAP := Lib.hid (H.out.1.alloc (.cells #[.int .i64 x, .int .i64 y] 48))
      clear hc hwf hkey hx hy
      go_wp2_with (first
        | (at_mapUpdate; refine wpList_mapUpdate_own _ rfl _ _ _ 64 rfl 3 4 (int_keyed Tryd.underlying3) Tryd.underlying64 _ w.heap.size i _ rfl HMAP.out (by simp only [maxLen]; omega) _ _ _ rfl rfl HKEY.out _ [] (plainElem_bool Tryd.underlying4 true) ?_; intro w5 hown5 hgrow5)
        | fail)
      go_roundw
      case rel =>
        have hz := H.out.2.2.2.size
        have hlt2 := H.out.2.1.lt
        refine ⟨i + 1, _, by go_num, by omega, Lib.hid ⟨hown5, ?_, ?_, (H.out.2.2.2.alloc hz _).grown hgrow5 (by simp; omega) (fun q hq => by cases hq; exact Nat.le_refl _)⟩⟩
        · obtain ⟨es, clock, hb, Ft, hs, hD⟩ := H.out.2.1
          refine ⟨es, clock, ?_, Ft, hs, hD⟩
          rw [hgrow5.block _ (by simp; omega) (fun e => by injection e with e; omega), Below.heap_alloc _ _ _ hlt2]
          exact hb
        · have hm := setM_put H.out.2.2.1 H.out.1.isMap x
          refine ⟨fun z => ?_, fun z hz' => hm.2 z ?_⟩
          · rw [hm.1 z]; show _ ↔ ∃ m ∈ a.take (i + 1), m.f0 = z; rw [take_ex a i hlt z, HX.out]
          · have h2 : ∃ m ∈ a.take (i + 1), m.f0 = z := hz'
            rw [take_ex a i hlt z, HX.out] at h2; exact h2
      case measure => simp [Go.RowKit.intOf]; omega
    · obtain rfl : i = a.length := by omega
      rw [List.take_length] at H
      go_wp2_with fail
      obtain ⟨wo, rfl⟩ : ∃ wo : World, wo = wr := ⟨_, rfl⟩
      go_loopw [25] (fun c wr => ∃ (i : Nat) (E : DataW Nat), c = .int .i64 (i : Nat) ∧ i ≤ b.length ∧ Hid (wr.ownsMap Tryd.prog 3 (plainElem Tryd.prog 4) w.heap.size a.length D ∧ wr.ownsMap Tryd.prog 3 (plainElem (H := Nat) Tryd.prog 4) (w.heap.size + 1) i E ∧ SetM D (fun x => ∃ m ∈ a, m.f0 = x) ∧ SetM E (fun x => (∃ m ∈ b.take i, m.f0 = x) ∧ ∃ m ∈ a, m.f0 = x) ∧ Below w.heap.size w wr)) (fun c _ => b.length - (Go.RowKit.intOf c).toNat)
      case atStart => exact ⟨0, .map [], rfl, Nat.zero_le _, Lib.hid ⟨H.out.1, H.out.2.1, H.out.2.2.1, ⟨fun x => by simpa using (setM_nil (H := Nat)).1 x, fun x hx => by simp at hx⟩, H.out.2.2.2⟩⟩
      case round =>
        clear H
        obtain ⟨i, E, rfl, hi, H⟩ := hrel
        by_cases hlt : i < b.length
        · obtain ⟨b', o', rfl, hc⟩ := (HB.out.below H.out.2.2.2.2).2.2 (by omega)
          obtain ⟨c0, c1⟩ := hc i hlt
          have hiI : (i : Int) < (b.length : Int) := by omega
          obtain ⟨x, hx⟩ : ∃ x, b[i].f0 = x := ⟨_, rfl⟩
          obtain ⟨y, hy⟩ : ∃ y, b[i].f1 = y := ⟨_, rfl⟩
          have hwf : (Lit.int .i64 x).wf = true := by rw [← hx]; exact HWB.out _ (List.getElem_mem _)
          rw [hx] at c0
          rw [hy] at c1
          have hkey : keyOf Tryd.prog 3 (.int .i64 x) = some (.int .i64 x) := keyOf_int_mk Tryd.underlying3 hwf
          have HKEY := Lib.hid hkey
          have HX := Lib.hid hx
          have HMAP := Lib.hid (H.out.2.1.alloc (.cells #[.int .i64 x, .int .i64 y] 48))
          obtain ⟨vb, hlook, hvb⟩ := look_in (H.out.1.alloc (.cells #[.int .i64 x, .int .i64 y] 48)) H.out.2.2.1 hkey
          have hz := H.out.2.2.2.2.size
          have hta := take_ex b i hlt
          have HTA := Lib.hid hta
          cases vb with
          | true =>
            have HIN := Lib.hid (hvb.1 rfl)
            clear hc hwf hkey hx hy hvb hta
            go_wp2_with (first
              | (at_mapUpdate; refine wpList_mapUpdate_own _ rfl _ _ _ 64 rfl 3 4 (int_keyed Tryd.underlying3) Tryd.underlying64 _ (w.heap.size + 1) i _ rfl HMAP.out (by simp only [maxLen]; omega) _ _ _ rfl rfl HKEY.out _ [] (plainElem_bool Tryd.underlying4 true) ?_; intro w5 hown5 hgrow5)
              | fail)
            go_roundw
            case rel =>
              refine ⟨i + 1, _, by go_num, by omega, Lib.hid ⟨?_, hown5, H.out.2.2.1, ?_, (H.out.2.2.2.2.alloc hz _).grown hgrow5 (by simp; omega) (fun q hq => by cases hq; omega)⟩⟩
              · exact (H.out.1.alloc _).kept hgrow5 (by simp)
              · have hm := setM_put H.out.2.2.2.1 H.out.2.1.isMap x
                have heq : ∀ z, ((∃ m ∈ b.take (i + 1), m.f0 = z) ∧ ∃ m ∈ a, m.f0 = z) ↔ ((∃ m ∈ b.take i, m.f0 = z) ∧ ∃ m ∈ a, m.f0 = z) ∨ z = x := by
                  intro z
                  rw [HTA.out z, HX.out]
                  constructor
                  · rintro ⟨h1 | h1, h2⟩
                    · exact .inl ⟨h1, h2⟩
                    · exact .inr h1
                  · rintro (⟨h1, h2⟩ | h1)
                    · exact ⟨.inl h1, h2⟩
                    · exact ⟨.inr h1, by rw [h1]; exact HIN.out⟩
                exact ⟨fun z => (hm.1 z).trans (heq z).symm, fun z hz' => hm.2 z ((heq z).1 hz')⟩
            case measure => simp [Go.RowKit.intOf]; omega
          | false =>
            have HIN := Lib.hid (show ¬ ∃ m ∈ a, m.f0 = x from fun h => by have := hvb.2 h; simp at this)
            clear hc hwf hkey hx hy hvb hta
            go_wp2_with fail
            go_roundw
            case rel =>
              refine ⟨i + 1, E, by go_num, by omega, Lib.hid ⟨H.out.1.alloc _, (H.out.2.1.alloc _).mono (by omega), H.out.2.2.1, ?_, H.out.2.2.2.2.alloc hz _⟩⟩
              have heq : ∀ z, ((∃ m ∈ b.take (i + 1), m.f0 = z) ∧ ∃ m ∈ a, m.f0 = z) ↔ ((∃ m ∈ b.take i, m.f0 = z) ∧ ∃ m ∈ a, m.f0 = z) := by
                intro z
                rw [HTA.out z, HX.out]
                constructor
                · rintro ⟨h1 | h1, h2⟩
                  · exact ⟨h1, h2⟩
                  · exact absurd (by rw [← h1]; exact h2) HIN.out
                · rintro ⟨h1, h2⟩
                  exact ⟨.inl h1, h2⟩
              exact ⟨fun z => (H.out.2.2.2.1.1 z).trans (heq z).symm, fun z hz' => H.out.2.2.2.1.2 z ((heq z).1 hz')⟩
            case measure => simp [Go.RowKit.intOf]; omega
        · obtain rfl : i = b.length := by omega
          rw [List.take_length] at H
          go_wp2_with fail
          refine (keys_any _ _).mono ?_
          rintro e w' ⟨rfl, rfl⟩
          go_wp2_with fail
          have hown' : (wr.alloc (.cells #[.map (some (w.heap.size + 1))] 64)).ownsMap Tryd.prog 3 (plainElem Tryd.prog 4) (w.heap.size + 1) b.length E := H.out.2.1.alloc _
          refine (sorted_keys wr.heap.size (w.heap.size + 1) b.length E _ (by simp) (by simp) hown' (by have := H.out.2.1.size_le; omega)).mono ?_
          rintro e w' ⟨v, ss, rfl, hperm, hrow, hbl⟩
          go_wp2_with fail
          go_ret
          have hz := H.out.2.2.2.2.size
          have hkm := keys_mem H.out.2.1 (int_keyed Tryd.underlying3) Tryd.underlying3
          have hsu := sort_up hperm hkm.1
          refine ⟨⟨v, _, rfl, ?_, hsu.1, fun x => ?_⟩, (H.out.2.2.2.2.alloc hz _).trans (hbl.mono (by simp; omega))⟩
          · unfold OwR ints
            rw [List.length_mergeSort]
            obtain ⟨e1, e2⟩ := hrow
            refine ⟨e1, e2.imp id ?_⟩
            rintro ⟨g, cap, cur, k1, k2, k3⟩
            exact ⟨g, cap, cur, k1, by simp at k2; omega, k3⟩
          · rw [hsu.2, hkm.2, H.out.2.2.2.1.1]
            unfold Both
            exact And.comm
end Go.Proofs.YtpkjiimcoepjpaaDoor
