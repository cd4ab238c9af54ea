/- The law FingerprintGuarantee. -/
import Derived.Test.YtpkjiimcoepjpaaDoorT38
namespace Go.Proofs.YtpkjiimcoepjpaaDoor
set_option linter.unusedVariables false
set_option linter.unusedSimpArgs false
open Go.RowKit Go.Proofs.YtpkjiimcoepjpaaDoorW.PrintWords Go.Proofs.YtpkjiimcoepjpaaDoorW.PrintMore Go.Maps
open PFingerprintSymbols (S48)

structure BW where
  b : Bool
theorem plain_bool_inv {v : Value} {y : DataW Nat × List MemPlace} (h : plainElem (H := Nat) Tryd.prog 4 v = some y) : ∃ c : Bool, v = .bool c := by
  cases v <;> simp [plainElem, Tryd.underlying4] at h
  exact ⟨_, rfl⟩
set_option maxRecDepth 100000 in
theorem look48 {w : World} {b n : Nat} {D : DataW Nat} (h : w.ownsMap Tryd.prog 48 (plainElem Tryd.prog 4) b n D) {x y : Int} (hkey : keyOf Tryd.prog 48 (.agg #[.int .i64 x, .int .i64 y]) = some (markKey x y)) :
    ∃ v : Bool, (Instr.lookup 49 (.map (some b)) (.agg #[.int .i64 x, .int .i64 y]) false).run Tryd.prog w = .ok (.bool v) w ∧ D.atKey (markKey x y) (.lit (.bool false)) = .lit (.bool v) := by
  obtain ⟨v, ps, hrun, hv⟩ := h.lookup keyed48 Tryd.underlying49 (zeroB w) (plainElem_bool Tryd.underlying4 false) hkey
  obtain ⟨c, rfl⟩ := plain_bool_inv hv
  refine ⟨c, hrun, ?_⟩
  rw [plainElem_bool Tryd.underlying4 c] at hv
  injection hv with hv
  exact (Prod.mk.inj hv).1.symm
theorem map_below {w w1 : World} {k e : TypeId} {b n : Nat} {D : DataW Nat} (h : w.ownsMap Tryd.prog k (plainElem Tryd.prog e) b n D) (hb : Below w.heap.size w w1) : w1.ownsMap Tryd.prog k (plainElem Tryd.prog e) b n D := by
  have hl := h.lt
  obtain ⟨es, clock, hm, F, hs, hD⟩ := h
  exact ⟨es, clock, (hb.block _ hl).trans hm, F, hs, hD⟩
theorem guaBox (w : World) (A : Option Addr) (c n : Nat) (k W : Int) (w0 : World) (h : ((w.alloc (.cells #[.slice A n c] 25)).alloc (.cells #[.int .i64 k] 3)).alloc (.cells #[.int .i64 W] 3) = w0) :
    ∀ w1, Below w0.heap.size w0 w1 → Below w.heap.size w w1 ∧ w1.cell? ⟨w.heap.size, 0, none⟩ = some (.slice A n c) ∧ w1.cell? ⟨w.heap.size + 1, 0, none⟩ = some (.int .i64 k) ∧ w1.cell? ⟨w.heap.size + 2, 0, none⟩ = some (.int .i64 W) := by
  intro w1 hb
  have h0 : w0.heap[w.heap.size]? = some (.cells #[.slice A n c] 25 (0, 0)) := by
    rw [← h, Below.heap_alloc _ _ _ (by simp; omega), Below.heap_alloc _ _ _ (by simp)]; exact heap_alloc_new _ _
  have h1 : w0.heap[w.heap.size + 1]? = some (.cells #[.int .i64 k] 3 (0, 0)) := by
    rw [← h, Below.heap_alloc _ _ _ (by simp)]
    have := heap_alloc_new (w.alloc (.cells #[.slice A n c] 25)) (.cells #[.int .i64 k] 3)
    simpa using this
  have h2 : w0.heap[w.heap.size + 2]? = some (.cells #[.int .i64 W] 3 (0, 0)) := by
    rw [← h]
    have := heap_alloc_new ((w.alloc (.cells #[.slice A n c] 25)).alloc (.cells #[.int .i64 k] 3)) (.cells #[.int .i64 W] 3)
    simpa using this
  have hb0 : Below w.heap.size w w0 := by rw [← h]; exact (((Below.refl _ _).alloc (Nat.le_refl _) _).alloc (by simp) _).alloc (by simp; omega) _
  refine ⟨hb0.trans (hb.mono hb0.size), ?_, ?_, ?_⟩
  · unfold World.cell?; rw [hb.block _ (hltW h0), h0]; rfl
  · unfold World.cell?; rw [hb.block _ (hltW h1), h1]; rfl
  · unfold World.cell?; rw [hb.block _ (hltW h2), h2]; rfl

set_option maxRecDepth 100000 in
set_option maxHeartbeats 8000000 in
theorem lawGuarantee (l b1 a1 b2 a2 : List Int) (A B1 A1 B2 A2 : Option Addr) (c d1 c1 d2 c2 : Nat) (k W : Int) (w : World) (hI : InR w A c l) (hB1 : InR w B1 d1 b1) (hA1 : InR w A1 c1 a1) (hB2 : InR w B2 d2 b2) (hA2 : InR w A2 c2 a2)
    (nb1 : b1.length ≤ 17592186044416) (na1 : a1.length ≤ 17592186044416) (nb2 : b2.length ≤ 17592186044416) (na2 : a2.length ≤ 17592186044416) :
    Calls Tryd.prog 8 #[.slice A l.length c, .slice B1 b1.length d1, .slice A1 a1.length c1, .slice B2 b2.length d2, .slice A2 a2.length c2, .int .i64 k, .int .i64 W] w fun e w' => e = .returned (.bool true) ∧ Below w.heap.size w w' := by
  have HI := Lib.hid hI
  have HB1 := Lib.hid hB1
  have HA1 := Lib.hid hA1
  have HB2 := Lib.hid hB2
  have HA2 := Lib.hid hA2
  have hlen := hI.2.1
  clear hI hB1 hA1 hB2 hA2
  by_cases g1 : k < 1
  · have e1 : decide (k < 1) = true := decide_eq_true g1
    go_enter Tryd.func8, Tryd.ntmps8
    go_wp2_with fail
    obtain ⟨w0', hw0⟩ : ∃ w0', ((w.alloc (.cells #[.slice A l.length c] 25)).alloc (.cells #[.int .i64 k] 3)).alloc (.cells #[.int .i64 W] 3) = w0' := ⟨_, rfl⟩
    have HG := Lib.hid (guaBox w A c l.length k W w0' hw0)
    rw [hw0]
    clear hw0
    refine (awake w0').mono ?_
    rintro e w1 ⟨rfl, h1⟩
    obtain ⟨z0, z1, z2, z3⟩ := HG.out w1 h1
    have H1 := Lib.hid z0
    clear h1 z0
    go_wp2_with fail
    go_ret
    exact ⟨rfl, H1.out⟩
  · have e1 : decide (k < 1) = false := decide_eq_false g1
    by_cases g2 : W < 1
    · have e2 : decide (W < 1) = true := decide_eq_true g2
      go_enter Tryd.func8, Tryd.ntmps8
      go_wp2_with fail
      obtain ⟨w0', hw0⟩ : ∃ w0', ((w.alloc (.cells #[.slice A l.length c] 25)).alloc (.cells #[.int .i64 k] 3)).alloc (.cells #[.int .i64 W] 3) = w0' := ⟨_, rfl⟩
      have HG := Lib.hid (guaBox w A c l.length k W w0' hw0)
      rw [hw0]
      clear hw0
      refine (awake w0').mono ?_
      rintro e w1 ⟨rfl, h1⟩
      obtain ⟨z0, z1, z2, z3⟩ := HG.out w1 h1
      have H1 := Lib.hid z0
      clear h1 z0
      go_wp2_with fail
      go_ret
      exact ⟨rfl, H1.out⟩
    · have e2 : decide (W < 1) = false := decide_eq_false g2
      by_cases g3 : k > 64
      · have e3 : decide (k > 64) = true := decide_eq_true g3
        go_enter Tryd.func8, Tryd.ntmps8
        go_wp2_with fail
        obtain ⟨w0', hw0⟩ : ∃ w0', ((w.alloc (.cells #[.slice A l.length c] 25)).alloc (.cells #[.int .i64 k] 3)).alloc (.cells #[.int .i64 W] 3) = w0' := ⟨_, rfl⟩
        have HG := Lib.hid (guaBox w A c l.length k W w0' hw0)
        rw [hw0]
        clear hw0
        refine (awake w0').mono ?_
        rintro e w1 ⟨rfl, h1⟩
        obtain ⟨z0, z1, z2, z3⟩ := HG.out w1 h1
        have H1 := Lib.hid z0
        clear h1 z0
        go_wp2_with fail
        go_ret
        exact ⟨rfl, H1.out⟩
      · have e3 : decide (k > 64) = false := decide_eq_false g3
        by_cases g4 : W > 64
        · have e4 : decide (W > 64) = true := decide_eq_true g4
          go_enter Tryd.func8, Tryd.ntmps8
          go_wp2_with fail
          obtain ⟨w0', hw0⟩ : ∃ w0', ((w.alloc (.cells #[.slice A l.length c] 25)).alloc (.cells #[.int .i64 k] 3)).alloc (.cells #[.int .i64 W] 3) = w0' := ⟨_, rfl⟩
          have HG := Lib.hid (guaBox w A c l.length k W w0' hw0)
          rw [hw0]
          clear hw0
          refine (awake w0').mono ?_
          rintro e w1 ⟨rfl, h1⟩
          obtain ⟨z0, z1, z2, z3⟩ := HG.out w1 h1
          have H1 := Lib.hid z0
          clear h1 z0
          go_wp2_with fail
          go_ret
          exact ⟨rfl, H1.out⟩
        · have e4 : decide (W > 64) = false := decide_eq_false g4
          by_cases g5 : 130 < l.length
          · have e5 : decide ((l.length : Int) > 130) = true := decide_eq_true (by omega)
            go_enter Tryd.func8, Tryd.ntmps8
            go_wp2_with fail
            obtain ⟨w0', hw0⟩ : ∃ w0', ((w.alloc (.cells #[.slice A l.length c] 25)).alloc (.cells #[.int .i64 k] 3)).alloc (.cells #[.int .i64 W] 3) = w0' := ⟨_, rfl⟩
            have HG := Lib.hid (guaBox w A c l.length k W w0' hw0)
            rw [hw0]
            clear hw0
            refine (awake w0').mono ?_
            rintro e w1 ⟨rfl, h1⟩
            obtain ⟨z0, z1, z2, z3⟩ := HG.out w1 h1
            have H1 := Lib.hid z0
            clear h1 z0
            go_wp2_with fail
            go_ret
            exact ⟨rfl, H1.out⟩
          · have e5 : decide ((l.length : Int) > 130) = false := decide_eq_false (by omega)
            by_cases g6 : (l.length : Int) < W + k - 1
            · have e6 : decide ((l.length : Int) < W + k - 1) = true := decide_eq_true g6
              go_enter Tryd.func8, Tryd.ntmps8
              go_wp2_with fail
              obtain ⟨w0', hw0⟩ : ∃ w0', ((w.alloc (.cells #[.slice A l.length c] 25)).alloc (.cells #[.int .i64 k] 3)).alloc (.cells #[.int .i64 W] 3) = w0' := ⟨_, rfl⟩
              have HG := Lib.hid (guaBox w A c l.length k W w0' hw0)
              rw [hw0]
              clear hw0
              refine (awake w0').mono ?_
              rintro e w1 ⟨rfl, h1⟩
              obtain ⟨z0, z1, z2, z3⟩ := HG.out w1 h1
              have H1 := Lib.hid z0
              clear h1 z0
              go_wp2_with fail
              go_ret
              exact ⟨rfl, H1.out⟩
            · have e6 : decide ((l.length : Int) < W + k - 1) = false := decide_eq_false g6
              by_cases g7 : (b1.length : Int) + (a1.length : Int) > 60
              · have e7 : decide ((b1.length : Int) + (a1.length : Int) > 60) = true := decide_eq_true g7
                go_enter Tryd.func8, Tryd.ntmps8
                go_wp2_with fail
                obtain ⟨w0', hw0⟩ : ∃ w0', ((w.alloc (.cells #[.slice A l.length c] 25)).alloc (.cells #[.int .i64 k] 3)).alloc (.cells #[.int .i64 W] 3) = w0' := ⟨_, rfl⟩
                have HG := Lib.hid (guaBox w A c l.length k W w0' hw0)
                rw [hw0]
                clear hw0
                refine (awake w0').mono ?_
                rintro e w1 ⟨rfl, h1⟩
                obtain ⟨z0, z1, z2, z3⟩ := HG.out w1 h1
                have H1 := Lib.hid z0
                clear h1 z0
                go_wp2_with fail
                go_ret
                exact ⟨rfl, H1.out⟩
              · have e7 : decide ((b1.length : Int) + (a1.length : Int) > 60) = false := decide_eq_false g7
                by_cases g8 : (b2.length : Int) + (a2.length : Int) > 60
                · have e8 : decide ((b2.length : Int) + (a2.length : Int) > 60) = true := decide_eq_true g8
                  go_enter Tryd.func8, Tryd.ntmps8
                  go_wp2_with fail
                  obtain ⟨w0', hw0⟩ : ∃ w0', ((w.alloc (.cells #[.slice A l.length c] 25)).alloc (.cells #[.int .i64 k] 3)).alloc (.cells #[.int .i64 W] 3) = w0' := ⟨_, rfl⟩
                  have HG := Lib.hid (guaBox w A c l.length k W w0' hw0)
                  rw [hw0]
                  clear hw0
                  refine (awake w0').mono ?_
                  rintro e w1 ⟨rfl, h1⟩
                  obtain ⟨z0, z1, z2, z3⟩ := HG.out w1 h1
                  have H1 := Lib.hid z0
                  clear h1 z0
                  go_wp2_with fail
                  go_ret
                  exact ⟨rfl, H1.out⟩
                · have e8 : decide ((b2.length : Int) + (a2.length : Int) > 60) = false := decide_eq_false g8
                  obtain ⟨K, rfl⟩ : ∃ K : Nat, k = ((K : Nat) : Int) := ⟨k.toNat, by omega⟩
                  obtain ⟨V, rfl⟩ : ∃ V : Nat, W = ((V : Nat) : Int) := ⟨W.toNat, by omega⟩
                  have hm1 := comM_in b1 l a1 K V (by omega) (by omega) (by omega) (by omega) (by omega) (by simp; omega)
                  have hm2 := comM_in b2 l a2 K V (by omega) (by omega) (by omega) (by omega) (by omega) (by simp; omega)
                  obtain ⟨x, hx⟩ : ∃ x, (comM l K V).f0 = x := ⟨_, rfl⟩
                  obtain ⟨y, hy⟩ : ∃ y, (comM l K V).f1 = y := ⟨_, rfl⟩
                  rw [hx, hy] at hm1 hm2
                  have HM := Lib.hid (And.intro hm1 hm2)
                  have HK := Lib.hid (show 1 ≤ K ∧ K ≤ 64 ∧ 1 ≤ V ∧ V ≤ 64 ∧ b1.length + l.length + a1.length ≤ 2000 ∧ b2.length + l.length + a2.length ≤ 2000 by omega)
                  clear hm1 hm2 hx hy
                  go_enter Tryd.func8, Tryd.ntmps8
                  go_wp2_with fail
                  obtain ⟨w0', hw0⟩ : ∃ w0', ((w.alloc (.cells #[.slice A l.length c] 25)).alloc (.cells #[.int .i64 (K : Nat)] 3)).alloc (.cells #[.int .i64 (V : Nat)] 3) = w0' := ⟨_, rfl⟩
                  have HG := Lib.hid (guaBox w A c l.length (K : Nat) (V : Nat) w0' hw0)
                  rw [hw0]
                  clear hw0
                  refine (awake w0').mono ?_
                  rintro e w1 ⟨rfl, h1⟩
                  obtain ⟨z0, z1, z2, z3⟩ := HG.out w1 h1
                  have H1 := Lib.hid (And.intro z0 h1)
                  clear h1 z0
                  go_wp2_with fail
                  refine (MarksMapW ⟨w1, B1, d1, b1, A, c, l, A1, c1, a1, w.heap.size, w.heap.size + 1, (K : Nat)⟩ ⟨HB1.out.below H1.out.1, HI.out.below H1.out.1, HA1.out.below H1.out.1, z1, z2, by have := HK.out; show b1.length + l.length + a1.length ≤ 1000000; omega⟩ (w.heap.size + 2) V K rfl HK.out.1 HK.out.2.1 HK.out.2.2.1 HK.out.2.2.2.1 HK.out.2.2.2.2.1 z3).mono ?_
                  rintro e w2 ⟨⟨M1, n1, D1, rfl, o1, hn1, hM1, C1⟩, h2⟩
                  dsimp only at o1 hM1 C1 h2
                  obtain ⟨y0, y1, y2, y3⟩ := HG.out w2 (H1.out.2.trans (h2.mono H1.out.2.size))
                  have H2 := Lib.hid (And.intro y0 (H1.out.2.trans (h2.mono H1.out.2.size)))
                  have O1 := Lib.hid (And.intro o1 C1)
                  clear h2 o1 C1 y0 z1 z2 z3
                  go_wp2_with fail
                  refine (MarksMapW ⟨w2, B2, d2, b2, A, c, l, A2, c2, a2, w.heap.size, w.heap.size + 1, (K : Nat)⟩ ⟨HB2.out.below H2.out.1, HI.out.below H2.out.1, HA2.out.below H2.out.1, y1, y2, by have := HK.out; show b2.length + l.length + a2.length ≤ 1000000; omega⟩ (w.heap.size + 2) V K rfl HK.out.1 HK.out.2.1 HK.out.2.2.1 HK.out.2.2.2.1 HK.out.2.2.2.2.2 y3).mono ?_
                  rintro e w3 ⟨⟨M2, n2, D2, rfl, o2, hn2, hM2, C2⟩, h3⟩
                  dsimp only at o2 hM2 C2 h3
                  have H3 := Lib.hid (H2.out.1.trans (h3.mono H2.out.1.size))
                  have ho1 := map_below O1.out.1 h3
                  have hMne : M1 ≠ M2 := by have := O1.out.1.lt; omega
                  have hs1 : ∀ zd, D1.atKey (markKey x y) zd = .lit (.bool true) := by
                    obtain ⟨m, hm, q1, q2, q3, q4⟩ := HM.out.1
                    obtain ⟨j, hj, rfl⟩ := List.mem_iff_getElem.1 hm
                    intro zd
                    have hC : Cont D1 (winV (hashesV (b1 ++ l ++ a1) (K : Nat)) (V : Nat)) (winV (hashesV (b1 ++ l ++ a1) (K : Nat)) (V : Nat)).length b1.length ((l.length : Int) - K) := O1.out.2
                    have := hC j hj hj (by rw [q2]; exact q3) (by rw [q2]; exact q4) zd
                    rw [q1, q2] at this
                    exact this
                  have hs2 : ∀ zd, D2.atKey (markKey x y) zd = .lit (.bool true) := by
                    obtain ⟨m, hm, q1, q2, q3, q4⟩ := HM.out.2
                    obtain ⟨j, hj, rfl⟩ := List.mem_iff_getElem.1 hm
                    intro zd
                    have hC : Cont D2 (winV (hashesV (b2 ++ l ++ a2) (K : Nat)) (V : Nat)) (winV (hashesV (b2 ++ l ++ a2) (K : Nat)) (V : Nat)).length b2.length ((l.length : Int) - K) := C2
                    have := hC j hj hj (by rw [q2]; exact q3) (by rw [q2]; exact q4) zd
                    rw [q1, q2] at this
                    exact this
                  have HS1 := Lib.hid (has_true_of_atKey hs1)
                  have HS2 := Lib.hid hs2
                  have hM2l := o2.lt
                  have O2 := Lib.hid o2
                  have HO1 := Lib.hid ho1
                  clear h3 o2 C2 ho1 hs1 hs2 O1 HM y1 y2 y3
                  go_wp2_with (first
                    | (at_range; refine wpList_range_own _ rfl _ 49 rfl 48 4 keyed48 Tryd.underlying49 _ M1 n1 _ rfl HO1.out ?_; intro w4 hrg0 hg0 hs0)
                    | fail)
                  go_frame
                  have O4 := Lib.hid (O2.out.kept hg0 (by simp))
                  have H4 := Lib.hid (H3.out.grown hg0 H3.out.size (fun q hq => by cases hq))
                  have HR0 := Lib.hid hrg0
                  have hz3 := H3.out.size
                  clear O2 hg0 hrg0 hs0
                  go_loopw [] (fun wr => ∃ (left : Lit → Bool) (cnt : Nat), Hid (wr.ranges Tryd.prog 48 (plainElem Tryd.prog 4) M1 w3.heap.size n1 D1 left cnt ∧ left (markKey x y) = true ∧ wr.ownsMap Tryd.prog 48 (plainElem (H := Nat) Tryd.prog 4) M2 n2 D2 ∧ Below w.heap.size w wr))
                    (fun wr => wr.rangeLeft M1 w3.heap.size)
                  case atStart => exact ⟨_, _, Lib.hid ⟨HR0.out, HS1.out, O4.out, H4.out⟩⟩
                  case round =>
                    obtain ⟨left, cnt, HR⟩ := hrel
                    go_wp2_with (first
                      | (at_next; refine wpList_next_ranges _ rfl _ rfl 48 keyed48 (plainElem Tryd.prog 4) (fun p : S48 => .agg #[.int .i64 p.f0, .int .i64 p.f1]) (fun c : BW => .bool c.b) (fun key kl hk => by obtain ⟨p, e, _⟩ := keyOf48_inv hk; exact ⟨⟨p.1, p.2⟩, e⟩) (fun v y hv => by obtain ⟨c, e⟩ := plain_bool_inv hv; exact ⟨⟨c⟩, e⟩) M1 w3.heap.size n1 _ _ _ rfl HR.out.1 ?_ ?_)
                      | fail)
                    · intro hc0 hl0
                      have := HR.out.2.1
                      rw [hl0] at this
                      cases this
                    · intro p vb kl yd yp w5 cnt2 hkey hlk hv hat hrg2 hlt2 hg2 hs2 hen
                      obtain ⟨q, eq, hkl, hw1, hw2⟩ := keyOf48_inv hkey
                      have eq1 : q.1 = p.f0 ∧ q.2 = p.f1 := by
                        injection eq with eq
                        injection eq with eq
                        injection eq with ea eb
                        injection eb with eb _
                        injection ea with _ ea
                        injection eb with _ eb
                        exact ⟨ea.symm, eb.symm⟩
                      rw [eq1.1, eq1.2] at hkl
                      subst hkl
                      obtain ⟨p0, p1⟩ := p
                      dsimp only at hkey hlk hat hrg2 hen
                      have O5 := Lib.hid (HR.out.2.2.1.kept hg2 (fun e => by injection e with e; omega))
                      obtain ⟨vl, hlook, hvl⟩ := look48 (O5.out.alloc (.cells #[.int .i64 p0, .int .i64 p1] 48)) hkey
                      have HB5 := Lib.hid (HR.out.2.2.2.grown hg2 HR.out.2.2.2.size (fun q hq => by cases hq; exact hz3))
                      have HLT := Lib.hid hlt2
                      have HRG := Lib.hid hrg2
                      have HVL := Lib.hid hvl
                      have HIK := Lib.hid (keyed48.key hkey)
                      clear hs2 hkey hlk hv hat hrg2 hlt2 hg2 eq1 eq hw1 hw2 hvl
                      cases vl with
                      | true =>
                        go_wp2_with fail
                        go_ret
                        exact ⟨rfl, HB5.out.alloc HB5.out.size _⟩
                      | false =>
                        go_wp2_with fail
                        have hrg3 := HRG.out.alloc (.cells #[.int .i64 p0, .int .i64 p1] 48)
                        go_roundw
                        case rel =>
                          refine ⟨_, cnt2, Lib.hid ⟨hrg3, ?_, O5.out.alloc _, HB5.out.alloc HB5.out.size _⟩⟩
                          have hne : (markKey x y).sameKey (markKey p0 p1) = false := by
                            cases hk : (markKey x y).sameKey (markKey p0 p1) with
                            | false => rfl
                            | true =>
                              have e := (WideAt.sameKey_iff HIK.out).1 hk
                              have h1 := HS2.out (.lit (.bool false))
                              rw [e, HVL.out] at h1
                              injection h1 with h1
                              injection h1 with h1
                              cases h1
                          rw [HR.out.2.1, hne]; rfl
                        case measure => rw [hrg3.left_eq, HR.out.1.left_eq]; exact HLT.out
end Go.Proofs.YtpkjiimcoepjpaaDoor
