/- The reference's forests, walked. -/
import Derived.Test.YtjijfgkmjachnaaT75
namespace Go.Proofs.Ytjijfgkmjachnaa
set_option linter.unusedVariables false
set_option linter.unusedSimpArgs false
open Go.RowKit

structure FlatR (w : World) (xs : List Ent) (n gK gT gL gN : Nat) : Prop where
  kin : ∀ i, i < n → w.cell? ⟨gK, i, none⟩ = some (.int .i64 (nd xs i).kind)
  txt : ∀ i, i < n → w.cell? ⟨gT, i, none⟩ = some (.string (nd xs i).text)
  lef : ∀ i, i < n → w.cell? ⟨gL, i, none⟩ = some (.int .i64 (lf xs i : Nat))
  num : ∀ i, i < n → w.cell? ⟨gN, i, none⟩ = some (.int .i64 (nm xs i : Nat))
theorem FlatR.keep {S : Nat → Prop} {w W : World} {xs : List Ent} {n gK gT gL gN : Nat} (h : FlatR w xs n gK gT gL gN) (hk : Keeps S w W) (h0 : ¬ S gK) (h1 : ¬ S gT) (h2 : ¬ S gL) (h3 : ¬ S gN) : FlatR W xs n gK gT gL gN :=
  ⟨fun i hi => (hk.cell (p := ⟨gK, _, none⟩) (World.block_lt_of_cell? w _ (h.kin i hi)) h0).trans (h.kin i hi), fun i hi => (hk.cell (p := ⟨gT, _, none⟩) (World.block_lt_of_cell? w _ (h.txt i hi)) h1).trans (h.txt i hi),
   fun i hi => (hk.cell (p := ⟨gL, _, none⟩) (World.block_lt_of_cell? w _ (h.lef i hi)) h2).trans (h.lef i hi), fun i hi => (hk.cell (p := ⟨gN, _, none⟩) (World.block_lt_of_cell? w _ (h.num i hi)) h3).trans (h.num i hi)⟩
/-- the four slices of a struct -/
def vR (gK gT gL gN n cK cT cL cN : Nat) : Array Value := #[.slice (some ⟨gK, 0, none⟩) n cK, .slice (some ⟨gT, 0, none⟩) n cT, .slice (some ⟨gL, 0, none⟩) n cL, .slice (some ⟨gN, 0, none⟩) n cN]

set_option maxRecDepth 100000 in
set_option maxHeartbeats 8000000 in
theorem refForests (xs ys : List Ent) (n m i k : Nat) (hi : i < n) (hk : k < m) (hn : n ≤ 900000) (hm : m ≤ 900000) (w : World) (gK gT gL gN gK' gT' gL' gN' gd base cK cT cL cN cK' cT' cL' cN' cd : Nat) (bs : Nat → Nat) (D : Nat → Nat → Int)
    (FA : FlatR w xs n gK gT gL gN) (FB : FlatR w ys m gK' gT' gL' gN') (TD : Tab w base gd bs n m D)
    (hD : ∀ s t, s < n → t < m → 0 ≤ D s t ∧ D s t ≤ 10000000)
    (ha : ∀ s, lf xs i ≤ s → s ≤ i → lf xs i ≤ lf xs s ∧ lf xs s ≤ s) (hb : ∀ t, lf ys k ≤ t → t ≤ k → lf ys k ≤ lf ys t ∧ lf ys t ≤ t) (ha0 : lf xs i ≤ i) (hb0 : lf ys k ≤ k)
    (s1 : ∀ s, s < n → bs s ≠ gK ∧ bs s ≠ gT ∧ bs s ≠ gL ∧ bs s ≠ gN ∧ bs s ≠ gK' ∧ bs s ≠ gT' ∧ bs s ≠ gL' ∧ bs s ≠ gN') :
    Calls Try.prog 33 #[.agg #[.slice (some ⟨gK, 0, none⟩) n cK, .slice (some ⟨gT, 0, none⟩) n cT, .slice (some ⟨gL, 0, none⟩) n cL, .slice (some ⟨gN, 0, none⟩) n cN],
        .agg #[.slice (some ⟨gK', 0, none⟩) m cK', .slice (some ⟨gT', 0, none⟩) m cT', .slice (some ⟨gL', 0, none⟩) m cL', .slice (some ⟨gN', 0, none⟩) m cN'], .int .i64 i, .int .i64 k, .slice (some ⟨gd, 0, none⟩) n cd] w fun e w' => e = .returned (.tuple #[]) ∧
      Keeps (fun b => ∃ s, s < n ∧ b = bs s) w w' ∧ ∃ F, Rec xs ys i k D F ∧ (∀ x y : Nat, 0 ≤ F x y ∧ F x y ≤ x + y) ∧
        Tab w' base gd bs n m (fun s t => if lf xs i ≤ s ∧ s ≤ i ∧ lf ys k ≤ t ∧ t ≤ k ∧ lf xs s = lf xs i ∧ lf ys t = lf ys k then F (s - lf xs i + 1) (t - lf ys k + 1) else D s t) := by
  have l1 := FA.lef i hi
  have l2 := FB.lef k hk
  generalize hp : lf xs i = p at *
  generalize hq : lf ys k = q at *
  obtain ⟨w1, hw1⟩ : ∃ w1, (w.alloc (.cells #[.slice (some ⟨gK, 0, none⟩) n cK, .slice (some ⟨gT, 0, none⟩) n cT, .slice (some ⟨gL, 0, none⟩) n cL, .slice (some ⟨gN, 0, none⟩) n cN] 60)).alloc (.cells #[.slice (some ⟨gK', 0, none⟩) m cK', .slice (some ⟨gT', 0, none⟩) m cT', .slice (some ⟨gL', 0, none⟩) m cL', .slice (some ⟨gN', 0, none⟩) m cN'] 60) = w1 := ⟨_, rfl⟩
  have hbx : w1.heap[w.heap.size]? = some (.cells #[.slice (some ⟨gK, 0, none⟩) n cK, .slice (some ⟨gT, 0, none⟩) n cT, .slice (some ⟨gL, 0, none⟩) n cL, .slice (some ⟨gN, 0, none⟩) n cN] 60 (0, 0)) := by
    rw [← hw1, Below.heap_alloc _ _ _ (by simp)]; exact heap_alloc_new _ _
  have hby : w1.heap[w.heap.size + 1]? = some (.cells #[.slice (some ⟨gK', 0, none⟩) m cK', .slice (some ⟨gT', 0, none⟩) m cT', .slice (some ⟨gL', 0, none⟩) m cL', .slice (some ⟨gN', 0, none⟩) m cN'] 60 (0, 0)) := by
    have z1 : (w.alloc (.cells #[.slice (some ⟨gK, 0, none⟩) n cK, .slice (some ⟨gT, 0, none⟩) n cT, .slice (some ⟨gL, 0, none⟩) n cL, .slice (some ⟨gN, 0, none⟩) n cN] 60)).heap.size = w.heap.size + 1 := by simp
    rw [← hw1, ← z1]; exact heap_alloc_new _ _
  have hsz1 : w1.heap.size = w.heap.size + 2 := by rw [← hw1]; simp
  have hk0 : Keeps (fun _ => False) w w1 := by rw [← hw1]; exact ((Keeps.refl _ _).alloc _).alloc _
  have TD0 := TD.keep hk0 (fun h => h) (fun _ _ h => h)
  have FA0 := FA.keep hk0 (fun h => h) (fun h => h) (fun h => h) (fun h => h)
  have FB0 := FB.keep hk0 (fun h => h) (fun h => h) (fun h => h) (fun h => h)
  have hbs : ∀ s, s < n → bs s < w.heap.size := fun s hs => (TD.lo s hs).2
  have HP := Lib.hid hp
  have HQ := Lib.hid hq
  have Ha := Lib.hid ha
  have Hb := Lib.hid hb
  have Hd := Lib.hid hD
  have HBS := Lib.hid hbs
  have HK0 := Lib.hid hk0
  have TDW := Lib.hid TD.lo
  have GLO := Lib.hid TD.glo
  have CTX := Lib.hid (show ∀ W, Keeps (fun b => ∃ s, s < n ∧ b = bs s) w1 W → (W.heap[w.heap.size]? = some (.cells #[.slice (some ⟨gK, 0, none⟩) n cK, .slice (some ⟨gT, 0, none⟩) n cT, .slice (some ⟨gL, 0, none⟩) n cL, .slice (some ⟨gN, 0, none⟩) n cN] 60 (0, 0))) ∧
      W.heap[w.heap.size + 1]? = some (.cells #[.slice (some ⟨gK', 0, none⟩) m cK', .slice (some ⟨gT', 0, none⟩) m cT', .slice (some ⟨gL', 0, none⟩) m cL', .slice (some ⟨gN', 0, none⟩) m cN'] 60 (0, 0)) ∧ FlatR W xs n gK gT gL gN ∧ FlatR W ys m gK' gT' gL' gN' by
    intro W hK
    refine ⟨(hK.block _ (hlt hbx) (fun ⟨s, h, e⟩ => by have := hbs s h; omega)).trans hbx, (hK.block _ (hlt hby) (fun ⟨s, h, e⟩ => by have := hbs s h; omega)).trans hby,
      FA0.keep hK (fun ⟨s, h, e⟩ => (s1 s h).1 e.symm) (fun ⟨s, h, e⟩ => (s1 s h).2.1 e.symm) (fun ⟨s, h, e⟩ => (s1 s h).2.2.1 e.symm) (fun ⟨s, h, e⟩ => (s1 s h).2.2.2.1 e.symm),
      FB0.keep hK (fun ⟨s, h, e⟩ => (s1 s h).2.2.2.2.1 e.symm) (fun ⟨s, h, e⟩ => (s1 s h).2.2.2.2.2.1 e.symm) (fun ⟨s, h, e⟩ => (s1 s h).2.2.2.2.2.2.1 e.symm) (fun ⟨s, h, e⟩ => (s1 s h).2.2.2.2.2.2.2 e.symm)⟩)
  have l3 := FA0.lef i hi
  have l4 := FB0.lef k hk
  rw [HP.out] at l3
  rw [HQ.out] at l4
  clear hp hq s1 ha hb hD hbs hk0 FA FB TD FA0 FB0 l1 l2
  obtain ⟨⟨a0, a1, a2, a3⟩, -⟩ := box4_cells hbx
  obtain ⟨⟨b0, b1, b2, b3⟩, -⟩ := box4_cells hby
  clear hbx hby
  have i0 : (0 : Int) ≤ (i : Int) := by omega
  have k0 : (0 : Int) ≤ (k : Int) := by omega
  have i1 : (i : Int) < (n : Int) := by omega
  have k1 : (k : Int) < (m : Int) := by omega
  go_enter Try.func33, Try.ntmps33
  go_wp2_with fail
  go_quiet (fail)
  go_wp2_with fail
  clear hw1
  have e1 : ((i : Int) - (p : Int) + 2) = ((i - p + 2 : Nat) : Int) := by omega
  have e2 : ((k : Int) - (q : Int) + 2) = ((k - q + 2 : Nat) : Int) := by omega
  rw [e1, e2]
  clear e1 e2
  refine (refTable (i - p + 2) (k - q + 2) (w1.drewN nq) (by omega) (by omega) (by omega)).mono ?_
  rintro e w2 ⟨⟨gf, cf, bf, rfl, TF⟩, hb2⟩
  have hKw : Keeps (fun _ => False) w1 w2 := ((Keeps.refl _ w1).drewN nq).trans (Keeps.of_below hb2)
  simp only [World.heap_drewN] at TF ⊢
  obtain ⟨X, hX⟩ : ∃ X, X = i - p + 2 := ⟨_, rfl⟩
  obtain ⟨Y, hY⟩ : ∃ Y, Y = k - q + 2 := ⟨_, rfl⟩
  rw [← hX] at TF ⊢
  rw [← hY] at TF ⊢
  have hX1 : p + X ≤ i + 2 := by omega
  have hX2 : i + 2 ≤ p + X := by omega
  have hY1 : q + Y ≤ k + 2 := by omega
  have hY2 : k + 2 ≤ q + Y := by omega
  have hX3 : 2 ≤ X := by omega
  have hY3 : 2 ≤ Y := by omega
  clear hX hY hb2 a0 a1 a2 a3 b0 b1 b2 b3 l3 l4
  go_wp2_with fail
  have hz0 : ∀ x : Nat, x < 0 + 1 → (fun (_ _ : Nat) => (0 : Int)) x 0 = x := fun x hx => by
    have : x = 0 := by omega
    subst this; rfl
  go_loopw [13] (fun c wr => ∃ j : Nat, j + 1 ≤ X ∧ c = .int .i64 ((j + 1 : Nat) : Int) ∧ Keeps (fun _ => False) w1 wr ∧ ∃ F, Tab wr w1.heap.size gf bf X Y F ∧ (∀ x, x < j + 1 → F x 0 = x) ∧ ∀ x y : Nat, 0 ≤ F x y ∧ F x y ≤ x + y) (fun c _ => X - (intOf c).toNat)
  case atStart => exact ⟨0, by omega, rfl, hKw, _, TF, hz0, fun x y => ⟨Int.le_refl _, Int.add_nonneg (Int.natCast_nonneg _) (Int.natCast_nonneg _)⟩⟩
  case round =>
    obtain ⟨j0, hj, rfl, hKr, F, TF1, hF0, hFb⟩ := hrel
    have HF0 := Lib.hid hF0
    have HFb := Lib.hid hFb
    clear hF0 hFb TF hKw hz0
    obtain ⟨j, hj0⟩ : ∃ j, j = j0 + 1 := ⟨_, rfl⟩
    rw [← hj0] at hj HF0 ⊢
    have hj1 : 1 ≤ j := by omega
    clear hj0
    by_cases hlj : j < X
    · have o1 := TF1.outer j hlj
      have c1 := TF1.inner j 0 hlj (by omega)
      have f1 := TF1.free j 0 hlj (by omega)
      have hlo := (TF1.lo j hlj).1
      go_wp2_with fail
      go_roundw
      case rel =>
        refine ⟨j, by omega, by go_num, hKr.setCell (p := ⟨bf j, 0, none⟩) (.inr hlo) _, upd F j 0 j, TF1.set hlj (by omega) _, fun x hx => ?_, fun x y => ?_⟩
        · by_cases h : x = j
          · subst h; rw [upd_same]
          · rw [upd_other _ _ _ _ _ _ (by omega)]; exact HF0.out x (by omega)
        · simp only [upd]; split
          · rename_i h; obtain ⟨rfl, rfl⟩ := h; omega
          · exact HFb.out x y
      case measure => simp [intOf]; omega
    · obtain rfl : j = X := by omega
      go_wp2_with fail
      have hz1 : ∀ x : Nat, x < 0 + 1 → F 0 x = x := fun x hx => by
        have : x = 0 := by omega
        subst this; exact HF0.out 0 (by omega)
      go_loopw [14] (fun c wr => ∃ y : Nat, y + 1 ≤ Y ∧ c = .int .i64 ((y + 1 : Nat) : Int) ∧ Keeps (fun _ => False) w1 wr ∧ ∃ F, Tab wr w1.heap.size gf bf j Y F ∧ Hid ((∀ x : Nat, x < j → F x 0 = x) ∧ (∀ x : Nat, x < y + 1 → F 0 x = x) ∧ ∀ x y : Nat, 0 ≤ F x y ∧ F x y ≤ x + y)) (fun c _ => Y - (intOf c).toNat)
      case atStart => exact ⟨0, by omega, rfl, hKr, _, TF1, Lib.hid ⟨HF0.out, hz1, HFb.out⟩⟩
      case round =>
        clear TF1 hKr HF0 HFb hz1
        obtain ⟨y0, hy, rfl, hKr, F, TF2, HF⟩ := hrel
        obtain ⟨y, hy0⟩ : ∃ y, y = y0 + 1 := ⟨_, rfl⟩
        rw [← hy0] at hy HF ⊢
        have hy1 : 1 ≤ y := by omega
        clear hy0
        by_cases hly : y < Y
        · have o1 := TF2.outer 0 (by omega)
          have c1 := TF2.inner 0 y (by omega) hly
          have f1 := TF2.free 0 y (by omega) hly
          have hlo := (TF2.lo 0 (by omega)).1
          go_wp2_with fail
          go_roundw
          case rel =>
            refine ⟨y, by omega, by go_num, hKr.setCell (p := ⟨bf 0, y, none⟩) (.inr hlo) _, upd F 0 y y, TF2.set (by omega) hly _, Lib.hid ⟨fun x hx => ?_, fun x hx => ?_, fun a b => ?_⟩⟩
            · by_cases h : x = 0 ∧ 0 = y
              · obtain ⟨rfl, rfl⟩ := h; rw [upd_same]
              · rw [upd_other _ _ _ _ _ _ h]; exact HF.out.1 x hx
            · by_cases h : x = y
              · subst h; rw [upd_same]
              · rw [upd_other _ _ _ _ _ _ (by omega)]; exact HF.out.2.1 x (by omega)
            · simp only [upd]; split
              · rename_i h; obtain ⟨rfl, rfl⟩ := h; omega
              · exact HF.out.2.2 a b
          case measure => simp [intOf]; omega
        · obtain rfl : y = Y := by omega
          have hKd : Keeps (fun b => ∃ s, s < n ∧ b = bs s) w1 wr := hKr.mono (fun _ _ h => h.elim)
          have TD1 := TD0.keep hKr (fun h => h) (fun _ _ h => h)
          have HI : Inv xs ys p q i k D F p q := ⟨fun x hx => HF.out.1 x (by omega), fun x hx => HF.out.2.1 x (by omega), HF.out.2.2, fun s t _ _ _ _ h => by omega⟩
          have TD2 : Tab wr base gd bs n m (dcur xs ys p q i k D F p q) := TD1.congr (fun s t _ _ => by simp only [dcur]; rw [if_neg (by omega)])
          clear HF hKr TD1 TD0
          go_wp2_with fail
          go_loopw [15] (fun c wr => ∃ a : Nat, a + 1 ≤ j ∧ c = .int .i64 ((a + 1 : Nat) : Int) ∧ Keeps (fun b => ∃ s, s < n ∧ b = bs s) w1 wr ∧ ∃ F, Tab wr w1.heap.size gf bf j y F ∧ Tab wr base gd bs n m (dcur xs ys p q i k D F (p + a) q) ∧ Inv xs ys p q i k D F (p + a) q) (fun c _ => j - (intOf c).toNat)
          case atStart => exact ⟨0, by omega, rfl, hKd, F, TF2, TD2, HI⟩
          case round =>
            clear TF2 TD2 HI hKd
            obtain ⟨a, ha, rfl, hKr, F, TF3, TD3, HI⟩ := hrel
            obtain ⟨x1, hx1⟩ : ∃ x1, x1 = a + 1 := ⟨_, rfl⟩
            rw [← hx1] at ha ⊢
            by_cases hls : x1 < j
            · obtain ⟨s, hs⟩ : ∃ s, s = p + a := ⟨_, rfl⟩
              rw [← hs] at TD3 HI
              have hx1a : x1 ≤ a + 1 := by omega
              have hx1b : a + 1 ≤ x1 := by omega
              have hsa : s ≤ p + a := by omega
              have hsb : p + a ≤ s := by omega
              have HX1 := Lib.hid hx1
              have HSA := Lib.hid hs
              clear hx1 hs
              go_wp2_with fail
              obtain ⟨wo, hwo⟩ : ∃ wo : World, wo = wr := ⟨_, rfl⟩
              have HWO := Lib.hid hwo
              clear hwo
              go_loopw [16] (fun c wr => ∃ b : Nat, b + 1 ≤ y ∧ c = .int .i64 ((b + 1 : Nat) : Int) ∧ Keeps (fun b => ∃ s, s < n ∧ b = bs s) w1 wr ∧ ∃ F, Tab wr w1.heap.size gf bf j y F ∧ Tab wr base gd bs n m (dcur xs ys p q i k D F s (q + b)) ∧ Inv xs ys p q i k D F s (q + b)) (fun c _ => y - (intOf c).toNat)
              case atStart => exact ⟨0, by omega, rfl, hKr, F, TF3, TD3, HI⟩
              case round =>
                clear TF3 TD3 HI hKr HWO
                obtain ⟨b, hb, rfl, hKr, F, TF3, TD3, HI⟩ := hrel
                obtain ⟨y1, hy1'⟩ : ∃ y1, y1 = b + 1 := ⟨_, rfl⟩
                rw [← hy1'] at hb ⊢
                obtain ⟨t, ht⟩ : ∃ t, t = q + b := ⟨_, rfl⟩
                rw [← ht] at TD3 HI
                have hy1a : y1 ≤ b + 1 := by omega
                have hy1b : b + 1 ≤ y1 := by omega
                have hta : t ≤ q + b := by omega
                have htb : q + b ≤ t := by omega
                have HY1 := Lib.hid hy1'
                have HTB := Lib.hid ht
                clear hy1' ht
                by_cases hlt : y1 < y
                · have e3 : ((x1 : Int) - 1) = (a : Int) := by omega
                  have e4 : ((y1 : Int) - 1) = (b : Int) := by omega
                  have e5 : IntKind.i64.wrap ((x1 : Int) - 1) = (a : Int) := by rw [e3]; exact IntWalk.i64_in _ (by omega)
                  have e6 : IntKind.i64.wrap ((y1 : Int) - 1) = (b : Int) := by rw [e4]; exact IntWalk.i64_in _ (by omega)
                  have e7 : ((p : Int) + (x1 : Int) - 1) = (s : Int) := by omega
                  have e8 : ((q : Int) + (y1 : Int) - 1) = (t : Int) := by omega
                  have haj : a < j := by omega
                  have hby2 : b < y := by omega
                  have o1 := TF3.outer a haj
                  have o2 := TF3.outer x1 hls
                  have c1 := TF3.inner a y1 haj hlt
                  have c2 := TF3.inner x1 b hls hby2
                  go_wp2_with fail
                  go_quiet (fail)
                  have b1 := HI.bd a y1
                  have b2 := HI.bd x1 b
                  have hbst : 0 ≤ min (F a y1) (F x1 b) ∧ min (F a y1) (F x1 b) ≤ 3000000 := by omega
                  generalize hbe : min (F a y1) (F x1 b) = mn at hbst ⊢
                  have HBE := Lib.hid hbe
                  have hw : wrap64 (mn + 1) = mn + 1 := by unfold wrap64; omega
                  rw [hw]
                  clear hbe b1 b2 c1 c2 hw
                  have hsn : s < n := by omega
                  have htm : t < m := by omega
                  obtain ⟨hbx, hby, fA, fB⟩ := CTX.out wr hKr
                  obtain ⟨⟨a0, a1, a2, a3⟩, -⟩ := box4_cells hbx
                  obtain ⟨⟨b0, b1, b2, b3⟩, -⟩ := box4_cells hby
                  have l3 := fA.lef s hsn
                  have l4 := fB.lef t htm
                  have h0s : (0 : Int) ≤ (s : Int) := by omega
                  have h0t : (0 : Int) ≤ (t : Int) := by omega
                  have h1s : (s : Int) < (n : Int) := by omega
                  have h1t : (t : Int) < (m : Int) := by omega
                  clear hbx hby
                  by_cases hal : lf xs s = p ∧ lf ys t = q
                  · have d1 : ((lf xs s : Int) == (p : Int)) = true := by rw [beq_iff_eq]; omega
                    have d2 : ((lf ys t : Int) == (q : Int)) = true := by rw [beq_iff_eq]; omega
                    have HAL := Lib.hid hal
                    clear hal
                    have c3 := TF3.inner a b haj hby2
                    have b0' := HI.bd a b
                    have m1 := fA.kin s hsn
                    have m2 := fA.txt s hsn
                    have m3 := fB.kin t htm
                    have m4 := fB.txt t htm
                    go_wp2_with fail
                    clear l3 l4
                    have hcs : ∃ u : Int, u = (if sameLabel (nd xs s) (nd ys t) then 0 else 1) ∧ (u = 0 ∨ u = 1) := ⟨_, rfl, by split <;> omega⟩
                    have hlab : (((nd xs s).kind != (nd ys t).kind) = true ∧ sameLabel (nd xs s) (nd ys t) = false) ∨
                        (((nd xs s).kind != (nd ys t).kind) = false ∧ ((nd xs s).text.toList == (nd ys t).text.toList) = false ∧ ((nd xs s).text.toList != (nd ys t).text.toList) = true ∧ sameLabel (nd xs s) (nd ys t) = false) ∨
                        (((nd xs s).kind != (nd ys t).kind) = false ∧ ((nd xs s).text.toList == (nd ys t).text.toList) = true ∧ ((nd xs s).text.toList != (nd ys t).text.toList) = false ∧ sameLabel (nd xs s) (nd ys t) = true) := by
                      unfold sameLabel
                      by_cases h1 : (nd xs s).kind = (nd ys t).kind <;> by_cases h2 : (nd xs s).text.toList = (nd ys t).text.toList <;> simp [h1, h2]
                    clear hcs
                    rcases hlab with ⟨k1', hsl⟩ | ⟨k1', t1', t2', hsl⟩ | ⟨k1', t1', t2', hsl⟩
                    all_goals
                      have HSL := Lib.hid hsl
                      clear hsl
                      go_quiet (fail)
                    all_goals
                      clear m1 m2 m3 m4 c3 k1'
                    all_goals (try clear t1' t2')
                    all_goals
                      generalize hW2 : World.drewN (World.drewN wr _) _ = W2
                      have hK2 : Keeps (fun b => ∃ s, s < n ∧ b = bs s) w1 W2 := by rw [← hW2]; exact (hKr.drewN _).drewN _
                      have TF4 : Tab W2 w1.heap.size gf bf j y F := by rw [← hW2]; exact (TF3.drewN _).drewN _
                      have TD4 : Tab W2 base gd bs n m (dcur xs ys p q i k D F s t) := by rw [← hW2]; exact (TD3.drewN _).drewN _
                      have z2 := TD4.outer s hsn
                      have z3 := TD4.inner s t hsn htm
                      have z4 := TD4.free s t hsn htm
                      obtain ⟨vv, hvv⟩ : ∃ vv : Int, min (mn + 1) (F a b + if sameLabel (nd xs s) (nd ys t) then 0 else 1) = vv := ⟨_, rfl⟩
                      have hv2 := hvv
                      rw [HSL.out] at hv2
                      simp only [Bool.false_eq_true, if_false, if_true, Int.add_zero] at hv2
                      have HVV := Lib.hid hvv
                      have hwF : wrap64 (F a b + 1) = F a b + 1 := by unfold wrap64; omega
                      obtain ⟨W3, hW3⟩ : ∃ W3, W2.setCell ⟨bs s, t, none⟩ (.int .i64 vv) = W3 := ⟨_, rfl⟩
                      have hfne : ∀ z, z < n → bs z < w1.heap.size := fun z hz => by have := (TDW.out z hz).2; omega
                      have hsz1' : w1.heap.size ≤ W2.heap.size := hK2.size
                      have TF5 : Tab W3 w1.heap.size gf bf j y F := by
                        rw [← hW3]
                        refine TF4.keep (S := fun b => b = bs s) (Keeps.setCell (S := fun b => b = bs s) (Keeps.refl _ W2) (p := ⟨bs s, t, none⟩) (.inl rfl) _) (fun h => ?_) (fun z hz h => ?_)
                        · have := hfne s hsn; have := TF4.glo.1; omega
                        · have := hfne s hsn; have := (TF4.lo z hz).1; omega
                      have TD5 : Tab W3 base gd bs n m (upd (dcur xs ys p q i k D F s t) s t vv) := by rw [← hW3]; exact TD4.set hsn htm vv
                      have hK3 : Keeps (fun b => ∃ s, s < n ∧ b = bs s) w1 W3 := by rw [← hW3]; exact hK2.setCell (p := ⟨bs s, t, none⟩) (.inl ⟨s, hsn, rfl⟩) _
                      have z5 := TF5.outer x1 hls
                      have z6 := TF5.inner x1 y1 hls hlt
                      have z7 := TF5.free x1 y1 hls hlt
                      have HFN := Lib.hid hfne
                      clear hW2 hvv hfne hsz1' o1 o2 a0 a1 a2 a3 b0 b1 b2 b3 d1 d2 TF4 TD4 hK2
                      go_wp2_with fail
                      go_roundw
                      case rel =>
                        have ea : s - p = a := by omega
                        have eb : t - q = b := by omega
                        have ex : x1 = a + 1 := by omega
                        have ey : y1 = b + 1 := by omega
                        have et : q + y1 = t + 1 := by omega
                        refine ⟨y1, by omega, by go_num, hK3.setCell (p := ⟨bf x1, y1, none⟩) (.inr (TF5.lo x1 hls).1) _, upd F (s - p + 1) (t - q + 1) vv, ?_, ?_, ?_⟩
                        · rw [ea, eb, ← ex, ← ey]
                          exact TF5.set hls hlt vv
                        · rw [et]
                          refine (Tab.keep (S := fun b => b = bf x1) TD5 (Keeps.setCell (S := fun b => b = bf x1) (Keeps.refl _ _) (p := ⟨bf x1, y1, none⟩) (.inl rfl) _) (fun h => ?_) (fun z hz h => ?_)).congr (fun s' t' _ _ => dcur_set vv (by omega) (by omega) (by omega) (by omega) HAL.out s' t')
                          · have := GLO.out; have := (TF5.lo x1 hls).1; omega
                          · have := HFN.out z hz; have := (TF5.lo x1 hls).1; omega
                        · rw [et]
                          refine HI.step (by omega) (by omega) (by omega) (by omega) Ha.out Hb.out ?_ ?_
                          · rw [← HVV.out]; split <;> omega
                          · rw [if_pos HAL.out, ea, eb, ← ex, ← ey, HBE.out]; exact HVV.out.symm
                      case measure => simp [intOf]; omega
                  · have hdc : dcur xs ys p q i k D F s t s t = D s t := by unfold dcur; rw [if_neg (fun h => hal ⟨h.2.2.2.2.1, h.2.2.2.2.2.1⟩)]
                    have hDb := Hd.out s t hsn htm
                    obtain ⟨hu1, hu2⟩ := Ha.out s (by omega) (by omega)
                    obtain ⟨hv1, hv2⟩ := Hb.out t (by omega) (by omega)
                    obtain ⟨u, hu⟩ : ∃ u, u = lf xs s - p := ⟨_, rfl⟩
                    obtain ⟨v, hv⟩ : ∃ v, v = lf ys t - q := ⟨_, rfl⟩
                    have hul : u ≤ a := by omega
                    have hvl : v ≤ b := by omega
                    have f1 : ((lf xs s : Int) - (p : Int)) = (u : Int) := by omega
                    have f2 : ((lf ys t : Int) - (q : Int)) = (v : Int) := by omega
                    have f3 : IntKind.i64.wrap ((lf xs s : Int) - (p : Int)) = (u : Int) := by rw [f1]; exact IntWalk.i64_in _ (by omega)
                    have f4' : IntKind.i64.wrap ((lf ys t : Int) - (q : Int)) = (v : Int) := by rw [f2]; exact IntWalk.i64_in _ (by omega)
                    have f7 : IntKind.i64.wrap (u : Int) = (u : Int) := IntWalk.i64_in _ (by omega)
                    have f8 : IntKind.i64.wrap (v : Int) = (v : Int) := IntWalk.i64_in _ (by omega)
                    have b0' := HI.bd u v
                    have f5 : IntKind.i64.wrap (F u v + D s t) = F u v + D s t := IntWalk.i64_in _ (by omega)
                    have f6 : 0 ≤ F u v + D s t ∧ F u v + D s t ≤ 30000000 := by omega
                    have HAL := Lib.hid hal
                    have HU := Lib.hid hu
                    have HV := Lib.hid hv
                    have hul2 : u < j := by omega
                    have hvl2 : v < y := by omega
                    have o3 := TF3.outer u hul2
                    have c3 := TF3.inner u v hul2 hvl2
                    have z2 := TD3.outer s hsn
                    have z3 := TD3.inner s t hsn htm
                    rw [hdc] at z3
                    have hfne : ∀ z, z < n → bs z < w1.heap.size := fun z hz => by have := (TDW.out z hz).2; omega
                    have HFN := Lib.hid hfne
                    have hcs : ((lf xs s : Int) == (p : Int)) = false ∨ (((lf xs s : Int) == (p : Int)) = true ∧ ((lf ys t : Int) == (q : Int)) = false) := by
                      by_cases h : lf xs s = p
                      · right
                        refine ⟨by rw [beq_iff_eq]; omega, ?_⟩
                        rw [beq_eq_false_iff_ne]; intro h2; exact HAL.out ⟨h, by omega⟩
                      · left; rw [beq_eq_false_iff_ne]; omega
                    obtain ⟨vv, hvv⟩ : ∃ vv : Int, min (mn + 1) (F u v + D s t) = vv := ⟨_, rfl⟩
                    have HVV := Lib.hid hvv
                    clear hfne hal hdc hu hv hDb hu1 hu2 hv1 hv2 o1
                    rcases hcs with d1 | ⟨d1, d2⟩
                    all_goals
                      go_wp2_with fail
                      go_quiet (fail)
                    all_goals
                      generalize hW2 : World.drewN (World.drewN wr _) _ = W2
                      have hK2 : Keeps (fun b => ∃ s, s < n ∧ b = bs s) w1 W2 := by rw [← hW2]; exact (hKr.drewN _).drewN _
                      have TF4 : Tab W2 w1.heap.size gf bf j y F := by rw [← hW2]; exact (TF3.drewN _).drewN _
                      have TD4 : Tab W2 base gd bs n m (dcur xs ys p q i k D F s t) := by rw [← hW2]; exact (TD3.drewN _).drewN _
                      have z5 := TF4.outer x1 hls
                      have z6 := TF4.inner x1 y1 hls hlt
                      have z7 := TF4.free x1 y1 hls hlt
                      clear hW2 o2 o3 c3 z2 z3 a0 a1 a2 a3 b0 b1 b2 b3 l3 l4
                      go_wp2_with fail
                      go_roundw
                      case rel =>
                        have ea : s - p = a := by omega
                        have eb : t - q = b := by omega
                        have ex : x1 = a + 1 := by omega
                        have ey : y1 = b + 1 := by omega
                        have et : q + y1 = t + 1 := by omega
                        have hvv2 := HVV.out
                        refine ⟨y1, by omega, by go_num, hK2.setCell (p := ⟨bf x1, y1, none⟩) (.inr (TF4.lo x1 hls).1) _, upd F (s - p + 1) (t - q + 1) vv, ?_, ?_, ?_⟩
                        · rw [ea, eb, ← ex, ← ey]
                          exact TF4.set hls hlt vv
                        · rw [et]
                          refine (Tab.keep (S := fun b => b = bf x1) TD4 (Keeps.setCell (S := fun b => b = bf x1) (Keeps.refl _ _) (p := ⟨bf x1, y1, none⟩) (.inl rfl) _) (fun h => ?_) (fun z hz h => ?_)).congr (fun s' t' _ _ => dcur_keep vv (by omega) (by omega) HAL.out s' t')
                          · have := GLO.out; have := (TF4.lo x1 hls).1; omega
                          · have := HFN.out z hz; have := (TF4.lo x1 hls).1; omega
                        · rw [et]
                          refine HI.step (by omega) (by omega) (by omega) (by omega) Ha.out Hb.out (by omega) ?_
                          rw [if_neg HAL.out, ea, eb, ← ex, ← ey, HBE.out, ← HU.out, ← HV.out]; exact hvv2.symm
                      case measure => simp [intOf]; omega
                · obtain rfl : y1 = y := by omega
                  have et : t = k + 1 := by omega
                  subst et
                  have TD6 : Tab wr base gd bs n m (dcur xs ys p q i k D F (s + 1) q) := TD3.congr (fun s' t' _ _ => (dcur_row s' t').symm)
                  have HI6 := HI.next
                  clear TD3 HI
                  go_wp2_with fail
                  go_roundw
                  case rel => exact ⟨x1, by omega, by go_num, hKr, F, TF3, by rw [show p + x1 = s + 1 by omega]; exact TD6, by rw [show p + x1 = s + 1 by omega]; exact HI6⟩
                  case measure => simp [intOf]; omega
            · obtain rfl : x1 = j := by omega
              have hs : p + a = i + 1 := by omega
              rw [hs] at TD3 HI
              clear hx1
              go_wp2_with fail
              go_end0
              refine ⟨rfl, (HK0.out.mono (fun _ _ h => h.elim)).trans' hKr (fun _ _ h => h), F, ⟨by rw [HP.out]; exact HI.row, by rw [HQ.out]; exact HI.col, fun s t h1 h2 h3 h4 h5 h6 => ?_, fun s t h1 h2 h3 h4 h5 => ?_⟩, HI.bd, TD3.congr (fun s' t' _ _ => ?_)⟩
              · have h := HI.eqn s t (by rw [← HP.out]; exact h1) h2 (by rw [← HQ.out]; exact h3) h4 (by omega)
                unfold Eqn at h
                rw [HP.out, HQ.out]
                rw [h, if_pos ⟨by rw [h5, HP.out], by rw [h6, HQ.out]⟩]
              · have h := HI.eqn s t (by rw [← HP.out]; exact h1) h2 (by rw [← HQ.out]; exact h3) h4 (by omega)
                unfold Eqn at h
                rw [HP.out, HQ.out]
                rw [h, if_neg (by rintro ⟨h6, h7⟩; rw [HP.out, HQ.out] at h5; rcases h5 with h5 | h5; exact h5 h6; exact h5 h7)]
              · unfold dcur
                by_cases hc : p ≤ s' ∧ s' ≤ i ∧ q ≤ t' ∧ t' ≤ k ∧ lf xs s' = p ∧ lf ys t' = q
                · rw [if_pos hc, if_pos ⟨hc.1, hc.2.1, hc.2.2.1, hc.2.2.2.1, hc.2.2.2.2.1, hc.2.2.2.2.2, by omega⟩]
                · rw [if_neg hc, if_neg (fun h => hc ⟨h.1, h.2.1, h.2.2.1, h.2.2.2.1, h.2.2.2.2.1, h.2.2.2.2.2.1⟩)]
end Go.Proofs.Ytjijfgkmjachnaa
