/- awake, walked. -/
import Derived.Test.YtpkjiimcoepjpaaDoorT21
import Derived.Laws.EntriesVeiled
namespace Go.Proofs.YtpkjiimcoepjpaaDoor
set_option linter.unusedVariables false
set_option linter.unusedSimpArgs false
open Go.RowKit Go.Proofs.YtpkjiimcoepjpaaDoorW.PrintWords
open PFingerprintSymbols (S48)

theorem inR_new {w : World} {b : Nat} (l : List Int) (h : w.heap[b]? = some (.cells (l.map (Value.int .i64)).toArray 3 (0, 0))) (hl : l.length ≤ 1000000) : InR w (some ⟨b, 0, none⟩) l.length l := by
  refine ⟨Nat.le_refl _, by omega, fun _ => ⟨b, 0, rfl, fun i hi => ?_⟩⟩
  unfold World.cell?
  rw [h]
  simp [hi]
theorem mkI_new {w : World} {b : Nat} (l : List S48) (h : w.heap[b]? = some (.cells (l.flatMap fun m => [Value.int .i64 m.f0, .int .i64 m.f1]).toArray 48 (0, 0))) (hl : l.length ≤ 1000000) : MkI w (some ⟨b, 0, none⟩) l.length l := by
  refine ⟨Nat.le_refl _, by omega, fun _ => ⟨b, 0, rfl, fun i hi => ?_⟩⟩
  have key : ∀ (l : List S48) (i : Nat) (hi : i < l.length), (l.flatMap fun m => [Value.int .i64 m.f0, .int .i64 m.f1])[i * 2]? = some (.int .i64 l[i].f0) ∧ (l.flatMap fun m => [Value.int .i64 m.f0, .int .i64 m.f1])[i * 2 + 1]? = some (.int .i64 l[i].f1) := by
    intro l
    induction l with
    | nil => intro i hi; simp at hi
    | cons m l ih =>
      intro i hi
      rcases i with _ | i
      · simp
      · have := ih i (by simpa using hi)
        rw [List.flatMap_cons, show (i + 1) * 2 = i * 2 + 2 by omega, show i * 2 + 2 + 1 = i * 2 + 1 + 2 by omega]
        simpa using this
  have hk := key l i hi
  unfold World.cell?
  rw [h]
  simp only [Option.isSome_none, Bool.false_eq_true, if_false, Nat.zero_add]
  exact ⟨by simpa using hk.1, by simpa using hk.2⟩
theorem up_ext {l m : List Int} (hl : l.Pairwise (· < ·)) (hm : m.Pairwise (· < ·)) (h : ∀ x, x ∈ l ↔ x ∈ m) : l = m := by
  have n1 : l.Nodup := hl.imp fun h => by omega
  have n2 : m.Nodup := hm.imp fun h => by omega
  refine List.Perm.eq_of_pairwise (le := fun a b => a < b) (fun a b _ _ h1 h2 => ?_) hl hm ((List.perm_ext_iff_of_nodup n1 n2).2 h)
  omega
/-! ### the examples' values -/
def tA : Nd := .mk 20 ⟨#[97]⟩ 0 0 []
def tM : Nd := .mk 28 ⟨#[45]⟩ 0 0 [tA]
def PK (k : Int) : Prop := k = 20 ∨ k = 28
theorem itB20 : itB 20 = ⟨(Lib.decDigits 20).toArray⟩ := by kernel_rfl
theorem itB28 : itB 28 = ⟨(Lib.decDigits 28).toArray⟩ := by kernel_rfl
theorem itPK (w : World) : ItOk PK w := by
  intro k hk W hW
  rcases hk with rfl | rfl
  · refine (Tryd.strconv_Itoa_small 20 (by omega) W).mono ?_
    rintro e w' ⟨rfl, rfl⟩
    exact ⟨by rw [itB20], Below.refl _ _⟩
  · refine (Tryd.strconv_Itoa_small 28 (by omega) W).mono ?_
    rintro e w' ⟨rfl, rfl⟩
    exact ⟨by rw [itB28], Below.refl _ _⟩
theorem szB20 : (itB 20).size = 2 := by kernel_rfl
theorem szB28 : (itB 28).size = 2 := by kernel_rfl
theorem allA : AllK PK tA := .mk tA (.inl rfl) (by show (itB 20).size + 1 + 1 ≤ _; rw [szB20]; omega) (fun k hk => by simp [tA, Nd.kids] at hk)
theorem allM : AllK PK tM := .mk tM (.inr rfl) (by show (itB 28).size + 1 + 1 ≤ _; rw [szB28]; omega) (fun k hk => by simp [tM, Nd.kids] at hk; subst hk; exact allA)
theorem sizeA : tA.size = 1 := by kernel_rfl
theorem sizeM : tM.size = 2 := by kernel_rfl
theorem lenM : (syms tM).length = 3 := by kernel_rfl
theorem atM : (syms tM)[2]? = some 0 := by kernel_rfl
theorem mkC : marksC tA 1 1 = 0 := by kernel_rfl
theorem mkL : (marksV tA 1 1).length = 1 := by kernel_rfl
theorem wnC : winC [5, 3, 9, 3, 7] 3 = 0 := by kernel_rfl
theorem wnV : winV [5, 3, 9, 3, 7] 3 = [⟨3, 1⟩, ⟨3, 3⟩] := by kernel_rfl
theorem hsC : hashesC [1, 2, 3] 2 = 0 := by kernel_rfl
theorem hsV : hashesV [1, 2, 3] 2 = [1000005, 2000009] := by kernel_rfl
theorem rlC : rollC 1000005 2 = 0 := by kernel_rfl
theorem rlV : rollV 1000005 1 3 2 = 2000009 := by kernel_rfl
theorem h12 : hashS [1, 2] = 1000005 := by kernel_rfl
theorem both3 {L : List Int} (h1 : L.Pairwise (· < ·)) (h2 : ∀ x, x ∈ L ↔ Both [⟨3, 1⟩, ⟨3, 3⟩] [⟨4, 0⟩, ⟨3, 9⟩] x) : L = [3] := by
  refine up_ext h1 (List.pairwise_singleton _ _) fun x => ?_
  rw [h2 x]
  unfold Both
  simp
  omega

theorem newI (l : List Int) (w : World) (hl : l.length ≤ 1000000) : InR (w.alloc (.cells (l.map (Value.int .i64)).toArray 3)) (some ⟨w.heap.size, 0, none⟩) l.length l := inR_new l (heap_alloc_new _ _) hl
theorem newM (l : List S48) (w : World) (hl : l.length ≤ 1000000) : MkI (w.alloc (.cells (l.flatMap fun m => [Value.int .i64 m.f0, .int .i64 m.f1]).toArray 48)) (some ⟨w.heap.size, 0, none⟩) l.length l := mkI_new l (heap_alloc_new _ _) hl
theorem rnA (w : World) : RN w tA none 0 := .nil _ _ _ rfl
theorem rnM (w : World) : RN (w.alloc (.cells #[.int .i64 20, .string ⟨#[97]⟩, .int .i64 0, .int .i64 0, .slice none 0 0] 24)) tM (some ⟨w.heap.size, 0, none⟩) 1 := by
  have h := heap_alloc_new w (.cells #[.int .i64 20, .string ⟨#[97]⟩, .int .i64 0, .int .i64 0, .slice none 0 0] 24)
  refine .mk tM w.heap.size 0 1 (fun _ => none) (fun _ => 0) (Nat.le_refl _) (by show 1 ≤ _; omega) (fun i hi => ?_) (fun i hi => ?_)
  · obtain rfl : i = 0 := by have : tM.kids.length = 1 := rfl; omega
    exact At5.of (t := tA) h
  · obtain rfl : i = 0 := by have : tM.kids.length = 1 := rfl; omega
    exact rnA _
theorem allocB (w : World) (o : Obj) : Below w.heap.size w (w.alloc o) := (Below.refl _ _).alloc (Nat.le_refl _) _

set_option maxRecDepth 100000 in
set_option maxHeartbeats 4000000 in
theorem awake (w : World) : Calls Tryd.prog 10 #[] w fun e w' => e = .returned (.bool true) ∧ Below w.heap.size w w' := by
  go_enter Tryd.func10, Tryd.ntmps10
  go_wp2_with fail
  have c1 := WinnowW [5, 3, 9, 3, 7] _ 5 3 _ (newI [5, 3, 9, 3, 7] w (by simp))
  rw [wnC, wnV] at c1
  refine c1.mono ?_
  rintro e w2 ⟨⟨v, rfl, hm⟩, hb⟩
  obtain ⟨A1, q1, rfl, hI1⟩ := hm.mkI
  have H2 := Lib.hid ((allocB w _).trans (hb.mono (allocB w _).size))
  have I1 := Lib.hid hI1
  clear c1 hm hI1 hb
  go_wp2_with fail
  have c2 := HashesW [1, 2, 3] _ 3 2 _ (newI [1, 2, 3] w2 (by simp))
  rw [hsC, hsV] at c2
  refine c2.mono ?_
  rintro e w3 ⟨⟨v, rfl, ho⟩, hb⟩
  obtain ⟨A2, q2, rfl, hI2⟩ := ho.inR
  have B3 := (allocB w2 _).trans (hb.mono (allocB w2 _).size)
  have H3 := Lib.hid (H2.out.trans (B3.mono H2.out.size))
  have I1 := Lib.hid (I1.out.below B3)
  have I2 := Lib.hid hI2
  clear c2 ho hI2 hb B3
  go_wp2_with fail
  have c3 := RollW 1000005 1 3 2 w3
  rw [rlC, rlV] at c3
  refine c3.mono ?_
  rintro e w4 ⟨rfl, hb⟩
  have H4 := Lib.hid (H3.out.trans (hb.mono H3.out.size))
  have I1 := Lib.hid (I1.out.below hb)
  have I2 := Lib.hid (I2.out.below hb)
  clear c3 hb
  go_wp2_with fail
  have c4 := SymbolsW PK _ (itPK _) 2 tM _ 1 _ (by rw [sizeM]; omega) (by rw [sizeM]; omega) allM (rnM w4) (Below.refl _ _)
  rw [lenM] at c4
  refine c4.mono ?_
  rintro e w5 ⟨⟨g5, q5, rfl, ho⟩, hb⟩
  have B5 := (allocB w4 _).trans (hb.mono (allocB w4 _).size)
  have H5 := Lib.hid (H4.out.trans (B5.mono H4.out.size))
  have I1 := Lib.hid (I1.out.below B5)
  have I2 := Lib.hid (I2.out.below B5)
  have x5 : w5.cell? ⟨g5, 2, none⟩ = some (.int .i64 0) := by
    unfold OwR at ho
    rw [lenM] at ho
    rw [ho.cellAt 2 (by omega)]
    unfold ints
    rw [List.getElem?_map, atM]; rfl
  have X5 := Lib.hid x5
  clear c4 ho hb B5 x5
  go_wp2_with fail
  have c6 := MarksW PK tA none 0 1 1 w5 (itPK _) (by rw [sizeA]; omega) allA (rnA _)
  rw [mkC] at c6
  refine c6.mono ?_
  rintro e w6 ⟨⟨v, rfl, hm⟩, hb⟩
  obtain ⟨A6, q6, rfl, hI6⟩ := hm.mkI
  have H6 := Lib.hid (H5.out.trans (hb.mono H5.out.size))
  have I1 := Lib.hid (I1.out.below hb)
  have I2 := Lib.hid (I2.out.below hb)
  have X6 := Lib.hid ((hb.cell (p := ⟨g5, 2, none⟩) (World.block_lt_of_cell? w5 _ X5.out)).trans X5.out)
  rw [mkL]
  clear c6 hm hI6 hb X5
  go_wp2_with fail
  have c7 := SameM [⟨3, 1⟩, ⟨3, 3⟩] [⟨3, 1⟩, ⟨3, 3⟩] A1 _ q1 2 _ (I1.out.below (allocB w6 _)) (newM [⟨3, 1⟩, ⟨3, 3⟩] w6 (by simp)) (by simp)
  refine c7.mono ?_
  rintro e w7 ⟨⟨r, rfl, hr⟩, hb⟩
  obtain rfl : r = true := hr.2 rfl
  have B7 := (allocB w6 _).trans (hb.below.mono (allocB w6 _).size)
  have H7 := Lib.hid (H6.out.trans (B7.mono H6.out.size))
  have I1 := Lib.hid (I1.out.below B7)
  have I2 := Lib.hid (I2.out.below B7)
  have X7 := Lib.hid ((B7.cell (p := ⟨g5, 2, none⟩) (World.block_lt_of_cell? w6 _ X6.out)).trans X6.out)
  clear c7 hr hb B7 X6
  go_wp2_with fail
  have c8 := SameI [1000005, 2000009] [1000005, 2000009] A2 _ q2 2 _ (I2.out.below (allocB w7 _)) (newI [1000005, 2000009] w7 (by simp)) (by simp)
  refine c8.mono ?_
  rintro e w8 ⟨⟨r, rfl, hr⟩, hb⟩
  obtain rfl : r = true := hr.2 rfl
  have B8 := (allocB w7 _).trans (hb.below.mono (allocB w7 _).size)
  have H8 := Lib.hid (H7.out.trans (B8.mono H7.out.size))
  have I1 := Lib.hid (I1.out.below B8)
  have X8 := Lib.hid ((B8.cell (p := ⟨g5, 2, none⟩) (World.block_lt_of_cell? w7 _ X7.out)).trans X7.out)
  clear c8 hr hb B8 X7 I2
  go_wp2_with fail
  have c9 := hashW [1, 2] (by simp) _ 2 _ (newI [1, 2] w8 (by simp))
  rw [h12] at c9
  refine c9.mono ?_
  rintro e w9 ⟨rfl, hb⟩
  have B9 := (allocB w8 _).trans (hb.below.mono (allocB w8 _).size)
  have H9 := Lib.hid (H8.out.trans (B9.mono H8.out.size))
  have I1 := Lib.hid (I1.out.below B9)
  have x9 := (B9.cell (p := ⟨g5, 2, none⟩) (World.block_lt_of_cell? w8 _ X8.out)).trans X8.out
  clear c9 hb B9 X8
  go_wp2_with fail
  have c10 := SharedW [⟨3, 1⟩, ⟨3, 3⟩] [⟨4, 0⟩, ⟨3, 9⟩] A1 _ q1 2 _ (I1.out.below (allocB w9 _)) (newM [⟨4, 0⟩, ⟨3, 9⟩] w9 (by simp)) (by simp) (by simp) (by intro m hm; simp at hm; rcases hm with rfl | rfl <;> exact WalkArith.wf_i64 (by simp)) (by intro m hm; simp at hm; rcases hm with rfl | rfl <;> exact WalkArith.wf_i64 (by simp))
  refine c10.mono ?_
  rintro e w10 ⟨⟨v, L, rfl, ho, hs, hL⟩, hb⟩
  obtain rfl : L = [3] := both3 hs hL
  obtain ⟨A3, q3, rfl, hI3⟩ := ho.inR
  have B10 := (allocB w9 _).trans (hb.mono (allocB w9 _).size)
  have H10 := Lib.hid (H9.out.trans (B10.mono H9.out.size))
  have I3 := Lib.hid hI3
  clear c10 hb B10 ho hs hL hI3 x9
  go_wp2_with fail
  have c11 := SameI [3] [3] A3 _ q3 1 _ (I3.out.below (allocB w10 _)) (newI [3] w10 (by simp)) (by simp)
  refine c11.mono ?_
  rintro e w11 ⟨⟨r, rfl, hr⟩, hb⟩
  obtain rfl : r = true := hr.2 rfl
  have B11 := (allocB w10 _).trans (hb.below.mono (allocB w10 _).size)
  have H11 := Lib.hid (H10.out.trans (B11.mono H10.out.size))
  clear c11 hb B11 hr
  go_wp2_with fail
  go_ret
  exact ⟨rfl, H11.out⟩
end Go.Proofs.YtpkjiimcoepjpaaDoor
