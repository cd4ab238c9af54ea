import Derived.Test.YtjijfgkmjachnaaT40
namespace Go.Proofs.Ytjijfgkmjachnaa
set_option linter.unusedVariables false
set_option linter.unusedSimpArgs false
open Go.RowKit

/-- the first least -/
def nearF (a : Nd) : List Nd → Nat → Int × Int → Int × Int
  | [], _, p => p
  | x :: xs, i, p => nearF a xs (i + 1) (if p.2 < 0 ∨ (td a x : Nat) < p.2 then ((i : Nat), (td a x : Nat)) else p)
def near (a : Nd) (l : List Nd) : Int × Int := nearF a l 0 (0, -1)
theorem nearF_append (a : Nd) (xs ys : List Nd) : ∀ i p, nearF a (xs ++ ys) i p = nearF a ys (i + xs.length) (nearF a xs i p) := by
  induction xs with
  | nil => intro i p; rfl
  | cons x xs ih => intro i p; simp only [List.cons_append, nearF, ih, List.length_cons]; congr 1; omega
theorem nearF_take (a : Nd) (l : List Nd) (k : Nat) (h : k < l.length) (p : Int × Int) : nearF a (l.take (k + 1)) 0 p =
    (if (nearF a (l.take k) 0 p).2 < 0 ∨ (td a l[k] : Nat) < (nearF a (l.take k) 0 p).2 then (((k : Nat) : Int), ((td a l[k] : Nat) : Int)) else nearF a (l.take k) 0 p) := by
  rw [List.take_succ_eq_append_getElem h, nearF_append]
  simp only [nearF, List.length_take, Nat.min_eq_left (Nat.le_of_lt h), Nat.zero_add]

def nearR (a : Nd) (l : List Nd) : Value := .tuple (if bigAny [a] || bigAny l then #[.int .i64 0, .int .i64 0, .int .i64 8] else if l = [] then #[.int .i64 0, .int .i64 0, .int .i64 7] else #[.int .i64 (near a l).1, .int .i64 (near a l).2, .int .i64 0])
theorem RN.one {W : World} {m : Nat} {a : Nd} {A : Option Addr} {cA : Nat} (hA : RN W a A cA)
    (h : W.heap[m]? = some (.cells (cells5 a A cA).toArray 24 (0, 0))) : RN W (asN [a]) (some ⟨m, 0, none⟩) 1 := by
  have hc : ∀ o v, (cells5 a A cA)[o]? = some v → W.cell? ⟨m, o, none⟩ = some v := fun o v e => by
    unfold World.cell?; rw [h]; simpa using e
  refine .mk (asN [a]) m 0 1 (fun i => A) (fun i => cA) (by simp [asN, Nd.kids]) (by simp [asN, Nd.kids]) (fun i hi => ?_) (fun i hi => ?_)
  · have : i = 0 := by simp [asN, Nd.kids] at hi; omega
    subst this
    exact ⟨hc _ _ rfl, hc _ _ rfl, hc _ _ rfl, hc _ _ rfl, hc _ _ rfl⟩
  · have : i = 0 := by simp [asN, Nd.kids] at hi; omega
    subst this
    exact hA

set_option maxRecDepth 100000 in
set_option maxHeartbeats 1000000 in
theorem Nearest (a : Nd) (l : List Nd) (A B : Option Addr) (cA cB : Nat) (w : World) (hA : RN w a A cA) (hB : RN w (asN l) B cB) (ha : a.size ≤ 1000000) (hb : ∀ t ∈ l, t.size ≤ 1000000) (hl : l.length ≤ 1024) :
    Calls Try.prog 24 #[a.val A cA, .slice B l.length cB] w fun e w' => e = .returned (nearR a l) ∧ Below w.heap.size w w' := by
  have HL : ∀ (w1 : World) (m : Nat), Below w.heap.size w w1 → w1.heap[m]? = some (.cells (cells5 a A cA).toArray 24 (0, 0)) →
      Calls Try.prog 29 #[.slice (some ⟨m, 0, none⟩) 1 1] w1 fun e w' => e = .returned (.bool (bigAny [a])) ∧ Below w1.heap.size w1 w' := fun w1 m h1 h2 =>
    large [a] _ 1 w1 (RN.one (RN.keep h1 hA) h2) (by simp; omega)
  have HL2 : ∀ (w1 : World), Below w.heap.size w w1 → Calls Try.prog 29 #[.slice B l.length cB] w1 fun e w' => e = .returned (.bool (bigAny l)) ∧ Below w1.heap.size w1 w' := fun w1 h1 =>
    large l B cB w1 (RN.keep h1 hB) (fun t ht => by have := hb t ht; omega)
  have HS : ∀ (w1 : World) (b : Nd) (B : Option Addr) (cB : Nat), Below w.heap.size w w1 → b.size ≤ 1000000 → RN w1 b B cB → Calls Try.prog 30 #[a.val A cA, b.val B cB] w1 fun e w' => ∃ g bs T, e = .returned (.slice (some ⟨g, 0, none⟩) a.size a.size) ∧ Tab w' w1.heap.size g bs a.size b.size T ∧ SubT a b T ∧ Below w1.heap.size w1 w' :=
    fun w1 b B cB h1 hb hB => subtrees a b A B cA cB w1 (RN.keep h1 hA) hB ha hb
  have hpa := a.size_pos
  unfold Nd.val at HS ⊢
  have HL := Lib.hid HL
  have HL2 := Lib.hid HL2
  have HS := Lib.hid HS
  have HRB := Lib.hid hB
  have HSB := Lib.hid hb
  clear hA hB hb
  have hlz : ¬ (1024 : Int) < l.length := by omega
  go_enter Try.func24, Try.ntmps24
  go_wp2_with fail
  refine (HL.out _ _ ?_ ?_).mono ?_
  · exact ((Below.refl _ _).alloc (Nat.le_refl _) _).alloc (by simp) _
  · have := heap_alloc_new (w.alloc (.cells (cells5 a A cA).toArray 24)) (.cells (cells5 a A cA).toArray 24)
    simpa [cells5] using this
  rintro e w' ⟨rfl, hb1⟩
  have hbw : Below w.heap.size w w' := (((Below.refl _ _).alloc (Nat.le_refl _) _).alloc (by simp) _).trans (hb1.mono (by simp; omega))
  have h0 : ((w.alloc (.cells (cells5 a A cA).toArray 24)).alloc (.cells (cells5 a A cA).toArray 24)).heap[w.heap.size]? = some (.cells (cells5 a A cA).toArray 24 (0, 0)) := by
    rw [Below.heap_alloc _ _ _ (by simp)]; exact heap_alloc_new _ _
  have p1 : At5 w' w.heap.size 0 a A cA := At5.keep (At5.of h0) hb1 (by simp; omega)
  have HP1 := Lib.hid p1
  have HB := Lib.hid hbw
  clear hb1 hbw h0 HL p1
  cases hq : bigAny [a] with
  | true =>
    have HQ := Lib.hid hq
    clear hq
    go_wp2_with fail
    go_ret3
    exact ⟨by simp [nearR, HQ.out], HB.out⟩
  | false =>
    have HQ := Lib.hid hq
    clear hq
    go_wp2_with fail
    refine (HL2.out w' HB.out).mono ?_
    rintro e w2 ⟨rfl, hb2⟩
    have HB2 := Lib.hid (HB.out.trans (hb2.mono HB.out.size))
    have HP2 := Lib.hid (At5.keep HP1.out hb2 HP1.out.lt)
    clear hb2 HP1 HB HL2
    cases hq2 : bigAny l with
    | true =>
      have HQ2 := Lib.hid hq2
      clear hq2
      go_wp2_with fail
      go_ret3
      exact ⟨by simp [nearR, HQ.out, HQ2.out], HB2.out⟩
    | false =>
      have HQ2 := Lib.hid hq2
      clear hq2
      by_cases hl0 : l = []
      · have hlen : l.length = 0 := by rw [hl0]; rfl
        have HL0 := Lib.hid hl0
        rw [hlen]
        clear hl0 hlen
        go_wp2_with fail
        go_ret3
        have hn : nearR a l = .tuple #[.int .i64 0, .int .i64 0, .int .i64 7] := by unfold nearR; rw [HQ.out, HQ2.out, if_neg (by simp), if_pos HL0.out]
        exact ⟨by rw [hn]; rfl, HB2.out⟩
      · have hpos : 0 < (l.length : Int) := by have := List.length_pos_iff.2 hl0; omega
        have hne : ¬ (l.length : Int) = 0 := by omega
        have HL0 := Lib.hid hl0
        clear hl0
        go_wp2_with fail
        rw [show ((l.length : Int) == 0) = false by simpa using hne]
        clear hne hpos
        go_loopw [7, 8, 31] (fun x y s wr => ∃ k : Nat, s = .int .i64 k ∧ k ≤ l.length ∧ x = .int .i64 (nearF a (l.take k) 0 (0, -1)).1 ∧ y = .int .i64 (nearF a (l.take k) 0 (0, -1)).2 ∧ -1 ≤ (nearF a (l.take k) 0 (0, -1)).2 ∧ Below w.heap.size w wr ∧ At5 wr w.heap.size 0 a A cA)
          (fun _ _ s _ => l.length - (intOf s).toNat)
        case atStart => exact ⟨0, rfl, Nat.zero_le _, rfl, rfl, by simp [nearF], HB2.out, HP2.out⟩
        case round =>
          obtain ⟨k, rfl, hk, rfl, rfl, hge, hbl, hat⟩ := hrel
          by_cases hlt : k < l.length
          · have hkn : (k : Int) < l.length := by omega
            obtain ⟨bb, oo, As, cs, rfl, hcell, hsub⟩ : ∃ bb oo, ∃ (As : Nat → Option Addr) (cs : Nat → Nat), B = some ⟨bb, oo, none⟩ ∧ (∀ (i : Nat) (h : i < l.length), At5 w bb (oo + i * 5) l[i] (As i) (cs i)) ∧ (∀ (i : Nat) (h : i < l.length), RN w l[i] (As i) (cs i)) := by
              rcases HRB.out with ⟨_, b, o, _, As, cs, hc, hm, hcell, hsub⟩ | ⟨_, _, _, h⟩
              · exact ⟨b, o, As, cs, rfl, hcell, hsub⟩
              · rw [asN_kids] at h; rw [h] at hlt; simp at hlt
            have q := At5.keep (hcell k hlt) hbl (hcell k hlt).lt
            have hr := RN.keep hbl (hsub k hlt)
            have hkz := HSB.out _ (List.getElem_mem hlt)
            have HSS := Lib.hid (hkz)
            have hnt := nearF_take a l k hlt (0, -1)
            have HNT := Lib.hid hnt
            obtain ⟨t, ht⟩ : ∃ t, l[k] = t := ⟨_, rfl⟩
            rw [ht] at q hr HSS HNT
            have htp := t.size_pos
            obtain ⟨q0, q1, q2, q3, q4⟩ := q
            have hat2 := At5.keep hat ((Below.refl wr.heap.size wr).alloc (Nat.le_refl _) (.cells #[.int .i64 t.kind, .string t.text, .int .i64 t.pos, .int .i64 t.fin, .slice (As k) t.kids.length (cs k)] 24)) hat.lt
            obtain ⟨s0, s1, s2, s3, s4⟩ := hat2
            obtain ⟨r0, r1, r2, r3, r4⟩ := hat
            have HAT := Lib.hid (show At5 wr w.heap.size 0 a A cA from ⟨r0, r1, r2, r3, r4⟩)
            have HHR := Lib.hid hr
            have HBL := Lib.hid hbl
            obtain ⟨N, hN⟩ : ∃ N, nearF a (l.take k) 0 (0, -1) = N := ⟨_, rfl⟩
            rw [hN] at HNT hge ⊢
            clear hcell hsub hr hbl hkz hnt ht hN
            go_wp2_with fail
            refine (HS.out _ t (As k) (cs k) (HBL.out.alloc HBL.out.size _) HSS.out (RN.keep ((Below.refl _ _).alloc (Nat.le_refl _) _) HHR.out)).mono ?_
            rintro e w3 ⟨g, bs, T, rfl, hT, hS, hb3⟩
            have z0 := hT.outer 0 hpa
            have z1 := hT.inner 0 0 hpa htp
            rw [hS.zero] at z1
            have hsz : (0 : Int) < a.size := by omega
            have hsz' : (0 : Int) < t.size := by omega
            have HB3 := Lib.hid ((HBL.out.alloc HBL.out.size _).trans (hb3.mono (HBL.out.alloc HBL.out.size _).size))
            have HAT3 := Lib.hid (At5.keep (At5.keep HAT.out ((Below.refl _ _).alloc (Nat.le_refl _) _) HAT.out.lt) hb3 (Nat.lt_of_lt_of_le HAT.out.lt (by simp)))
            clear hT hS hb3 s0 s1 s2 s3 s4 r0 r1 r2 r3 r4 q0 q1 q2 q3 q4
            obtain ⟨d, hd⟩ : ∃ d : Nat, td a t = d := ⟨_, rfl⟩
            rw [hd] at z1 HNT
            by_cases c1 : N.2 < 0
            · go_wp2_with fail
              go_roundw
              case rel =>
                have e := HNT.out
                rw [if_pos (.inl c1)] at e
                exact ⟨k + 1, by go_num, by omega, by rw [e], by rw [e], by rw [e]; show (-1 : Int) ≤ (d : Nat); omega, HB3.out, HAT3.out⟩
              case measure => simp [intOf]; omega
            · by_cases c2 : (d : Int) < N.2
              · go_wp2_with fail
                go_roundw
                case rel =>
                  have e := HNT.out
                  rw [if_pos (.inr c2)] at e
                  exact ⟨k + 1, by go_num, by omega, by rw [e], by rw [e], by rw [e]; show (-1 : Int) ≤ (d : Nat); omega, HB3.out, HAT3.out⟩
                case measure => simp [intOf]; omega
              · go_wp2_with fail
                go_roundw
                case rel =>
                  have e := HNT.out
                  rw [if_neg (by omega)] at e
                  exact ⟨k + 1, by go_num, by omega, by rw [e], by rw [e], by rw [e]; exact hge, HB3.out, HAT3.out⟩
                case measure => simp [intOf]; omega
          · obtain rfl : k = l.length := by omega
            rw [List.take_length]
            clear hat
            go_wp2_with fail
            go_ret3
            have hn : nearR a l = .tuple #[.int .i64 (near a l).1, .int .i64 (near a l).2, .int .i64 0] := by unfold nearR; rw [HQ.out, HQ2.out, if_neg (by simp), if_neg HL0.out]
            exact ⟨by rw [hn]; rfl, hbl⟩
end Go.Proofs.Ytjijfgkmjachnaa
