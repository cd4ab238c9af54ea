/- Hashes, walked. -/
import Derived.Test.YtpkjiimcoepjpaaDoorT8
namespace Go.Proofs.YtpkjiimcoepjpaaDoor
set_option linter.unusedVariables false
set_option linter.unusedSimpArgs false
open Go.RowKit Go.Proofs.YtpkjiimcoepjpaaDoorW.PrintWords
open PFingerprintSymbols (fingerprint_Hash.calls)

/-- a row of numbers, read -/
def InR (w : World) (A : Option Addr) (c : Nat) (l : List Int) : Prop :=
  l.length ≤ c ∧ l.length ≤ 9223372036854775807 ∧ (0 < l.length → ∃ b o, A = some ⟨b, o, none⟩ ∧ ∀ i (h : i < l.length), w.cell? ⟨b, o + i, none⟩ = some (.int .i64 l[i]))
theorem InR.below {w w1 : World} {A : Option Addr} {c : Nat} {l : List Int} (h : InR w A c l) (hb : Below w.heap.size w w1) : InR w1 A c l :=
  ⟨h.1, h.2.1, fun hp => by
    obtain ⟨b, o, e, hc⟩ := h.2.2 hp
    exact ⟨b, o, e, fun i hi => (hb.cell (p := ⟨b, o + i, none⟩) (World.block_lt_of_cell? w _ (hc i hi))).trans (hc i hi)⟩⟩
theorem InR.C {w : World} {A : Option Addr} {c : Nat} {l : List Int} (h : InR w A c l) : Kd.C (Kd.int .i64) w A l.length l := by
  refine Kd.C_of_reads (d := 0) ⟨rfl, h.2.1, fun hp => ?_⟩
  obtain ⟨b, o, e, hc⟩ := h.2.2 hp
  refine ⟨⟨b, o, none⟩, e, fun j hj => ?_⟩
  rw [Go.WideShapes.add_plain, List.getD_eq_getElem?_getD, List.getElem?_eq_getElem hj]
  exact hc j hj
theorem hashW (l : List Int) (hl : l.length ≤ 1000000) (A : Option Addr) (c : Nat) (w : World) (h : InR w A c l) : Calls Tryd.prog 17 #[.slice A l.length c] w fun e w' => e = .returned (.int .i64 (hashS l)) ∧ Drawn0 w w' := by
  obtain ⟨k, hk⟩ := hash_f l hl
  exact fingerprint_Hash.calls k A c l _ w h.C h.1 hk

/-- the hashes of all runs -/
def runs (l : List Int) (k : Nat) : List Int := (List.range (l.length + 1 - k)).map fun i => hashS ((l.drop i).take k)
def hashesC (l : List Int) (k : Int) : Int := if 1 ≤ k ∧ k ≤ 64 then (if l.length > 2048 then 8 else 0) else 2
def hashesV (l : List Int) (k : Int) : List Int := if 1 ≤ k ∧ k ≤ 64 ∧ l.length ≤ 2048 then runs l k.toNat else []
/-- a row of numbers of the call's own -/
def OwR (w : World) (base : Nat) (v : Value) (l : List Int) : Prop := w.ownsRow base 3 1 v l.length (ints l)
theorem OwR.nil (w : World) (base : Nat) : OwR w base (.slice none 0 0) [] := World.ownsRow_nil w base 3 1
theorem OwR.below {w w1 : World} {base : Nat} {v : Value} {l : List Int} (h : OwR w base v l) (hb : Below w.heap.size w w1) : OwR w1 base v l := ownKeep h hb

theorem InR.take {w : World} {A : Option Addr} {c : Nat} {l : List Int} (h : InR w A c l) (q : Nat) (hq : q ≤ l.length) : InR w A c (l.take q) := by
  have hl : (l.take q).length = q := by rw [List.length_take]; omega
  refine ⟨by have := h.1; omega, by have := h.2.1; omega, fun hp => ?_⟩
  obtain ⟨b, o, e, hc⟩ := h.2.2 (by omega)
  exact ⟨b, o, e, fun i hi => by rw [List.getElem_take]; exact hc i (by omega)⟩
theorem runs_len (l : List Int) (k : Nat) : (runs l k).length = l.length + 1 - k := by simp [runs]
theorem runs_get (l : List Int) (k i : Nat) (h : i < (runs l k).length) : (runs l k)[i] = hashS ((l.drop i).take k) := by simp [runs]
theorem runs_next (l : List Int) (m i : Nat) (h : i + 1 < (runs l (m + 1)).length) :
    rollS (pwS m) ((runs l (m + 1))[i]'(by omega)) (l[i]'(by rw [runs_len] at h; omega)) (l[m + 1 + i]'(by rw [runs_len] at h; omega)) = (runs l (m + 1))[i + 1] := by
  have h2 := h
  rw [runs_len] at h2
  rw [runs_get, runs_get]
  have e1 : (l.drop i).take (m + 1) = l[i] :: (l.drop (i + 1)).take m := by rw [List.drop_eq_getElem_cons (by omega)]; rfl
  have e2 : (l.drop (i + 1)).take (m + 1) = (l.drop (i + 1)).take m ++ [l[m + 1 + i]] := by
    rw [List.take_succ_eq_append_getElem (by rw [List.length_drop]; omega)]
    congr 2
    rw [List.getElem_drop]
    congr 1
    omega
  have e3 : ((l.drop (i + 1)).take m).length = m := by rw [List.length_take, List.length_drop]; omega
  have := roll_hash l[i] l[m + 1 + i] ((l.drop (i + 1)).take m)
  rw [e3] at this
  rw [e1, e2]
  exact this

set_option maxRecDepth 100000 in
set_option maxHeartbeats 4000000 in
theorem HashesW (l : List Int) (A : Option Addr) (c : Nat) (k : Int) (w : World) (h : InR w A c l) :
    Calls Tryd.prog 20 #[.slice A l.length c, .int .i64 k] w fun e w' => (∃ v, e = .returned (.tuple #[v, .int .i64 (hashesC l k)]) ∧ OwR w' w.heap.size v (hashesV l k)) ∧ Below w.heap.size w w' := by
  have HR := Lib.hid (rangedW k w)
  by_cases hk : 1 ≤ k ∧ k ≤ 64
  · have HR1 := HR.out
    rw [decide_eq_true hk] at HR1
    have HR2 := Lib.hid HR1
    clear HR HR1
    by_cases hn : l.length ≤ 2048
    · by_cases hkl : k ≤ l.length
      · obtain ⟨m, hm⟩ : ∃ m : Nat, k = ((m + 1 : Nat) : Int) := ⟨k.toNat - 1, by omega⟩
        obtain ⟨b, o, rfl, hcl⟩ := h.2.2 (by omega)
        have HRo := Lib.hid (fun W => rollerW m (by omega) W)
        rw [← hm] at HRo
        have HI := Lib.hid h
        have HCL := Lib.hid hcl
        have hlc := h.1
        have k0 : 0 ≤ k := by omega
        have hqk : k.toNat = m + 1 := by omega
        have hml : m + 1 ≤ l.length := by omega
        have HH := hashW (l.take (m + 1)) (by rw [List.length_take]; omega) (some ⟨b, o, none⟩) c
        rw [List.length_take, Nat.min_eq_left hml] at HH
        have HHW := Lib.hid (fun W (hb : Below w.heap.size w W) => HH W ((h.below hb).take (m + 1) hml))
        have hv : hashesV l k = runs l (m + 1) := by unfold hashesV; rw [if_pos ⟨hk.1, hk.2, hn⟩, hqk]
        have hc : hashesC l k = 0 := by unfold hashesC; rw [if_pos hk, if_neg (by omega)]
        have HV := Lib.hid (And.intro hv hc)
        have hm64 : m ≤ 63 := by omega
        have HPB := Lib.hid (pwS_bd m)
        clear h hcl hm HH hv hc
        have HQK := Lib.hid hqk
        have hcm : c = m + 1 → l.length = m + 1 := fun e => by omega
        clear hqk
        go_enter Tryd.func20, Tryd.ntmps20
        go_wp2_with fail
        refine HR2.out.mono ?_
        rintro e w1 ⟨rfl, hb⟩
        have HB := Lib.hid hb.below
        clear hb
        go_wp2_with fail
        rw [HQK.out]
        refine (HHW.out w1 HB.out).mono ?_
        rintro e w2 ⟨rfl, hb⟩
        have HB2 := Lib.hid (HB.out.trans (hb.below.mono HB.out.size))
        clear hb
        go_wp2_with fail
        obtain ⟨w3, hw3⟩ : ∃ w3, w2.alloc (.cells #[.int .i64 (hashS (l.take (m + 1)))] 3) = w3 := ⟨_, rfl⟩
        have hn3 : w3.heap[w2.heap.size]? = some (.cells #[.int .i64 (hashS (l.take (m + 1)))] 3 (0, 0)) := by rw [← hw3]; exact heap_alloc_new _ _
        have hb3 : Below w2.heap.size w2 w3 := by rw [← hw3]; exact (Below.refl _ _).alloc (Nat.le_refl _) _
        have hz3 : w3.heap.size = w2.heap.size + 1 := by rw [← hw3]; simp
        rw [hw3]
        clear hw3
        refine (HRo.out w3).mono ?_
        rintro e w4 ⟨⟨bq, rfl, hbq, hcell⟩, hb4⟩
        have hb04 : Below w.heap.size w w4 := (HB2.out.trans (hb3.mono HB2.out.size)).trans (hb4.mono (Nat.le_trans HB2.out.size hb3.size))
        have hn4 : w4.heap[w2.heap.size]? = some (.cells #[.int .i64 (hashS (l.take (m + 1)))] 3 (0, 0)) := (hb4.block _ (by omega)).trans hn3
        have hne : w2.heap.size ≠ bq := by omega
        have hwz := HB2.out.size
        have H4 := Lib.hid (And.intro hb04 (And.intro hcell hn4))
        clear hb04 hn4 hn3 hb3 hb4 hbq hcell
        have hmI : ((m : Int) + 1) ≤ (l.length : Int) := by omega
        by_cases hck : c = k.toNat
        · have hl0 : l.length - k.toNat = 0 := by omega
          go_wp2_with fail
          go_loopw [6, 34] (fun v s wr => ∃ (i g cap : Nat), s = .int .i64 (i : Nat) ∧ v = .slice (some ⟨g, 0, none⟩) (i + 1) cap ∧ i ≤ l.length - k.toNat ∧ g ≠ bq ∧ Hid (wr.ownsRow w.heap.size 3 1 (.slice (some ⟨g, 0, none⟩) (i + 1) cap) (i + 1) (ints ((runs l (m + 1)).take (i + 1))) ∧ Below w.heap.size w wr ∧ wr.cell? ⟨bq, 0, none⟩ = some (.int .i64 (pwS m)))) (fun _ s _ => l.length - k.toNat - (intOf s).toNat)
          case atStart =>
            refine ⟨0, w2.heap.size, 1, rfl, rfl, Nat.zero_le _, hne, Lib.hid ⟨?_, H4.out.1, H4.out.2.1⟩⟩
            have e1 : (runs l (m + 1)).take (0 + 1) = [hashS (l.take (m + 1))] := by
              rw [List.take_succ_eq_append_getElem (by rw [runs_len]; omega), runs_get]; simp
            rw [e1]
            exact ⟨rfl, .inr ⟨w2.heap.size, 1, _, rfl, hwz, H4.out.2.2, Nat.le_refl _, by simp [maxLen], rfl, rfl⟩⟩
          case round =>
            clear H4 hne
            obtain ⟨i, g, cap, rfl, rfl, hi, hgb, H⟩ := hrel
            have hqk := HQK.out
            by_cases hlt : i < l.length - k.toNat
            · exact absurd hlt (by omega)
            · obtain rfl : i = l.length - k.toNat := by omega
              clear hqk
              go_wp2_with fail
              go_ret2
              have hqk := HQK.out
              refine ⟨⟨.slice (some ⟨g, 0, none⟩) (l.length - k.toNat + 1) cap, by rw [HV.out.2]; rfl, ?_⟩, H.out.2.1⟩
              have h := H.out.1
              rw [hqk] at h
              have hl : (runs l (m + 1)).length = l.length - (m + 1) + 1 := by rw [runs_len]; omega
              rw [List.take_of_length_le (by omega)] at h
              unfold OwR
              rw [HV.out.1, hl]
              rw [hqk]
              exact h
        · go_wp2_with fail
          go_loopw [6, 34] (fun v s wr => ∃ (i g cap : Nat), s = .int .i64 (i : Nat) ∧ v = .slice (some ⟨g, 0, none⟩) (i + 1) cap ∧ i ≤ l.length - k.toNat ∧ g ≠ bq ∧ Hid (wr.ownsRow w.heap.size 3 1 (.slice (some ⟨g, 0, none⟩) (i + 1) cap) (i + 1) (ints ((runs l (m + 1)).take (i + 1))) ∧ Below w.heap.size w wr ∧ wr.cell? ⟨bq, 0, none⟩ = some (.int .i64 (pwS m)))) (fun _ s _ => l.length - k.toNat - (intOf s).toNat)
          case atStart =>
            refine ⟨0, w2.heap.size, 1, rfl, rfl, Nat.zero_le _, hne, Lib.hid ⟨?_, H4.out.1, H4.out.2.1⟩⟩
            have e1 : (runs l (m + 1)).take (0 + 1) = [hashS (l.take (m + 1))] := by
              rw [List.take_succ_eq_append_getElem (by rw [runs_len]; omega), runs_get]; simp
            rw [e1]
            exact ⟨rfl, .inr ⟨w2.heap.size, 1, _, rfl, hwz, H4.out.2.2, Nat.le_refl _, by simp [maxLen], rfl, rfl⟩⟩
          case round =>
            clear H4 hne
            obtain ⟨i, g, cap, rfl, rfl, hi, hgb, H⟩ := hrel
            have hqk := HQK.out
            by_cases hlt : i < l.length - k.toNat
            · have hir : i + 1 < (runs l (m + 1)).length := by rw [runs_len]; omega
              have h1 : i < l.length := by omega
              have h2 : m + 1 + i < l.length := by omega
              have hb0 : Below w.heap.size w wr := H.out.2.1
              have hblt := World.block_lt_of_cell? w _ (HCL.out 0 (by omega))
              have c1 : wr.cell? ⟨b, o + i, none⟩ = some (.int .i64 l[i]) := (hb0.cell (p := ⟨b, o + i, none⟩) hblt).trans (HCL.out i h1)
              have c2 : wr.cell? ⟨b, o + k.toNat + i, none⟩ = some (.int .i64 l[m + 1 + i]) := by
                rw [hqk, Nat.add_assoc]
                exact (hb0.cell (p := ⟨b, o + (m + 1 + i), none⟩) hblt).trans (HCL.out (m + 1 + i) h2)
              obtain ⟨si, hsi⟩ : ∃ si, l[i] = si := ⟨_, rfl⟩
              obtain ⟨nx, hnx⟩ : ∃ nx, l[m + 1 + i] = nx := ⟨_, rfl⟩
              obtain ⟨hi', hhi⟩ : ∃ hi', (runs l (m + 1))[i] = hi' := ⟨_, rfl⟩
              have hnew := runs_next l m i hir
              rw [hsi, hnx, hhi] at hnew
              rw [hsi] at c1
              rw [hnx] at c2
              have hbd := hashS_bd ((l.drop i).take (m + 1))
              rw [← runs_get l (m + 1) i (by omega), hhi] at hbd
              have hat : wr.cell? ⟨g, i, none⟩ = some (.int .i64 hi') := by
                rw [H.out.1.cellAt i (by omega)]
                unfold ints
                rw [List.getElem?_map, List.getElem?_take, if_pos (by omega), List.getElem?_eq_getElem (by omega), hhi]; rfl
              have OK : P12.Ok ⟨wr, w.heap.size, g, i + 1, cap, (runs l (m + 1)).take (i + 1), bq, pwS m, i, hi', si, nx, b, o, l.length, c⟩ :=
                ⟨H.out.1, hb0.size, H.out.2.2, HPB.out.1, HPB.out.2, hbd.1, hbd.2, Nat.lt_succ_self i, hat, h1, c1, by show i + 1 ≤ 1000000; omega⟩
              have HOK := Lib.hid OK
              have HNEW := Lib.hid hnew
              clear hqk hsi hnx hhi hnew hbd hat OK c1
              go_wp2_with fail
              refine region12 ⟨wr, w.heap.size, g, i + 1, cap, (runs l (m + 1)).take (i + 1), bq, pwS m, i, hi', si, nx, b, o, l.length, c⟩ HOK.out _ (by rfl) (by rfl) (by rfl) (by rfl) (by rfl) (by rfl) _ wr (Below.refl _ _) ?_
              intro f W g' cap' e13 e14 ho hbl hot hgg
              simp only [ds12, setAll, List.setIfInBounds_toArray, List.set_cons_zero, List.set_cons_succ, Nat.zero_add, Nat.reduceAdd]
              rw [e14, e13]
              have hblt2 := World.block_lt_of_cell? wr _ H.out.2.2
              dsimp only at ho hbl hot hgg hblt2 ⊢
              have HW := Lib.hid (And.intro ho (And.intro hbl (And.intro hot hgg)))
              clear ho hbl hot hgg e13 e14
              go_wp2_with fail
              go_roundw
              case rel =>
                obtain ⟨ho, hbl, hot, hgg⟩ := HW.out
                refine ⟨i + 1, g', cap', by go_num, rfl, by omega, by omega, Lib.hid ⟨?_, H.out.2.1.trans hbl, ?_⟩⟩
                · have e : (runs l (m + 1)).take (i + 1 + 1) = (runs l (m + 1)).take (i + 1) ++ [rollS (pwS m) hi' si nx] := by
                    rw [List.take_succ_eq_append_getElem hir, HNEW.out]
                  rw [e]
                  exact ho
                · exact (World.cell?_of_block (hot bq hblt2 (Ne.symm hgb))).trans H.out.2.2
              case measure => simp [intOf]; omega
            · obtain rfl : i = l.length - k.toNat := by omega
              clear hqk
              go_wp2_with fail
              go_ret2
              have hqk := HQK.out
              refine ⟨⟨.slice (some ⟨g, 0, none⟩) (l.length - k.toNat + 1) cap, by rw [HV.out.2]; rfl, ?_⟩, H.out.2.1⟩
              have h := H.out.1
              rw [hqk] at h
              have hl : (runs l (m + 1)).length = l.length - (m + 1) + 1 := by rw [runs_len]; omega
              rw [List.take_of_length_le (by omega)] at h
              unfold OwR
              rw [HV.out.1, hl]
              rw [hqk]
              exact h
      · have hv : hashesV l k = [] := by
          unfold hashesV; rw [if_pos ⟨hk.1, hk.2, hn⟩]; unfold runs
          rw [show l.length + 1 - k.toNat = 0 by omega]; rfl
        have hc : hashesC l k = 0 := by unfold hashesC; rw [if_pos hk, if_neg (by omega)]
        have HV := Lib.hid (And.intro hv hc)
        clear hv hc h
        go_enter Tryd.func20, Tryd.ntmps20
        go_wp2_with fail
        refine HR2.out.mono ?_
        rintro e w1 ⟨rfl, hb⟩
        have HB := Lib.hid hb.below
        clear hb
        go_wp2_with fail
        go_ret2
        exact ⟨⟨.slice none 0 0, by rw [HV.out.2]; rfl, by rw [HV.out.1]; exact OwR.nil _ _⟩, HB.out⟩
    · have hv : hashesV l k = [] := by unfold hashesV; rw [if_neg (by omega)]
      have hc : hashesC l k = 8 := by unfold hashesC; rw [if_pos hk, if_pos (by omega)]
      have HV := Lib.hid (And.intro hv hc)
      clear hv hc h
      go_enter Tryd.func20, Tryd.ntmps20
      go_wp2_with fail
      refine HR2.out.mono ?_
      rintro e w1 ⟨rfl, hb⟩
      have HB := Lib.hid hb.below
      clear hb
      go_wp2_with fail
      go_ret2
      exact ⟨⟨.slice none 0 0, by rw [HV.out.2]; rfl, by rw [HV.out.1]; exact OwR.nil _ _⟩, HB.out⟩
  · have hv : hashesV l k = [] := by unfold hashesV; rw [if_neg (by omega)]
    have hc : hashesC l k = 2 := by unfold hashesC; rw [if_neg hk]
    have HV := Lib.hid (And.intro hv hc)
    have HR1 := HR.out
    rw [decide_eq_false hk] at HR1
    have HR2 := Lib.hid HR1
    clear HR HR1 hv hc h
    go_enter Tryd.func20, Tryd.ntmps20
    go_wp2_with fail
    refine HR2.out.mono ?_
    rintro e w1 ⟨rfl, hb⟩
    have HB := Lib.hid hb.below
    clear hb
    go_wp2_with fail
    go_ret2
    exact ⟨⟨.slice none 0 0, by rw [HV.out.2]; rfl, by rw [HV.out.1]; exact OwR.nil _ _⟩, HB.out⟩
end Go.Proofs.YtpkjiimcoepjpaaDoor
