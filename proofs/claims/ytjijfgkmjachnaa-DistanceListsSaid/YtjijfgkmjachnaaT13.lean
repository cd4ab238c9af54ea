import Derived.Test.YtjijfgkmjachnaaT12
namespace Go.Proofs.Ytjijfgkmjachnaa
set_option linter.unusedVariables false
set_option linter.unusedSimpArgs false
open Go.RowKit

theorem Keeps.trans' {S S' : Nat → Prop} {a b c : World} (h : Keeps S a b) (k : Keeps S' b c) (hs : ∀ i, i < a.heap.size → S' i → S i) : Keeps S a c :=
  ⟨k.os.trans h.os, k.tape.trans h.tape, k.output.trans h.output, Nat.le_trans h.size k.size, fun i hi hn => (k.block i (Nat.lt_of_lt_of_le hi h.size) (fun e => hn (hs i hi e))).trans (h.block i hi hn)⟩

/-- What the walk may write. -/
def wr8 (bn bf : Nat) (vL vF vN : Value) (b : Nat) : Prop := b = bn ∨ b = bf ∨ rb vL vF vN b

theorem St.lts {B : Nat} {W : World} {bn bf bw : Nat} {xs : List Ent} {m : Nat} {vL vF vN : Value} (h : St B W bn bf bw xs m vL vF vN) : ∀ b, wr8 bn bf vL vF vN b → B ≤ b ∧ b < W.heap.size := by
  intro b hb
  rcases hb with rfl | rfl | hb | hb | hb
  · exact ⟨h.Bn, hlt h.num⟩
  · exact ⟨h.Bf, hlt h.fbx⟩
  · obtain ⟨h1, cur, h2⟩ := own_block_at h.oL hb; exact ⟨h1, hlt h2⟩
  · obtain ⟨h1, cur, h2⟩ := own_block_at h.oF hb; exact ⟨h1, hlt h2⟩
  · obtain ⟨h1, cur, h2⟩ := own_block_at h.oN hb; exact ⟨h1, hlt h2⟩
theorem St.alloc {B : Nat} {W : World} {bn bf bw : Nat} {xs : List Ent} {m : Nat} {vL vF vN : Value} (h : St B W bn bf bw xs m vL vF vN) (o : Obj) : St B (W.alloc o) bn bf bw xs m vL vF vN :=
  ⟨(Below.heap_alloc _ _ _ (hlt h.num)).trans h.num, (Below.heap_alloc _ _ _ (hlt h.fbx)).trans h.fbx, (Below.heap_alloc _ _ _ (hlt h.wbx)).trans h.wbx, h.oL.alloc _, h.oF.alloc _, h.oN.alloc _, h.ne, h.nF, h.nN, h.Bn, h.Bf, h.Bw⟩
theorem St.drewN {B : Nat} {W : World} {bn bf bw : Nat} {xs : List Ent} {m : Nat} {vL vF vN : Value} (h : St B W bn bf bw xs m vL vF vN) (n : Nat) : St B (W.drewN n) bn bf bw xs m vL vF vN :=
  ⟨h.num, h.fbx, h.wbx, h.oL, h.oF, h.oN, h.ne, h.nF, h.nN, h.Bn, h.Bf, h.Bw⟩
theorem St.count {B : Nat} {W : World} {bn bf bw : Nat} {xs : List Ent} {m : Nat} {vL vF vN : Value} (h : St B W bn bf bw xs m vL vF vN) (m' : Nat) : St B (W.setCell ⟨bn, 0, none⟩ (.int .i64 (m' : Nat))) bn bf bw xs m' vL vF vN := by
  have hs : ∀ k, k ≠ bn → (W.setCell ⟨bn, 0, none⟩ (.int .i64 (m' : Nat))).heap[k]? = W.heap[k]? := fun k hk => Below.heap_setCell _ _ _ _ hk
  refine ⟨by simp [World.setCell, Array.getElem?_modify, h.num], (hs _ (heap_ne_type h.fbx h.num (by decide))).trans h.fbx, (hs _ (heap_ne_type h.wbx h.num (by decide))).trans h.wbx, own_move h.oL (fun k hk => ?_), own_move h.oF (fun k hk => ?_), own_move h.oN (fun k hk => ?_), h.ne, h.nF, h.nN, h.Bn, h.Bf, h.Bw⟩
  · obtain ⟨_, cur, hc⟩ := own_block_at h.oL hk; exact hs _ (heap_ne_type hc h.num (by decide))
  · exact hs _ (fun e => h.nF (by rw [hk, e]))
  · exact hs _ (fun e => h.nN (by rw [hk, e]))

/-- after j kids -/
structure L43 (B : Nat) (W wr : World) (bn bf bw : Nat) (t : Nd) (A : Option Addr) (c : Nat) (xs : List Ent) (m j : Nat) (vL vF vN : Value) : Prop where
  ex : ∃ vL1 vF1 vN1, St B wr bn bf bw (xs ++ postK (t.kids.take j) xs.length (m + 1)) (m + 1 + Nd.sizes (t.kids.take j)) vL1 vF1 vN1 ∧ ∀ b, rb vL1 vF1 vN1 b → rb vL vF vN b ∨ W.heap.size + 1 ≤ b
  kp : Keeps (wr8 bn bf vL vF vN) W wr
  sz : W.heap.size < wr.heap.size
  bx : wr.heap[W.heap.size]? = some (.cells #[.int .i64 t.kind, .string t.text, .int .i64 t.pos, .int .i64 t.fin, .slice A t.kids.length c] 24 (0, 0))

set_option maxRecDepth 100000 in
set_option maxHeartbeats 4000000 in
theorem walk (w0 : World) (bn bf bw : Nat) (n : Nat) : ∀ (t : Nd) (A : Option Addr) (c : Nat) (xs : List Ent) (m : Nat) (vL vF vN : Value) (W : World), t.size ≤ n → RN w0 t A c → Below w0.heap.size w0 W →
    St w0.heap.size W bn bf bw xs m vL vF vN → xs.length + t.size ≤ 1000000 → m + t.size ≤ 1000000 →
    Calls Try.prog 43 #[t.val A c, .pointer (some ⟨bn, 0, none⟩), .pointer (some ⟨bf, 0, none⟩), .pointer (some ⟨bw, 0, none⟩)] W fun e W' => e = .returned (.tuple #[]) ∧
      ∃ vL' vF' vN', St w0.heap.size W' bn bf bw (xs ++ post t xs.length m) (m + t.size) vL' vF' vN' ∧ Keeps (wr8 bn bf vL vF vN) W W' ∧ ∀ b, rb vL' vF' vN' b → rb vL vF vN b ∨ W.heap.size ≤ b := by
  induction n with
  | zero => intro t A c xs m vL vF vN W h; have := t.size_pos; omega
  | succ n ih =>
    intro t A c xs m vL vF vN W hn hR hbw hS hx hm
    have hlen := hR.len
    obtain ⟨AL, cL, hAL, hcl⟩ := own_form hS.oL
    have hfL : ∃ A c, vL = .slice A xs.length c := ⟨AL, cL, hAL⟩
    have hfF : ∃ A c, vF = .slice A xs.length c := by obtain ⟨A, c, h, _⟩ := own_form hS.oF; exact ⟨A, c, h⟩
    have hfN : ∃ A c, vN = .slice A xs.length c := by obtain ⟨A, c, h, _⟩ := own_form hS.oN; exact ⟨A, c, h⟩
    have HIH := Lib.hid ih
    have hlb := St.lts hS
    have HLB := Lib.hid hlb
    clear ih hlb
    have hse := Lib.hid t.size_eq
    unfold Nd.val
    go_enter Try.func43, Try.ntmps43
    go_wp2_with fail
    obtain ⟨W1, hW1⟩ : ∃ W1, W.alloc (.cells #[.int .i64 t.kind, .string t.text, .int .i64 t.pos, .int .i64 t.fin, .slice A t.kids.length c] 24) = W1 := ⟨_, rfl⟩
    rw [hW1]
    have hS1 : St w0.heap.size W1 bn bf bw xs m vL vF vN := by rw [← hW1]; exact hS.alloc _
    have hz1 : W1.heap.size = W.heap.size + 1 := by rw [← hW1]; simp
    have hb4 : W1.heap[W.heap.size]? = some (.cells #[.int .i64 t.kind, .string t.text, .int .i64 t.pos, .int .i64 t.fin, .slice A t.kids.length c] 24 (0, 0)) := by rw [← hW1]; exact heap_alloc_new W _
    have hk1 : Keeps (wr8 bn bf vL vF vN) W W1 := by rw [← hW1]; exact (Keeps.refl _ _).alloc _
    have c1 : W1.cell? ⟨bn, 0, none⟩ = some (.int .i64 (m : Nat)) := by simp [World.cell?, hS1.num]
    have c2 : W1.cell? ⟨bf, 0, none⟩ = some (.slice AL xs.length cL) := by simp [World.cell?, hS1.fbx, hAL]
    have f1 : W1.frozen? ⟨bn, 0, none⟩ = false := by simp [World.frozen?, hS1.num]
    have c4 : W1.cell? ⟨W.heap.size, 4, none⟩ = some (.slice A t.kids.length c) := by simp [World.cell?, hb4]
    have hbnne : bn ≠ W.heap.size := by have := HLB.out bn (.inl rfl); omega
    have HAL := Lib.hid hAL
    have HZ1 := Lib.hid hz1
    have HB4 := Lib.hid hb4
    clear hAL hW1 hz1 hb4
    go_quiet (fail)
    go_wp2_with fail
    have hL0 : L43 w0.heap.size W ((W1.drewN nq).setCell ⟨bn, 0, none⟩ (.int .i64 ((m : Int) + 1))) bn bf bw t A c xs m 0 vL vF vN := by
      refine ⟨⟨vL, vF, vN, ?_, fun b h => .inl h⟩, (hk1.drewN nq).setCell (p := ⟨bn, 0, none⟩) (.inl (.inl rfl)) _, ?_, ?_⟩
      · have := (hS1.drewN nq).count (m + 1)
        simpa [postK_nil, Nd.sizes_nil] using this
      · have := HZ1.out; simp [World.setCell]; omega
      · rw [Below.heap_setCell _ _ _ _ hbnne.symm]; exact HB4.out
    clear c1 c2 f1 c4 hk1 hS1 hbnne HZ1 HB4 HAL
    go_loopw [18] (fun i wr => ∃ j : Nat, j ≤ t.kids.length ∧ i = .int .i64 j ∧ L43 w0.heap.size W wr bn bf bw t A c xs m j vL vF vN) (fun i _ => t.kids.length - (intOf i).toNat)
    case atStart => exact ⟨0, Nat.zero_le _, rfl, hL0⟩
    case round =>
      clear hL0
      obtain ⟨j, hj, rfl, hL⟩ := hrel
      obtain ⟨⟨vL1, vF1, vN1, hS2, hfr⟩, hkp, hsz, hbx⟩ := hL
      have hFR := Lib.hid hfr
      have hBX := Lib.hid hbx
      have hcw : wr.cell? ⟨bw, 0, none⟩ = some (walkV bn bf bw) := by simp [World.cell?, hS2.wbx]
      have hbb : Below w0.heap.size w0 wr := hbw.trans (hkp.below hbw.size (fun k hk => (HLB.out k hk).1))
      have hle := sizes_take_le t.kids j
      have hpl := postK_len (t.kids.take j) xs.length (m + 1)
      clear hfr hbx
      by_cases hlj : j < t.kids.length
      · obtain ⟨b, o, A', c', rfl, h5, hRk⟩ := hR.get j hlj
        obtain ⟨p0, p1, p2, p3, p4⟩ := h5.keep hbb h5.lt
        have hsk := t.size_get j hlj
        have hts := sizes_take_succ t.kids j hlj
        have hle2 := sizes_take_le t.kids (j + 1)
        have hse2 := hse.out
        have hps := Lib.hid (postK_take_succ t.kids j hlj xs.length (m + 1))
        have hcall := HIH.out t.kids[j] A' c' (xs ++ postK (t.kids.take j) xs.length (m + 1)) (m + 1 + Nd.sizes (t.kids.take j)) vL1 vF1 vN1 (wr.alloc (.cells #[.int .i64 t.kids[j].kind, .string t.kids[j].text, .int .i64 t.kids[j].pos, .int .i64 t.kids[j].fin, .slice A' t.kids[j].kids.length c'] 24)) (by omega) hRk (hbb.alloc hbb.size _) (hS2.alloc _) (by rw [List.length_append, hpl]; omega) (by omega)
        have HC := Lib.hid hcall
        have hTS := Lib.hid hts
        have hPL := Lib.hid hpl
        clear hcall hts hle2 hse2 hle hpl
        have hcw2 : ∀ o : Obj, (wr.alloc o).cell? ⟨bw, 0, none⟩ = some (walkV bn bf bw) := fun o => (cell_alloc_old _ _ _ (hlt hS2.wbx)).trans hcw
        unfold walkV at hcw2
        clear hcw
        go_wp2_with fail
        refine HC.out.mono ?_
        clear HC
        rintro e W3 ⟨rfl, vL2, vF2, vN2, hS3, hk3, hf3⟩
        have hL3 : L43 w0.heap.size W W3 bn bf bw t (some ⟨b, o, none⟩) c xs m (j + 1) vL vF vN := by
          have hzs : W.heap.size < (wr.alloc (.cells #[.int .i64 t.kids[j].kind, .string t.kids[j].text, .int .i64 t.kids[j].pos, .int .i64 t.kids[j].fin, .slice A' t.kids[j].kids.length c'] 24)).heap.size := by simp; omega
          refine ⟨⟨vL2, vF2, vN2, ?_, fun b hb => ?_⟩, hkp.trans' ((Keeps.refl (wr8 bn bf vL1 vF1 vN1) wr).alloc _ |>.trans hk3) (fun i hi h => ?_), by have := hk3.size; omega, ?_⟩
          · rw [hps.out, ← List.append_assoc, hTS.out]
            rw [List.length_append, hPL.out] at hS3
            rw [show m + 1 + (Nd.sizes (t.kids.take j) + (t.kids[j]).size) = m + 1 + Nd.sizes (t.kids.take j) + (t.kids[j]).size by omega]
            exact hS3
          · rcases hf3 b hb with h | h
            · exact hFR.out b h
            · exact .inr (by simp at h; omega)
          · rcases h with rfl | rfl | h
            · exact .inl rfl
            · exact .inr (.inl rfl)
            · rcases hFR.out i h with h | h
              · exact .inr (.inr h)
              · omega
          · rw [hk3.block _ hzs ?_, Below.heap_alloc _ _ _ hsz]; exact hBX.out
            intro h
            rcases h with h | h | h
            · have := HLB.out bn (.inl rfl); omega
            · have := HLB.out bf (.inr (.inl rfl)); omega
            · rcases hFR.out _ h with h | h
              · have := HLB.out _ (.inr (.inr h)); omega
              · omega
        clear hS3 hk3 hf3
        go_wp2_with fail
        go_roundw
        case rel => exact ⟨j + 1, hlj, by go_num, hL3⟩
        case measure => simp [intOf]; omega
      · obtain rfl : j = t.kids.length := by omega
        rw [List.take_length] at hS2 hpl
        clear hcw
        go_wp2_with fail
        refine region8 ⟨w0.heap.size, bn, bf, bw, W.heap.size, xs ++ postK t.kids xs.length (m + 1), t, xs.length, m, m + 1 + Nd.sizes t.kids, vL1, vF1, vN1, A, c, wr⟩ _ _ _ ?h0 (Nat.le_trans hbb.size (Nat.le_refl _)) ?hlen ?fL ?fF ?fN ?hend
        case h0 =>
          refine ⟨vL1, vF1, vN1, ⟨rfl, rfl, fun x hx => ?_, fun x _ hl => absurd hl (by simp [Array.getD]), fun e => absurd e (by simp [Array.getD]), fun e => absurd e (by simp [Array.getD]), fun e => absurd e (by simp [Array.getD]), fun _ => rfl, fun _ => rfl, fun _ => rfl, hS2.num, ?_, hS2.wbx, hBX.out, ?_, ?_, ?_, hS2.ne, hS2.nF, hS2.nN, ?_, (Keeps.refl _ wr).drew, fun b h => .inl h⟩⟩
          · simp only [base8, List.mem_cons, List.not_mem_nil, or_false] at hx
            rcases hx with rfl | rfl | rfl | rfl <;> rfl
          · have : wr.drew.heap[bf]? = _ := hS2.fbx
            simpa [Array.getD] using this
          · have := hS2.oL.drew
            simpa [Array.getD, Ctx.xs] using this
          · have := hS2.oF.drew
            simpa [Array.getD, Ctx.xs] using this
          · have := hS2.oN.drew
            simpa [Array.getD, Ctx.xs] using this
          · exact ⟨fun e => absurd e (by simp [Array.getD]), fun e => absurd e (by simp [Array.getD]), fun e => absurd e (by simp [Array.getD])⟩
        case hlen => show (xs ++ postK t.kids xs.length (m + 1)).length < _; rw [List.length_append, hpl]; have := hse.out; omega
        case fL => obtain ⟨A, c, h, _⟩ := own_form hS2.oL; exact ⟨A, c, h⟩
        case fF => obtain ⟨A, c, h, _⟩ := own_form hS2.oF; exact ⟨A, c, h⟩
        case fN => obtain ⟨A, c, h, _⟩ := own_form hS2.oN; exact ⟨A, c, h⟩
        case hend =>
          intro L a' W3 cL3 cF3 cN3 h8 hall
          have hfin := h8.fin hall hS2.Bn hS2.Bf hS2.Bw
          refine bodyPost_end (results_none rfl _ _ _) h8.df ⟨rfl, cL3, cF3, cN3, ?_, hkp.trans' h8.kp (fun i hi h => ?_), fun b hb => ?_⟩
          · have e1 : xs ++ post t xs.length m = (xs ++ postK t.kids xs.length (m + 1)) ++ [(t, xs.length, m)] := by rw [post_eq, List.append_assoc]
            rw [e1, hse.out, ← Nat.add_assoc]
            exact hfin
          · rcases h with rfl | h
            · exact .inr (.inl rfl)
            · rcases hFR.out i h with h | h
              · exact .inr (.inr h)
              · omega
          · rcases h8.fr b hb with h | h
            · rcases hFR.out b h with h | h
              · exact .inl h
              · exact .inr (by omega)
            · exact .inr (by have := hkp.size; exact Nat.le_trans this h)
end Go.Proofs.Ytjijfgkmjachnaa
