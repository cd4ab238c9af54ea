import Derived.Test.YtjijfgkmjachnaaT46
import Derived.Test.YtjijfgkmjachnaaT42
namespace Go.Proofs.Ytjijfgkmjachnaa
set_option linter.unusedVariables false
set_option linter.unusedSimpArgs false
open Go.RowKit

def nmN (s : ByteArray) : Nd := .mk 20 s 0 0 []
def binN (s : ByteArray) (x y : Nd) : Nd := .mk 29 s 0 0 [x, y]

theorem name (s : ByteArray) (w : World) : Calls Try.prog 27 #[.string s] w fun e w' => e = .returned ((nmN s).val none 0) ∧ Below w.heap.size w w' := by
  have h := At5.of (W := w.alloc (.cells (cells5 (nmN s) none 0).toArray 24)) (heap_alloc_new w _)
  have h2 : At5 (w.alloc (.cells #[.int .i64 20, .string s, .int .i64 0, .int .i64 0, .slice none 0 0] 24)) w.heap.size 0 (nmN s) none 0 := h
  have HB := Lib.hid ((Below.refl w.heap.size w).alloc (Nat.le_refl _) (.cells #[.int .i64 20, .string s, .int .i64 0, .int .i64 0, .slice none 0 0] 24))
  obtain ⟨c0, c1, c2, c3, c4⟩ := h2
  clear h
  go_enter Try.func27, Try.ntmps27
  go_wp2_with fail
  refine bodyPost_ret (v := (nmN s).val none 0) (by simp [results, Try.results27, go_sem, c0, c1, c2, c3, c4, Nd.val]) rfl ⟨rfl, HB.out⟩

theorem binary (s : ByteArray) (x y : Nd) (A B : Option Addr) (cA cB : Nat) (w : World) (hA : RN w x A cA) (hB : RN w y B cB) :
    Calls Try.prog 26 #[.string s, x.val A cA, y.val B cB] w fun e w' => ∃ g, e = .returned ((binN s x y).val (some ⟨g, 0, none⟩) 2) ∧ RN w' (binN s x y) (some ⟨g, 0, none⟩) 2 ∧ Below w.heap.size w w' := by
  obtain ⟨W, hW⟩ : ∃ W, ((((w.alloc (.cells (cells5 x A cA).toArray 24)).alloc (.cells (cells5 y B cB).toArray 24)).alloc (.cells (cells5 (binN s x y) (some ⟨w.heap.size + 1 + 1 + 1, 0, none⟩) 2).toArray 24)).alloc (.cells (cells5 x A cA ++ cells5 y B cB).toArray 24)) = W := ⟨_, rfl⟩
  have hb : Below w.heap.size w W := by rw [← hW]; exact ((((Below.refl _ _).alloc (Nat.le_refl _) _).alloc (by simp) _).alloc (by simp; omega) _).alloc (by simp; omega) _
  have h3 : W.heap[w.heap.size + 1 + 1 + 1]? = some (.cells (cells5 x A cA ++ cells5 y B cB).toArray 24 (0, 0)) := by
    rw [← hW]
    have := heap_alloc_new (((w.alloc (.cells (cells5 x A cA).toArray 24)).alloc (.cells (cells5 y B cB).toArray 24)).alloc (.cells (cells5 (binN s x y) (some ⟨w.heap.size + 1 + 1 + 1, 0, none⟩) 2).toArray 24)) (.cells (cells5 x A cA ++ cells5 y B cB).toArray 24)
    simpa using this
  have h2 : W.heap[w.heap.size + 1 + 1]? = some (.cells (cells5 (binN s x y) (some ⟨w.heap.size + 1 + 1 + 1, 0, none⟩) 2).toArray 24 (0, 0)) := by
    rw [← hW, Below.heap_alloc _ _ _ (by simp)]
    have := heap_alloc_new ((w.alloc (.cells (cells5 x A cA).toArray 24)).alloc (.cells (cells5 y B cB).toArray 24)) (.cells (cells5 (binN s x y) (some ⟨w.heap.size + 1 + 1 + 1, 0, none⟩) 2).toArray 24)
    simpa using this
  have hR : RN W (binN s x y) (some ⟨w.heap.size + 1 + 1 + 1, 0, none⟩) 2 := by
    have := RN.two (RN.keep hb hA) (RN.keep hb hB) h3
    rcases this with ⟨_, b, o, _, As, cs, hc, hm, hcell, hsub⟩ | ⟨_, _, _, h⟩
    · exact .mk _ _ _ _ As cs hc hm hcell hsub
    · cases h
  have h4 := At5.of h2
  have HR := Lib.hid hR
  have HB := Lib.hid hb
  have hW2 : ((((w.alloc (.cells #[.int .i64 x.kind, .string x.text, .int .i64 x.pos, .int .i64 x.fin, .slice A x.kids.length cA] 24)).alloc (.cells #[.int .i64 y.kind, .string y.text, .int .i64 y.pos, .int .i64 y.fin, .slice B y.kids.length cB] 24)).alloc (.cells #[.int .i64 29, .string s, .int .i64 0, .int .i64 0, .slice (some ⟨w.heap.size + 1 + 1 + 1, 0, none⟩) 2 2] 24)).alloc (.cells #[.int .i64 x.kind, .string x.text, .int .i64 x.pos, .int .i64 x.fin, .slice A x.kids.length cA, .int .i64 y.kind, .string y.text, .int .i64 y.pos, .int .i64 y.fin, .slice B y.kids.length cB] 24)) = W := hW
  obtain ⟨c0, c1, c2, c3, c4⟩ := h4
  have HW := Lib.hid hW2
  clear hW hb h3 h2 hR hA hB hW2
  unfold Nd.val
  go_enter Try.func26, Try.ntmps26
  go_wp2_with fail
  rw [HW.out]
  refine bodyPost_ret (v := (binN s x y).val (some ⟨w.heap.size + 1 + 1 + 1, 0, none⟩) 2) (by simp [results, Try.results26, go_sem, c0, c1, c2, c3, c4, Nd.val]) rfl ⟨_, rfl, HR.out, HB.out⟩
end Go.Proofs.Ytjijfgkmjachnaa
