import Derived.Test.YtjijfgkmjachnaaT44
namespace Go.Proofs.Ytjijfgkmjachnaa
set_option linter.unusedVariables false
set_option linter.unusedSimpArgs false
open Go.RowKit Go.Maps

abbrev Lab := Int × List UInt8
def labOf (t : Nd) : Lab := (t.kind, t.text.data.toList)
def LabP (p : Lab) : Prop := (Lit.int .i64 p.1).wf = true ∧ p.2.length ≤ maxLen
def labs (t : Nd) : List Lab := (post t 0 0).map fun e => labOf e.1
def LabW (t : Nd) : Prop := ∀ p ∈ labs t, LabP p
theorem labs_len (t : Nd) : (labs t).length = t.size := by simp [labs, post_len]
theorem labs_get (t : Nd) (i : Nat) (h : i < t.size) : (labs t)[i]'(by rw [labs_len]; exact h) = labOf (nd (post t 0 0) i) := by
  have : i < (post t 0 0).length := by rw [post_len]; exact h
  simp [labs, nd, ent, List.getD, this]

/-- how many of ys are in xs, each used once -/
def com : List Lab → List Lab → Nat
  | _, [] => 0
  | xs, y :: ys => if y ∈ xs then com (xs.erase y) ys + 1 else com xs ys
/-- what is left -/
def rest : List Lab → List Lab → List Lab
  | xs, [] => xs
  | xs, y :: ys => if y ∈ xs then rest (xs.erase y) ys else rest xs ys
theorem rest_append : ∀ (ys zs xs : List Lab), rest xs (ys ++ zs) = rest (rest xs ys) zs
  | [], zs, xs => rfl
  | y :: ys, zs, xs => by
    simp only [List.cons_append, rest]
    split
    · exact rest_append ys zs _
    · exact rest_append ys zs _
theorem com_append : ∀ (ys zs xs : List Lab), com xs (ys ++ zs) = com xs ys + com (rest xs ys) zs
  | [], zs, xs => by simp [com, rest]
  | y :: ys, zs, xs => by
    simp only [List.cons_append, com, rest]
    split
    · rw [com_append ys zs]; omega
    · exact com_append ys zs _
theorem com_le : ∀ (ys xs : List Lab), com xs ys ≤ ys.length
  | [], xs => by simp [com]
  | y :: ys, xs => by
    simp only [com, List.length_cons]
    split
    · have := com_le ys (xs.erase y); omega
    · have := com_le ys xs; omega

theorem rest_le : ∀ (ys xs : List Lab), (rest xs ys).length ≤ xs.length
  | [], xs => Nat.le_refl _
  | y :: ys, xs => by
    simp only [rest]
    split
    · have := rest_le ys (xs.erase y); have h2 := List.length_erase_le (a := y) (l := xs); omega
    · exact rest_le ys xs

def labK (p : Lab) : Lit := .string (keyBytes [.int .i64 p.1, .string p.2])
theorem key_lab (t : Nd) (h : LabP (labOf t)) : keyOf Try.prog 70 (.agg #[.int .i64 t.kind, .string t.text]) = some (labK (labOf t)) :=
  key70 t.kind t.text h.1 (by have := h.2; simpa [labOf] using this)
theorem labK_inj {p q : Lab} (hp : LabP p) (hq : LabP q) (h : labK p = labK q) : p = q := by
  have h1 := key70 p.1 ⟨p.2.toArray⟩ hp.1 (by have := hp.2; simpa [ByteArray.size] using this)
  have h2 := key70 q.1 ⟨q.2.toArray⟩ hq.1 (by have := hq.2; simpa [ByteArray.size] using this)
  have e : labL p.1 ⟨p.2.toArray⟩ = labL q.1 ⟨q.2.toArray⟩ := by simpa [labL, labK] using h
  rw [← e] at h2
  have := keyed70.inj h1 h2
  simp at this
  exact Prod.ext this.1 (by simpa using this.2)
def CntD (D : DataW Nat) (zs : List Lab) : Prop := ∀ p, LabP p → D.atKey (labK p) (.lit (.int .i64 0)) = .lit (.int .i64 (zs.count p : Nat))
theorem CntD.put {D : DataW Nat} {zs zs' : List Lab} {p : Lab} {v : Int} (h : CntD D zs) (hD : IsMap D) (hp : LabP p) (hv : v = (zs'.count p : Nat)) (ho : ∀ q, q ≠ p → zs'.count q = zs.count q) :
    CntD (D.put (labK p) (.lit (.int .i64 v))) zs' := by
  intro q hq
  by_cases e : q = p
  · subst e
    rw [atKey_put_same hD (by simp [labK, WideAt.IsKeyLit]), hv]
  · rw [atKey_put_other (fun e' => e (labK_inj hq hp e')), h q hq, ho q e]

theorem setBlock_below {W : World} {b lo : Nat} (h : lo ≤ b) (o : Obj) : Below lo W (ChangeMaps.setBlock W b o) :=
  ⟨rfl, rfl, rfl, by simp [ChangeMaps.setBlock], fun k hk => by simp only [ChangeMaps.setBlock]; rw [Array.getElem?_setIfInBounds, if_neg (by omega)]⟩
end Go.Proofs.Ytjijfgkmjachnaa
