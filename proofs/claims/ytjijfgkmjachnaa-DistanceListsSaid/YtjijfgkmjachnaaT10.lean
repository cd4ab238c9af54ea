import Derived.Test.YtjijfgkmjachnaaT9
import Derived.Test.YtjijfgkmjachnaaT81
import Derived.Deep.AppendLies
namespace Go.Proofs.Ytjijfgkmjachnaa
set_option linter.unusedVariables false
set_option linter.unusedSimpArgs false
open Go.RowKit

/-! ### the nodes in postorder: each with the place of its first node and its number -/
mutual
def post : Nd → Nat → Nat → List Ent
  | .mk k x a e kids, f, m => postK kids f (m + 1) ++ [(.mk k x a e kids, f, m)]
def postK : List Nd → Nat → Nat → List Ent
  | [], _, _ => []
  | t :: ts, f, m => post t f m ++ postK ts (f + t.size) (m + t.size)
end
theorem post_eq (t : Nd) (f m : Nat) : post t f m = postK t.kids f (m + 1) ++ [(t, f, m)] := by cases t; simp [post, Nd.kids]
theorem postK_nil (f m : Nat) : postK [] f m = [] := by simp [postK]
theorem postK_cons (t : Nd) (ts : List Nd) (f m : Nat) : postK (t :: ts) f m = post t f m ++ postK ts (f + t.size) (m + t.size) := by simp [postK]
theorem post_len_aux (n : Nat) : (∀ t : Nd, t.size ≤ n → ∀ f m, (post t f m).length = t.size) ∧ (∀ l : List Nd, Nd.sizes l ≤ n → ∀ f m, (postK l f m).length = Nd.sizes l) := by
  induction n with
  | zero =>
    refine ⟨fun t h => by have := t.size_pos; omega, fun l h f m => ?_⟩
    cases l with
    | nil => simp [postK_nil, Nd.sizes_nil]
    | cons t ts => rw [Nd.sizes_cons] at h; have := t.size_pos; omega
  | succ n ih =>
    have h1 : ∀ t : Nd, t.size ≤ n + 1 → ∀ f m, (post t f m).length = t.size := fun t h f m => by
      rw [post_eq, List.length_append, t.size_eq, ih.2 t.kids (by have := t.size_eq; omega)]; simp; omega
    refine ⟨h1, fun l => ?_⟩
    induction l with
    | nil => intro _ f m; simp [postK_nil, Nd.sizes_nil]
    | cons t ts ihl =>
      intro h f m
      rw [Nd.sizes_cons] at h ⊢
      rw [postK_cons, List.length_append, h1 t (by omega), ihl (by omega)]
theorem post_len (t : Nd) (f m : Nat) : (post t f m).length = t.size := (post_len_aux t.size).1 t (Nat.le_refl _) f m
theorem postK_len (l : List Nd) (f m : Nat) : (postK l f m).length = Nd.sizes l := (post_len_aux (Nd.sizes l)).2 l (Nat.le_refl _) f m
theorem postK_append (l k : List Nd) : ∀ f m, postK (l ++ k) f m = postK l f m ++ postK k (f + Nd.sizes l) (m + Nd.sizes l) := by
  induction l with
  | nil => intro f m; simp [postK_nil, Nd.sizes_nil]
  | cons t ts ih => intro f m; rw [List.cons_append, postK_cons, postK_cons, ih, Nd.sizes_cons, List.append_assoc, Nat.add_assoc, Nat.add_assoc]
theorem postK_take_succ (l : List Nd) (k : Nat) (h : k < l.length) (f m : Nat) : postK (l.take (k + 1)) f m = postK (l.take k) f m ++ post (l[k]) (f + Nd.sizes (l.take k)) (m + Nd.sizes (l.take k)) := by
  rw [List.take_succ_eq_append_getElem h, postK_append, postK_cons, postK_nil, List.append_nil]

/-! ### the walk's variables -/
def labC (xs : List Ent) : List Value := xs.flatMap fun e => [.int .i64 e.1.kind, .string e.1.text]
def lefC (xs : List Ent) : List Value := xs.map fun e => .int .i64 (e.2.1 : Nat)
def numC (xs : List Ent) : List Value := xs.map fun e => .int .i64 (e.2.2 : Nat)
def rb (vL vF vN : Value) (b : Nat) : Prop := vL.ownBlock = some b ∨ vF.ownBlock = some b ∨ vN.ownBlock = some b
def walkV (bn bf bw : Nat) : Value := .func (.func 43) #[] #[.pointer (some ⟨bn, 0, none⟩), .pointer (some ⟨bf, 0, none⟩), .pointer (some ⟨bw, 0, none⟩)]
structure St (B : Nat) (W : World) (bn bf bw : Nat) (xs : List Ent) (m : Nat) (vL vF vN : Value) : Prop where
  num : W.heap[bn]? = some (.cells #[.int .i64 (m : Nat)] 3 (0, 0))
  fbx : W.heap[bf]? = some (.cells #[vL, vF, vN] 66 (0, 0))
  wbx : W.heap[bw]? = some (.cells #[walkV bn bf bw] 80 (0, 0))
  oL : W.ownsRow B 70 2 vL xs.length (labC xs)
  oF : W.ownsRow B 3 1 vF xs.length (lefC xs)
  oN : W.ownsRow B 3 1 vN xs.length (numC xs)
  ne : vF.ownBlock = none ∨ vF.ownBlock ≠ vN.ownBlock
  nF : vF.ownBlock ≠ some bn
  nN : vN.ownBlock ≠ some bn
  Bn : B ≤ bn
  Bf : B ≤ bf
  Bw : B ≤ bw

theorem inf70 : (Try.prog.info? 70).map (fun i => (i.zero, i.size, i.bytes)) = some (some (.agg #[.int .i64 0, .string ⟨#[]⟩]), 2, 24) := by kernel_rfl

theorem own_form {w : World} {base : Nat} {e : TypeId} {size n : Nat} {v : Value} {xs : List Value} (h : w.ownsRow base e size v n xs) : ∃ A c, v = .slice A n c ∧ n ≤ c := by
  rcases h.2 with ⟨rfl, rfl⟩ | ⟨g, cap, cur, rfl, _, _, hc, _⟩
  · exact ⟨none, 0, rfl, Nat.le_refl _⟩
  · exact ⟨_, cap, rfl, hc⟩
theorem own_block_at {w : World} {base : Nat} {e : TypeId} {size n : Nat} {v : Value} {xs : List Value} (h : w.ownsRow base e size v n xs) {b : Nat} (hb : v.ownBlock = some b) : base ≤ b ∧ ∃ cur, w.heap[b]? = some (.cells cur e (0, 0)) := by
  rcases h.2 with ⟨rfl, _⟩ | ⟨g, cap, cur, rfl, hg, hh, _⟩
  · simp [Value.ownBlock] at hb
  · have : g = b := by simpa [Value.ownBlock] using hb
    subst this; exact ⟨hg, cur, hh⟩
theorem own_move {w w1 : World} {base : Nat} {e : TypeId} {size n : Nat} {v : Value} {xs : List Value} (h : w.ownsRow base e size v n xs) (hm : ∀ k, v.ownBlock = some k → w1.heap[k]? = w.heap[k]?) : w1.ownsRow base e size v n xs := by
  obtain ⟨h1, h2⟩ := h
  refine ⟨h1, ?_⟩
  rcases h2 with h2 | ⟨g, cap, cur, rfl, hg, hh, r⟩
  · exact .inl h2
  · exact .inr ⟨g, cap, cur, rfl, hg, (hm g (by simp [Value.ownBlock])).trans hh, r⟩
theorem heap_ne_type {w : World} {a b : Nat} {c c' : Array Value} {t t' : TypeId} {f f' : Nat × Nat} (h : w.heap[a]? = some (.cells c t f)) (h' : w.heap[b]? = some (.cells c' t' f')) (ht : t ≠ t') : a ≠ b := by
  rintro rfl; rw [h] at h'; injection h' with h'; injection h' with _ e; exact ht e
end Go.Proofs.Ytjijfgkmjachnaa
