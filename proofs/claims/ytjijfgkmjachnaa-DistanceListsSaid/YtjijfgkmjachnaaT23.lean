/- Plain: the order of the roots fills the table. -/
import Derived.Test.YtjijfgkmjachnaaT22
import Derived.Test.YtjijfgkmjachnaaT31
namespace Go.Proofs.Ytjijfgkmjachnaa
set_option linter.unusedVariables false
set_option linter.unusedSimpArgs false

def rx (R : List Int) (r : Nat) : Nat := (R.getD r 0).toNat
theorem rx_mem {R : List Int} {r : Nat} (h : r < R.length) : R.getD r 0 ∈ R := by simp [List.getD, h]
theorem rx_spec {xs : List Ent} {R : List Int} (hR : IsRoots xs xs.length R) {r : Nat} (h : r < R.length) : R.getD r 0 = (rx R r : Nat) ∧ rx R r < xs.length ∧ Last xs (rx R r) := by
  obtain ⟨k, e, hk, hl⟩ := (hR.2 _).1 (rx_mem h)
  have : rx R r = k := by unfold rx; omega
  rw [this]
  exact ⟨e, hk, hl⟩
theorem rx_find {xs : List Ent} {R : List Int} (hR : IsRoots xs xs.length R) {k : Nat} (hk : k < xs.length) (hl : Last xs k) : ∃ j, j < R.length ∧ rx R j = k := by
  obtain ⟨j, hj, e⟩ := List.getElem_of_mem ((hR.2 k).2 ⟨k, rfl, hk, hl⟩)
  refine ⟨j, hj, ?_⟩
  unfold rx
  simp [List.getD, hj, e]
theorem rx_lt {xs : List Ent} {R : List Int} (hR : IsRoots xs xs.length R) {j r : Nat} (hj : j < R.length) (hr : r < R.length) (h : rx R j < rx R r) : j < r := by
  rcases Nat.lt_or_ge j r with h' | h'
  · exact h'
  · exfalso
    have h1 := (rx_spec hR hj).1
    have h2 := (rx_spec hR hr).1
    rcases Nat.eq_or_lt_of_le h' with h3 | h3
    · subst h3; omega
    · have := (List.pairwise_iff_getElem.1 hR.1) r j hr hj h3
      simp only [List.getD, List.getElem?_eq_getElem hj, List.getElem?_eq_getElem hr, Option.getD_some] at h1 h2
      omega
theorem rx_mono {xs : List Ent} {R : List Int} (hR : IsRoots xs xs.length R) {j r : Nat} (hr : r < R.length) (h : j < r) : rx R j < rx R r := by
  have hj : j < R.length := by omega
  have h1 := (rx_spec hR hj).1
  have h2 := (rx_spec hR hr).1
  have := (List.pairwise_iff_getElem.1 hR.1) j r hj hr h
  simp only [List.getD, List.getElem?_eq_getElem hj, List.getElem?_eq_getElem hr, Option.getD_some] at h1 h2
  omega

theorem rx_ge {xs : List Ent} {R : List Int} (hR : IsRoots xs xs.length R) : ∀ {j : Nat}, j < R.length → j ≤ rx R j
  | 0, _ => Nat.zero_le _
  | j + 1, h => by
    have h1 := rx_ge hR (j := j) (by omega)
    have h2 := rx_mono hR h (Nat.lt_succ_self j)
    omega
theorem roots_len {xs : List Ent} {R : List Int} (hR : IsRoots xs xs.length R) : R.length ≤ xs.length := by
  rcases Nat.eq_zero_or_pos R.length with h | h
  · omega
  · have h1 := rx_ge hR (j := R.length - 1) (by omega)
    have h2 := (rx_spec hR (r := R.length - 1) (by omega)).2.1
    omega

def DoneO (xs ys : List Ent) (R : List Int) (r : Nat) (D : Nat → Nat → Int) : Prop :=
  ∀ s t, s < xs.length → t < ys.length → (∃ j, j < r ∧ lf xs s = lf xs (rx R j)) → D s t = td (nd xs s) (nd ys t)
def DoneI (xs ys : List Ent) (S : List Int) (i q : Nat) (D : Nat → Nat → Int) : Prop :=
  ∀ s t, s < xs.length → t < ys.length → lf xs s = lf xs i → (∃ j, j < q ∧ lf ys t = lf ys (rx S j)) → D s t = td (nd xs s) (nd ys t)
def fillD (xs ys : List Ent) (i k : Nat) (F D : Nat → Nat → Int) : Nat → Nat → Int :=
  fun s t => if lf xs i ≤ s ∧ s ≤ i ∧ lf ys k ≤ t ∧ t ≤ k ∧ lf xs s = lf xs i ∧ lf ys t = lf ys k then F (s - lf xs i + 1) (t - lf ys k + 1) else D s t

theorem fill_step {xs ys : List Ent} (hx : Good xs) (hy : Good ys) {R S : List Int} (hR : IsRoots xs xs.length R) (hS : IsRoots ys ys.length S) {r q : Nat} (hr : r < R.length) (hq : q < S.length) {D F : Nat → Nat → Int}
    (hF : Rec xs ys (rx R r) (rx S q) D F) (hO : DoneO xs ys R r D) (hI : DoneI xs ys S (rx R r) q D) :
    DoneO xs ys R r (fillD xs ys (rx R r) (rx S q) F D) ∧ DoneI xs ys S (rx R r) (q + 1) (fillD xs ys (rx R r) (rx S q) F D) := by
  obtain ⟨_, hi, hli⟩ := rx_spec hR hr
  obtain ⟨_, hk, hlk⟩ := rx_spec hS hq
  have key := table_td hx hy hi hk hF (fun s t h1 h2 h3 h4 h5 => by
    by_cases hs : lf xs s = lf xs (rx R r)
    · have ht : lf ys t ≠ lf ys (rx S q) := h5.resolve_left (fun h => h hs)
      obtain ⟨k', a, b, c⟩ := last_of (xs := ys) (s := t) (by omega)
      have hlt := root_before hy hk h3 h4 ht a b
      obtain ⟨j, hj, e⟩ := rx_find hS a c
      exact hI s t (by omega) (by omega) hs ⟨j, rx_lt hS hj hq (by omega), by rw [e, b]⟩
    · obtain ⟨k', a, b, c⟩ := last_of (xs := xs) (s := s) (by omega)
      have hlt := root_before hx hi h1 h2 hs a b
      obtain ⟨j, hj, e⟩ := rx_find hR a c
      exact hO s t (by omega) (by omega) ⟨j, rx_lt hR hj hr (by omega), by rw [e, b]⟩)
  have upd : ∀ s t, s < xs.length → t < ys.length → (D s t = td (nd xs s) (nd ys t) ∨ (lf xs s = lf xs (rx R r) ∧ lf ys t = lf ys (rx S q))) → fillD xs ys (rx R r) (rx S q) F D s t = td (nd xs s) (nd ys t) := by
    intro s t hs ht h
    unfold fillD
    split
    · rename_i hc
      exact key s t hc.1 hc.2.1 hc.2.2.1 hc.2.2.2.1 hc.2.2.2.2.1 hc.2.2.2.2.2
    · rename_i hc
      rcases h with h | ⟨h1, h2⟩
      · exact h
      · exfalso
        obtain ⟨a, b⟩ := last_le hx hli hs h1
        obtain ⟨c, d⟩ := last_le hy hlk ht h2
        exact hc ⟨a, b, c, d, h1, h2⟩
  refine ⟨fun s t hs ht hj => upd s t hs ht (.inl (hO s t hs ht hj)), fun s t hs ht h1 ⟨j, hj, h2⟩ => upd s t hs ht ?_⟩
  rcases Nat.lt_or_ge j q with h | h
  · exact .inl (hI s t hs ht h1 ⟨j, h, h2⟩)
  · exact .inr ⟨h1, by rw [h2, show j = q by omega]⟩

theorem inner_end {xs ys : List Ent} {R S : List Int} (hS : IsRoots ys ys.length S) {r : Nat} {D : Nat → Nat → Int} (hO : DoneO xs ys R r D) (hI : DoneI xs ys S (rx R r) S.length D) : DoneO xs ys R (r + 1) D := by
  rintro s t hs ht ⟨j, hj, e⟩
  rcases Nat.lt_or_ge j r with h | h
  · exact hO s t hs ht ⟨j, h, e⟩
  · obtain ⟨k', a, b, c⟩ := last_of ht
    obtain ⟨l, hl, e'⟩ := rx_find hS a c
    exact hI s t hs ht (by rw [e, show j = r by omega]) ⟨l, hl, by rw [e', b]⟩
theorem outer_end {xs ys : List Ent} {R : List Int} (hR : IsRoots xs xs.length R) {D : Nat → Nat → Int} (hO : DoneO xs ys R R.length D) {s t : Nat} (hs : s < xs.length) (ht : t < ys.length) : D s t = td (nd xs s) (nd ys t) := by
  obtain ⟨k', a, b, c⟩ := last_of hs
  obtain ⟨l, hl, e'⟩ := rx_find hR a c
  exact hO s t hs ht ⟨l, hl, by rw [e', b]⟩
end Go.Proofs.Ytjijfgkmjachnaa
