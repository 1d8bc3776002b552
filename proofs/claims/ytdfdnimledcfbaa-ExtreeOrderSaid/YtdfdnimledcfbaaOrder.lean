/- Putting the extents of a valid list in another order. Conditions: none. -/
import Derived.Test.YtdfdnimledcfbaaCanon
namespace Go.Proofs.Ytdfdnimledcfbaa

/-- The block t lies in the extent x. -/
def inx (x : X) (t : Int) : Prop := x.a ≤ t ∧ t < x.a + x.n

theorem fd_nil {L : List X} (hv : vld L) (h : ∀ t, fd t L = (0, false)) : L = [] := by
  cases L with
  | nil => rfl
  | cons x l =>
    have hx := (vld_cons.1 hv).1
    unfold okx at hx
    have := h x.a
    rw [fd_cons_in (by omega) (by omega)] at this
    simp at this

theorem mid_none {L : List X} {x : X} (hv : vld L) (hn : nf L) (h : ∀ t, inx x t → fd t L = (0, false)) : mid L x.a x.n = [] := by
  refine fd_nil (mid_vn hv hn).1 fun t => ?_
  unfold mid
  rw [fd_hdL t _ _ (vld_tlL hv), fd_tlL t _ L hv]
  by_cases h1 : t < x.a + x.n
  · by_cases h2 : x.a ≤ t
    · rw [if_pos h1, if_pos h2, h t ⟨h2, h1⟩]
    · rw [if_pos h1, if_neg h2]
  · rw [if_neg h1]

theorem fd_mem {L : List X} {i : Nat} {x : X} {t : Int} (hv : vld L) (hx : L[i]? = some x) (ht : inx x t) : fd t L = (x.s + t - x.a, true) := by
  obtain ⟨l1, l2, rfl⟩ := List.append_of_mem (List.mem_of_getElem? hx)
  exact fd_here hv ht.1 ht.2

theorem apart {L : List X} (hv : vld L) {i j : Nat} {x y : X} {t : Int} (hi : L[i]? = some x) (hj : L[j]? = some y) (hx : inx x t) (hy : inx y t) : i = j := by
  obtain ⟨hi1, rfl⟩ := List.getElem?_eq_some_iff.1 hi
  obtain ⟨hj1, rfl⟩ := List.getElem?_eq_some_iff.1 hj
  unfold inx at hx hy
  rcases Nat.lt_trichotomy i j with h | h | h
  · have := List.pairwise_iff_getElem.1 hv.2 i j hi1 hj1 h
    omega
  · exact h
  · have := List.pairwise_iff_getElem.1 hv.2 j i hj1 hi1 h
    omega

/-- The list M holds just the extents of L at the first k indices. -/
def held (L : List X) (ix : Nat → Nat) (k : Nat) (M : List X) : Prop :=
  ∀ t, ((∃ i, i < k ∧ ∃ x, L[ix i]? = some x ∧ inx x t) → fd t M = fd t L) ∧ ((∀ i, i < k → ∀ x, L[ix i]? = some x → ¬ inx x t) → fd t M = (0, false))

theorem held_zero (L : List X) (ix : Nat → Nat) : held L ix 0 [] := fun _ => ⟨fun ⟨i, hi, _⟩ => absurd hi (Nat.not_lt_zero i), fun _ => rfl⟩

theorem held_free {L : List X} {ix : Nat → Nat} {k : Nat} {M : List X} {x : X} (hv : vld L) (h : held L ix k M) (hx : L[ix k]? = some x) (hi : ∀ i, i < k → ix i ≠ ix k) : ∀ t, inx x t → fd t M = (0, false) :=
  fun t ht => (h t).2 fun i hik _ hy hin => hi i hik (apart hv hy hx hin ht)

theorem held_next {L : List X} {ix : Nat → Nat} {k : Nat} {M : List X} {x : X} (hv : vld L) (hM : vld M) (h : held L ix k M) (hx : L[ix k]? = some x) : held L ix (k + 1) (put M x) := by
  intro t
  have hox : okx x := hv.1 x (List.mem_of_getElem? hx)
  rw [fd_put t M x hM hox]
  by_cases ht : inx x t
  · rw [if_pos (show x.a ≤ t ∧ t < x.a + x.n from ht)]
    exact ⟨fun _ => (fd_mem hv hx ht).symm, fun h2 => absurd ht (h2 k (Nat.lt_succ_self k) x hx)⟩
  · rw [if_neg (show ¬ (x.a ≤ t ∧ t < x.a + x.n) from ht)]
    refine ⟨fun ⟨i, hi, y, hy, hin⟩ => ?_, fun h2 => (h t).2 fun i hi y hy => h2 i (by omega) y hy⟩
    rcases Nat.lt_succ_iff_lt_or_eq.1 hi with h3 | rfl
    · exact (h t).1 ⟨i, h3, y, hy, hin⟩
    · rw [hx] at hy; cases hy; exact absurd hin ht

theorem held_all {L : List X} {ix : Nat → Nat} {M : List X} (hv : vld L) (hM : vld M) (nM : nf M) (h : held L ix L.length M) (hs : ∀ m, m < L.length → ∃ i, i < L.length ∧ ix i = m) : M = jn L := by
  have hj := jn_vn hv
  refine canon M (jn L) hM nM hj.1 hj.2.1 fun t => ?_
  rw [fd_jn t L hv]
  by_cases ht : ∃ x ∈ L, inx x t
  · obtain ⟨x, hx, hin⟩ := ht
    obtain ⟨m, hm, rfl⟩ := List.mem_iff_getElem.1 hx
    obtain ⟨i, hi, rfl⟩ := hs m hm
    exact (h t).1 ⟨i, hi, _, List.getElem?_eq_getElem hm, hin⟩
  · rw [(h t).2 fun i _ x hx hin => ht ⟨x, List.mem_of_getElem? hx, hin⟩, fd_none fun x hx hin => ht ⟨x, hx, hin⟩]

/-- The index that the law takes in round k. -/
def oix (n sp : Nat) (rev : Bool) (k : Nat) : Nat := if rev then n - 1 - (k + sp) % n else (k + sp) % n

theorem oix_lt {n sp k : Nat} {rev : Bool} (hn : 0 < n) : oix n sp rev k < n := by
  unfold oix
  have := Nat.mod_lt (k + sp) hn
  split <;> omega

theorem rot_inj {n sp i k : Nat} (hi : i < k) (hk : k < n) : (i + sp) % n ≠ (k + sp) % n := by
  intro h
  have h1 : (k + sp) % n = (i + sp) % n := h.symm
  have h2 := Nat.sub_mod_eq_zero_of_mod_eq h1
  have h3 : k + sp - (i + sp) = k - i := by omega
  rw [h3, Nat.mod_eq_of_lt (by omega)] at h2
  omega

theorem oix_inj {n sp i k : Nat} {rev : Bool} (hi : i < k) (hk : k < n) : oix n sp rev i ≠ oix n sp rev k := by
  have h := rot_inj (sp := sp) hi hk
  have h1 := Nat.mod_lt (i + sp) (show 0 < n by omega)
  have h2 := Nat.mod_lt (k + sp) (show 0 < n by omega)
  unfold oix
  split <;> omega

theorem rot_sur {n sp m : Nat} (hm : m < n) : ∃ i, i < n ∧ (i + sp) % n = m := by
  refine ⟨(m + (n - sp % n)) % n, Nat.mod_lt _ (by omega), ?_⟩
  have h1 := Nat.mod_lt sp (show 0 < n by omega)
  rw [Nat.mod_add_mod]
  have h2 : m + (n - sp % n) + sp = m + n * (1 + sp / n) := by
    have := Nat.div_add_mod sp n
    rw [Nat.mul_add, Nat.mul_one]
    omega
  rw [h2, Nat.add_mul_mod_self_left, Nat.mod_eq_of_lt hm]

theorem oix_sur {n sp m : Nat} {rev : Bool} (hm : m < n) : ∃ i, i < n ∧ oix n sp rev i = m := by
  unfold oix
  cases rev with
  | false => simpa using rot_sur hm
  | true =>
    obtain ⟨i, hi, h⟩ := rot_sur (sp := sp) (show n - 1 - m < n by omega)
    exact ⟨i, hi, by simp; omega⟩

end Go.Proofs.Ytdfdnimledcfbaa
