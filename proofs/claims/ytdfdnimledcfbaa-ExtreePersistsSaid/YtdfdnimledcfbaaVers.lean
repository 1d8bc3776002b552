/- Versions of a tree and of its list, held in two rows. Conditions: none. -/
import Derived.Test.YtdfdnimledcfbaaFresh
import Derived.Test.YtdfdnimledcfbaaStep
namespace Go.Proofs.Ytdfdnimledcfbaa
open Go.RowKit
open Go.Deep (BT)

theorem Try.info26 : (Try.prog.info? 26).map (fun i => (i.zero, i.size, i.bytes)) = some (some (.agg #[.pointer none]), 1, 8) := by kernel_rfl
theorem Try.info33 : (Try.prog.info? 33).map (fun i => (i.zero, i.size, i.bytes)) = some (some (.slice none 0 0), 1, 24) := by kernel_rfl

/-- A tree stands where a row grows. -/
theorem IsT.grow {n n' g : Nat} {W W' : World} (h0 : ∀ z, W.cell? ⟨g, 0, none⟩ ≠ some (.int .i64 z)) (hg : W.grownBy W' (some g)) (hnn : n ≤ n') : ∀ {p : Option Addr} {T : BT X}, IsT n W p T → IsT n' W' p T
  | _, .nil, ht => ht
  | _, .node _ _ _ _ _, ⟨b, pl, pr, hp, hb, c0, c1, c2, c3, c4, c5, c6, c7, hl, hr⟩ =>
    have hne : some b ≠ some g := fun e => by cases e; exact h0 _ c0
    ⟨b, pl, pr, hp, Nat.lt_of_lt_of_le hb hnn, hg.cell c0 hne, hg.cell c1 hne, hg.cell c2 hne, hg.cell c3 hne, hg.cell c4 hne, hg.cell c5 hne, hg.cell c6 hne, hg.cell c7 hne, IsT.grow h0 hg hnn hl, IsT.grow h0 hg hnn hr⟩

theorem Sl.grow {W W' : World} {v : Value} {L : List X} {g : Nat} (h : Sl W v L) (hg : W.grownBy W' (some g)) (hne : v.ownBlock ≠ some g) : Sl W' v L := by
  rcases h with h | ⟨b, o, cap, h1, h2, h3, h4⟩
  · exact .inl h
  · have hb : some b ≠ some g := by subst h1; exact hne
    exact .inr ⟨b, o, cap, h1, h2, h3, fun i x hx => ⟨hg.cell (h4 i x hx).1 hb, hg.cell (h4 i x hx).2.1 hb, hg.cell (h4 i x hx).2.2 hb⟩⟩

/-- One version: the tree's root, the tree, the list's slice. -/
structure Vr where
  p : Option Addr
  T : BT X
  u : Value

/-- The version e stands in W, apart from the rows at g3 and g4. -/
def Ver (W : World) (g3 g4 k : Nat) (e : Vr) : Prop :=
  At W e.p e.T ∧ avl e.T ∧ vld (li e.T) ∧ nf (li e.T) ∧ Sl W e.u (li e.T) ∧ (li e.T).length ≤ 2 * k ∧ ∀ b, e.u.ownBlock = some b → b ≠ g3 ∧ b ≠ g4 ∧ b < W.heap.size

theorem Ver.below {W W' : World} {g3 g4 k : Nat} {e : Vr} (h : Ver W g3 g4 k e) (hb : Below W.heap.size W W') : Ver W' g3 g4 k e := by
  obtain ⟨h1, h2, h3, h4, h5, h6, h7⟩ := h
  exact ⟨h1.below hb, h2, h3, h4, h5.below hb, h6, fun b hh => ⟨(h7 b hh).1, (h7 b hh).2.1, Nat.lt_of_lt_of_le (h7 b hh).2.2 hb.size⟩⟩

theorem Ver.more {W : World} {g3 g4 k k' : Nat} {e : Vr} (h : Ver W g3 g4 k e) (hk : k ≤ k') : Ver W g3 g4 k' e := by
  obtain ⟨h1, h2, h3, h4, h5, h6, h7⟩ := h
  exact ⟨h1, h2, h3, h4, h5, by omega, h7⟩

theorem Ver.grow {W W' : World} {g g3 g4 g3' g4' k : Nat} {e : Vr} (h : Ver W g3 g4 k e) (h0 : ∀ z, W.cell? ⟨g, 0, none⟩ ≠ some (.int .i64 z)) (hg : W.grownBy W' (some g)) (hgg : g = g3 ∨ g = g4)
    (e3 : g3' = g3 ∨ W.heap.size ≤ g3') (e4 : g4' = g4 ∨ W.heap.size ≤ g4') : Ver W' g3' g4' k e := by
  obtain ⟨h1, h2, h3, h4, h5, h6, h7⟩ := h
  refine ⟨IsT.grow h0 hg hg.size h1, h2, h3, h4, h5.grow hg (fun hh => ?_), h6, fun b hh => ?_⟩
  · have := h7 g hh; omega
  · have := h7 b hh
    have := hg.size
    refine ⟨?_, ?_, ?_⟩ <;> omega

/-- The row of the trees. -/
def R3 (W : World) (base g c : Nat) (E : List Vr) : Prop := W.ownsRow base 26 1 (.slice (some ⟨g, 0, none⟩) E.length c) E.length (E.map fun e => .pointer e.p)
/-- The row of the lists. -/
def R4 (W : World) (base g c : Nat) (E : List Vr) : Prop := W.ownsRow base 33 1 (.slice (some ⟨g, 0, none⟩) E.length c) E.length (E.map fun e => e.u)

theorem own_at {W : World} {base t g n c : Nat} {xs : List Value} (h : W.ownsRow base t 1 (.slice (some ⟨g, 0, none⟩) n c) n xs) : ∃ cur, W.heap[g]? = some (.cells cur t (0, 0)) ∧ cur.size = c ∧ base ≤ g ∧ n ≤ c ∧ ∀ (i : Nat) (u : Value), xs[i]? = some u → W.cell? ⟨g, i, none⟩ = some u := by
  obtain ⟨h0, h⟩ := h
  rcases h with ⟨h1, _⟩ | ⟨g', cap, cur, h1, h2, h3, h4, h5, h6, h7⟩
  · cases h1
  · simp only [Value.slice.injEq, Option.some.injEq, Addr.mk.injEq, and_true, true_and] at h1
    obtain ⟨rfl, rfl⟩ := h1
    refine ⟨cur, h3, by omega, h2, h4, fun i u hu => ?_⟩
    have hi : i < n := by have := (List.getElem?_eq_some_iff.1 hu).1; omega
    rw [← h7, List.getElem?_take, if_pos (by omega)] at hu
    unfold World.cell?
    rw [h3]
    simpa using hu

theorem own_keep {W W' : World} {base t g n c : Nat} {xs : List Value} (h : W.ownsRow base t 1 (.slice (some ⟨g, 0, none⟩) n c) n xs) (hb : Below W.heap.size W W') : W'.ownsRow base t 1 (.slice (some ⟨g, 0, none⟩) n c) n xs := by
  refine ⟨h.1, ?_⟩
  rcases h.2 with h2 | ⟨g, cap, cur, e1, e2, e3, e4⟩
  · exact .inl h2
  · exact .inr ⟨g, cap, cur, e1, e2, (hb.block g (Array.getElem?_eq_some_iff.1 e3).1).trans e3, e4⟩

theorem R3.at {W : World} {base g c i : Nat} {E : List Vr} {e : Vr} (h : R3 W base g c E) (hi : E[i]? = some e) : W.cell? ⟨g, i, none⟩ = some (.pointer e.p) := by
  obtain ⟨_, _, _, _, _, k⟩ := own_at h
  exact k i _ (by simp [hi])
theorem R4.at {W : World} {base g c i : Nat} {E : List Vr} {e : Vr} (h : R4 W base g c E) (hi : E[i]? = some e) : W.cell? ⟨g, i, none⟩ = some e.u := by
  obtain ⟨_, _, _, _, _, k⟩ := own_at h
  exact k i _ (by simp [hi])
theorem R3.lt {W : World} {base g c : Nat} {E : List Vr} (h : R3 W base g c E) : g < W.heap.size := by
  obtain ⟨_, k, _⟩ := own_at h
  exact (Array.getElem?_eq_some_iff.1 k).1
theorem R4.lt {W : World} {base g c : Nat} {E : List Vr} (h : R4 W base g c E) : g < W.heap.size := by
  obtain ⟨_, k, _⟩ := own_at h
  exact (Array.getElem?_eq_some_iff.1 k).1
theorem rows_ne {W : World} {base base' g g' c c' : Nat} {E E' : List Vr} (h : R3 W base g c E) (h' : R4 W base' g' c' E') : g ≠ g' := by
  obtain ⟨_, k, _⟩ := own_at h
  obtain ⟨_, k', _⟩ := own_at h'
  rintro rfl
  rw [k] at k'
  simp at k'

end Go.Proofs.Ytdfdnimledcfbaa
