/- Slices of extents in memory. Conditions: none. -/
import Derived.Test.YtdfdnimledcfbaaSplit
import Derived.RangeFuncBox
import Derived.Maps.AppendAt
namespace Go.Proofs.Ytdfdnimledcfbaa
open Go.RowKit
open Go.Deep (BT)

theorem Try.info31 : (Try.prog.info? 31).map (fun i => (i.zero, i.size, i.bytes)) = some (some (.agg #[.int .i64 0, .int .i64 0, .int .i64 0]), 3, 24) := by kernel_rfl

/-- The cells of a list of extents. -/
def cs : List X → List Value
  | [] => []
  | x :: l => .int .i64 x.a :: .int .i64 x.n :: .int .i64 x.s :: cs l

theorem cs_append (l m : List X) : cs (l ++ m) = cs l ++ cs m := by
  induction l with
  | nil => rfl
  | cons x l ih => simp [cs, ih]
theorem cs_length (l : List X) : (cs l).length = l.length * 3 := by
  induction l with
  | nil => rfl
  | cons x l ih => simp only [cs, List.length_cons, ih]; omega
theorem cs_get (l : List X) : ∀ (i : Nat) (x : X), l[i]? = some x → (cs l)[i * 3]? = some (.int .i64 x.a) ∧ (cs l)[i * 3 + 1]? = some (.int .i64 x.n) ∧ (cs l)[i * 3 + 2]? = some (.int .i64 x.s) := by
  induction l with
  | nil => intro i x h; simp at h
  | cons y l ih =>
    intro i x h
    cases i with
    | zero => simp at h; subst h; simp [cs]
    | succ i =>
      have := ih i x (by simpa using h)
      rw [show (i + 1) * 3 = i * 3 + 3 by omega]
      simpa [cs] using this

/-- The value v is a slice that reads as the list L. -/
def Sl (W : World) (v : Value) (L : List X) : Prop :=
  ((∃ ao cap, v = .slice ao 0 cap) ∧ L = []) ∨ ∃ (b o cap : Nat), v = .slice (some ⟨b, o, none⟩) L.length cap ∧ L.length ≤ cap ∧ cap ≤ maxLen ∧
    ∀ i x, L[i]? = some x → W.cell? ⟨b, o + i * 3, none⟩ = some (.int .i64 x.a) ∧ W.cell? ⟨b, o + i * 3 + 1, none⟩ = some (.int .i64 x.n) ∧ W.cell? ⟨b, o + i * 3 + 2, none⟩ = some (.int .i64 x.s)

theorem lt_of_cell {W : World} {b o : Nat} {v : Value} (h : W.cell? ⟨b, o, none⟩ = some v) : b < W.heap.size := by
  rcases Nat.lt_or_ge b W.heap.size with h1 | h1
  · exact h1
  · simp [World.cell?, Array.getElem?_eq_none h1] at h

theorem Sl.below {W W' : World} {v : Value} {L : List X} (h : Sl W v L) (hb : Below W.heap.size W W') : Sl W' v L := by
  rcases h with h | ⟨b, o, cap, h1, h2, h3, h4⟩
  · exact .inl h
  · refine .inr ⟨b, o, cap, h1, h2, h3, fun i x hx => ?_⟩
    obtain ⟨g1, g2, g3⟩ := h4 i x hx
    have hl := lt_of_cell g1
    exact ⟨(hb.cell (p := ⟨b, _, none⟩) hl).trans g1, (hb.cell (p := ⟨b, _, none⟩) hl).trans g2, (hb.cell (p := ⟨b, _, none⟩) hl).trans g3⟩

/-- A row of the call's own reads as a list. -/
def Row (W : World) (base : Nat) (v : Value) (L : List X) : Prop := W.ownsRow base 31 3 v L.length (cs L)

theorem Row.sl {W : World} {base : Nat} {v : Value} {L : List X} (h : Row W base v L) : Sl W v L := by
  obtain ⟨_, h⟩ := h
  rcases h with ⟨h1, h2⟩ | ⟨g, cap, cur, h1, h2, h3, h4, h5, h6, h7⟩
  · exact .inl ⟨⟨_, _, h1⟩, List.length_eq_zero_iff.1 h2⟩
  · refine .inr ⟨g, 0, cap, h1, h4, h5, fun i x hx => ?_⟩
    obtain ⟨e1, e2, e3⟩ := cs_get L i x hx
    have hi : i < L.length := (List.getElem?_eq_some_iff.1 hx).1
    have key : ∀ k u, k < L.length * 3 → (cs L)[k]? = some u → W.cell? ⟨g, 0 + k, none⟩ = some u := by
      intro k u hk hu
      rw [← h7, List.getElem?_take, if_pos hk] at hu
      unfold World.cell?
      rw [h3]
      simpa using hu
    refine ⟨key _ _ (by omega) e1, ?_, ?_⟩
    · rw [Nat.add_assoc]; exact key _ _ (by omega) e2
    · rw [Nat.add_assoc]; exact key _ _ (by omega) e3

theorem Row.nil (W : World) (base : Nat) : Row W base (.slice none 0 0) [] := ⟨rfl, .inl ⟨rfl, rfl⟩⟩

/-- The cells of the block laid for an element that is appended. -/
theorem news3 (W : World) (x : X) : ∀ (j : Nat) (u : Value), (cs [x])[j]? = some u → (W.alloc (.cells #[.int .i64 x.a, .int .i64 x.n, .int .i64 x.s] 31)).cell? ((⟨W.heap.size, 0, none⟩ : Addr).add j) = some u := by
  intro j u h
  have hh : ∀ o, (W.alloc o).heap[W.heap.size]? = some o := fun o => Array.getElem?_push_size
  have ha : (⟨W.heap.size, 0, none⟩ : Addr).add j = ⟨W.heap.size, j, none⟩ := by unfold Addr.add; split <;> simp_all
  rw [ha]
  unfold World.cell?
  dsimp only
  rw [hh]
  simp only [cs] at h
  simpa using h

theorem one3 (x : X) : ∀ u ∈ cs [x], u.oneCell' = true := by
  intro u h
  simp only [cs, List.mem_cons, List.not_mem_nil, or_false] at h
  rcases h with rfl | rfl | rfl <;> rfl

end Go.Proofs.Ytdfdnimledcfbaa
