/- Slices of steps in memory. Conditions: none. -/
import Derived.Test.YtdfdnimledcfbaaSorted
namespace Go.Proofs.Ytdfdnimledcfbaa
open Go.RowKit
open Go.Deep (BT)

/-- A step: a cut or a put; a block, a length, a slot. -/
structure St where
  c : Bool
  a : Int
  n : Int
  s : Int

/-- Its numbers are bytes. -/
def St.ok (s : St) : Prop := 0 ≤ s.a ∧ s.a ≤ 255 ∧ 0 ≤ s.n ∧ s.n ≤ 255 ∧ 0 ≤ s.s ∧ s.s ≤ 255

/-- The value v is a slice that reads as the list S of steps. -/
def SS (W : World) (v : Value) (S : List St) : Prop := (∀ s ∈ S, s.ok) ∧
  (((∃ ao cap, v = .slice ao 0 cap) ∧ S = []) ∨ ∃ (b o cap : Nat), v = .slice (some ⟨b, o, none⟩) S.length cap ∧ S.length ≤ cap ∧ cap ≤ maxLen ∧
    ∀ i s, S[i]? = some s → W.cell? ⟨b, o + i * 4, none⟩ = some (.bool s.c) ∧ W.cell? ⟨b, o + i * 4 + 1, none⟩ = some (.int .u8 s.a) ∧ W.cell? ⟨b, o + i * 4 + 2, none⟩ = some (.int .u8 s.n) ∧ W.cell? ⟨b, o + i * 4 + 3, none⟩ = some (.int .u8 s.s))

theorem SS.below {W W' : World} {v : Value} {S : List St} (h : SS W v S) (hb : Below W.heap.size W W') : SS W' v S := by
  refine ⟨h.1, ?_⟩
  rcases h.2 with h | ⟨b, o, cap, h1, h2, h3, h4⟩
  · exact .inl h
  · refine .inr ⟨b, o, cap, h1, h2, h3, fun i s hs => ?_⟩
    obtain ⟨g1, g2, g3, g4⟩ := h4 i s hs
    have hl := lt_of_cell g1
    exact ⟨(hb.cell (p := ⟨b, _, none⟩) hl).trans g1, (hb.cell (p := ⟨b, _, none⟩) hl).trans g2, (hb.cell (p := ⟨b, _, none⟩) hl).trans g3, (hb.cell (p := ⟨b, _, none⟩) hl).trans g4⟩

theorem SS.shape {W : World} {v : Value} {S : List St} (h : SS W v S) : ∃ ao cap, v = .slice ao S.length cap := by
  rcases h.2 with ⟨⟨ao, cap, h1⟩, rfl⟩ | ⟨b, o, cap, h1, _⟩
  · exact ⟨ao, cap, h1⟩
  · exact ⟨_, _, h1⟩

theorem SS.at {W : World} {v : Value} {S : List St} (h : SS W v S) {i : Nat} (hi : i < S.length) : ∃ b o cap s, v = .slice (some ⟨b, o, none⟩) S.length cap ∧ S[i]? = some s ∧ s.ok ∧ b < W.heap.size ∧
    W.cell? ⟨b, o + i * 4, none⟩ = some (.bool s.c) ∧ W.cell? ⟨b, o + i * 4 + 1, none⟩ = some (.int .u8 s.a) ∧ W.cell? ⟨b, o + i * 4 + 2, none⟩ = some (.int .u8 s.n) ∧ W.cell? ⟨b, o + i * 4 + 3, none⟩ = some (.int .u8 s.s) := by
  rcases h.2 with ⟨_, rfl⟩ | ⟨b, o, cap, h1, h2, h3, h4⟩
  · simp at hi
  · have hs := List.getElem?_eq_getElem hi
    obtain ⟨g1, g2⟩ := h4 i _ hs
    exact ⟨b, o, cap, _, h1, hs, h.1 _ (List.getElem_mem hi), lt_of_cell g1, g1, g2⟩

end Go.Proofs.Ytdfdnimledcfbaa
