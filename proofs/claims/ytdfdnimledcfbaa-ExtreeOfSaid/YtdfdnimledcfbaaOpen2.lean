/- The shape of a slice of extents that is handed in. Conditions: none. -/
import Derived.Test.YtdfdnimledcfbaaOpen
namespace Go.Proofs.Ytdfdnimledcfbaa
open Go.ChangeShapes Go.WideShapes Go.ChangeAt Go.RowKit Go.Deep

theorem open_shape {H : Type} {enc : TypeId × Value → H} {w : World} {base : Nat} {spare : Nat → Bool} {held : Bool} {fuel : Nat} {v : Value} {x : DataW H × List MemPlace}
    (h : DataW.trod enc Try.prog w base spare held fuel 33 [v] = some x) : v = .slice none 0 0 ∨ ∃ a n c, v = .slice (some a) n c := by
  rcases open_rows Try.underlying33 Try.underlying31 (by kernel_rfl) (by kernel_rfl) h with h0 | ⟨a, len, cap, h0, _⟩
  · simp only [List.cons.injEq, and_true] at h0
    exact .inl h0
  · simp only [List.cons.injEq, and_true] at h0
    exact .inr ⟨a, len, cap, h0⟩

end Go.Proofs.Ytdfdnimledcfbaa
