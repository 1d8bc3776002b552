/- A region that draws its order, whose operations only read and whose callees only make memory of their own: one walk in the order of the text serves every order. Conditions: each callee returns one value, whatever was made before. -/
import Derived.Test.YtdfdnimledcfbaaTree
namespace Go.Proofs.Ytdfdnimledcfbaa
open Go.RowKit

/-- The worlds in which all that lay in W lies as it lay. -/
def Gr (W : World) : Type := { w' : World // Below W.heap.size W w' }
/-- The world itself. -/
def Gr.w {W : World} (u : Gr W) : World := u.1
theorem Gr.b {W : World} (u : Gr W) : Below W.heap.size W u.w := u.2
instance (W : World) : Inhabited (Gr W) := ⟨⟨W, Below.refl _ _⟩⟩

theorem region_grow {P : Program} {id : Nat} {Q : Exit → Act → World → Prop} {a : Act} {W : World} {l : List Oper} (hm : P.follows .mixedOrders = true) (hB : Region.lexB .any l.toArray = true)
    (h : wpQuiet P l.toArray (fun w' => ∃ u : Gr W, w' = u.w) (fun a' => ∀ u : Gr W, Q .normal a' u.w) l a) : (Code.region id l.toArray true).wp P Q a W := by
  refine wp_region_quiet (C := fun w' => ∃ u : Gr W, w' = u.w) hm hB ⟨⟨W.drew, (Below.refl _ W).drew⟩, rfl⟩ ?_
  have e : (fun a' => ∀ w', (∃ u : Gr W, w' = u.w) → Q .normal a' w') = fun a' => ∀ u : Gr W, Q .normal a' u.w := by
    funext a'
    exact propext ⟨fun h u => h _ ⟨u, rfl⟩, fun h w' ⟨u, hu⟩ => hu ▸ h u⟩
  simpa only [e, List.toList_toArray] using h

/-- A callee's contract, met in such a world. -/
theorem grow_of {P : Program} {f : FuncId} {args : Array Value} {W : World} {u : Gr W} {v : Value}
    (h : Calls P f args u.w fun e w' => e = .returned v ∧ Below u.w.heap.size u.w w') : Calls P f args u.w fun e w'' => e = .returned v ∧ ∃ u' : Gr W, w'' = u'.w :=
  h.mono fun _ w' ⟨he, hb⟩ => ⟨he, ⟨w', u.b.trans (hb.mono u.b.size)⟩, rfl⟩

end Go.Proofs.Ytdfdnimledcfbaa
