/- What build returns: the node of two trees and an extent, in new memory. Conditions: the numbers are small. -/
import Derived.Test.YtdfdnimledcfbaaTree
import Derived.StillTailTactics
namespace Go.Proofs.Ytdfdnimledcfbaa
open Go.RowKit
open Go.Deep (BT)

theorem sm {P : Program} {f : FuncId} {args : Array Value} {w : World} {v : Ending} (h : Calls P f args w fun e w' => e = v ∧ w = w') : Calls P f args w fun e w' => e = v ∧ w' = w :=
  h.mono fun _ _ ⟨a, b⟩ => ⟨a, b.symm⟩

theorem region_tail {P : Program} {id : Nat} {Q : Exit → Act → World → Prop} {a : Act} {w : World} {l : List Oper} (n : Nat) (hm : P.follows .mixedOrders = true) (hB : Region.lexTailB .any l.toArray n = true)
    (h : wpStill P l.toArray w.drew (fun a' => wpList P l.toArray Q (l.drop n) a' w.drew) (l.take n) a) : (Code.region id l.toArray true).wp P Q a w := wp_region_still_tail n hm hB h

/-- A tree in new memory is returned; all that was there is as it was. -/
def RetT (w : World) (T : BT X) (e : Ending) (w' : World) : Prop := ∃ p, e = .returned (.pointer p) ∧ At w' p T ∧ Below w.heap.size w w'

theorem new_node (w : World) (o : Obj) (x : X) (pl pr : Option Addr) (l r : BT X) (hl : At w pl l) (hr : At w pr r) (d c m : Int)
    (hd : d = ((1 + max (dp l) (dp r) : Nat) : Int)) (hc : c = (((li l).length + 1 + (li r).length : Nat) : Int)) (hm : m = x.n + su (li l) + su (li r)) :
    At (((w.alloc o).alloc (.cells #[.int .i64 x.a, .int .i64 x.n, .int .i64 x.s, .pointer pl, .pointer pr, .int .i64 d, .int .i64 c, .int .i64 m] 83)).drew) (some ⟨w.heap.size + 1, 0, none⟩) (.node 0 0 x l r) ∧
    Below w.heap.size w (((w.alloc o).alloc (.cells #[.int .i64 x.a, .int .i64 x.n, .int .i64 x.s, .pointer pl, .pointer pr, .int .i64 d, .int .i64 c, .int .i64 m] 83)).drew) := by
  subst hd; subst hc; subst hm
  have hb : ∀ o', Below w.heap.size w ((w.alloc o).alloc o').drew := fun o' => (((Below.refl _ w).alloc (Nat.le_refl _) o).alloc (by simp) o').drew
  refine ⟨?_, hb _⟩
  have hh : ∀ o', ((w.alloc o).alloc o').drew.heap[w.heap.size + 1]? = some o' := fun o' => by
    have : ((w.alloc o).heap.push o')[(w.alloc o).heap.size]? = some o' := Array.getElem?_push_size
    rw [World.size_alloc] at this
    exact this
  refine ⟨w.heap.size + 1, pl, pr, rfl, by simp, ?_, ?_, ?_, ?_, ?_, ?_, ?_, ?_, IsT.below (hb _) (by simp; omega) hl, IsT.below (hb _) (by simp; omega) hr⟩
  all_goals (unfold World.cell?; rw [hh]; rfl)

set_option maxHeartbeats 1000000 in
theorem build_any (pl pr : Option Addr) (x : X) (l r : BT X) (w : World) (hl : At w pl l) (hr : At w pr r) (hs : sml (li l ++ x :: li r)) :
    Calls Try.prog 56 #[.pointer pl, ag x, .pointer pr] w (RetT w (.node 0 0 x l r)) := by
  have b1 := dp_le l
  have b2 := dp_le r
  have b3 := hs.1
  have b4 := hs.left.su
  have b5 := hs.right.tail.su
  have b6 := hs.right.head
  simp only [List.length_append, List.length_cons] at b3
  obtain ⟨xa, xn, xs⟩ := x
  unfold ag
  simp only at b6 hs ⊢
  obtain ⟨b6, b7, b8, b9, b10, b11⟩ := b6
  obtain ⟨b12, b13⟩ := b4
  obtain ⟨b14, b15⟩ := b5
  have ll : ∀ o, IsT w.heap.size (w.alloc o).drew pl l := fun o => IsT.below (((Below.refl _ w).alloc (Nat.le_refl _) o).drew) (Nat.le_refl _) hl
  have rr : ∀ o, IsT w.heap.size (w.alloc o).drew pr r := fun o => IsT.below (((Below.refl _ w).alloc (Nat.le_refl _) o).drew) (Nat.le_refl _) hr
  have LL := Lib.hid ll; clear ll
  have RR := Lib.hid rr; clear rr
  go_enter Try.func56, Try.ntmps56
  go_wp2
  refine region_tail 24 (by kernel_rfl) (by kernel_rfl) ?_
  simp only [List.take_succ_cons, List.take_zero, List.drop_succ_cons, List.drop_zero]
  repeat still_step
  still_call (sm (deep_any _ l _ w.heap.size (LL.out _)))
  repeat still_step
  still_call (sm (deep_any _ r _ w.heap.size (RR.out _)))
  repeat still_step
  still_call (sm (size_any _ l _ w.heap.size (LL.out _)))
  repeat still_step
  still_call (sm (size_any _ r _ w.heap.size (RR.out _)))
  repeat still_step
  still_call (sm (mapped_any _ l _ w.heap.size (LL.out _)))
  repeat still_step
  still_call (sm (mapped_any _ r _ w.heap.size (RR.out _)))
  repeat still_step
  refine wpStill_nil ?_
  go_wp2
  all_goals
    go_ret
    have nn := new_node w (Obj.cells #[Value.int IntKind.i64 xa, Value.int IntKind.i64 xn, Value.int IntKind.i64 xs] 31) ⟨xa, xn, xs⟩ pl pr l r hl hr
    refine ⟨_, rfl, nn _ _ _ ?_ ?_ ?_⟩ <;> (try dsimp only) <;> omega

end Go.Proofs.Ytdfdnimledcfbaa
