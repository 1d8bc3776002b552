/- What Put returns: a balanced tree of the list with the extent, and the part that it replaces; or an error. Conditions: the tree's list is valid and in normal form. -/
import Derived.Test.YtdfdnimledcfbaaVal2
import Derived.Deep.DeepCutAuto
namespace Go.Proofs.Ytdfdnimledcfbaa
open Go.RowKit
open Go.Deep (BT)

/-- A block of the call's own, known whole. -/
def Blk (W : World) (b : Nat) (c : Array Value) (t : TypeId) : Prop := W.heap[b]? = some (.cells c t (0, 0))
theorem Blk.lt {W : World} {b : Nat} {c : Array Value} {t : TypeId} (h : Blk W b c t) : b < W.heap.size := (Array.getElem?_eq_some_iff.1 h).1
theorem Blk.cell {W : World} {b : Nat} {c : Array Value} {t : TypeId} (h : Blk W b c t) (i : Nat) : W.cell? ⟨b, i, none⟩ = c[i]? := by
  unfold World.cell?; rw [show W.heap[b]? = _ from h]; rfl
theorem Blk.frozen {W : World} {b : Nat} {c : Array Value} {t : TypeId} (h : Blk W b c t) (i : Nat) : W.frozen? ⟨b, i, none⟩ = false := by
  unfold World.frozen?; rw [show W.heap[b]? = _ from h]; simp
theorem Blk.new (W : World) (c : Array Value) (t : TypeId) : Blk (W.alloc (.cells c t)) W.heap.size c t := Array.getElem?_push_size
theorem Blk.below {W W' : World} {n b : Nat} {c : Array Value} {t : TypeId} (h : Blk W b c t) (hb : Below n W W') (hn : b < n) : Blk W' b c t := (hb.block b hn).trans h
theorem Blk.keep {W W' : World} {b : Nat} {c : Array Value} {t : TypeId} (h : Blk W b c t) (hb : Below W.heap.size W W') : Blk W' b c t := h.below hb h.lt
theorem Blk.alloc {W : World} {b : Nat} {c : Array Value} {t : TypeId} (h : Blk W b c t) (o : Obj) : Blk (W.alloc o) b c t := h.keep ((Below.refl _ W).alloc (Nat.le_refl _) o)
theorem Blk.set {W : World} {b : Nat} {c : Array Value} {t : TypeId} (h : Blk W b c t) (i : Nat) (v : Value) : Blk (W.setCell ⟨b, i, none⟩ v) b (c.setIfInBounds i v) t := by
  obtain ⟨hlt, hk⟩ := Array.getElem?_eq_some_iff.1 h
  show (W.heap.modify b _)[b]? = _
  rw [Array.getElem?_eq_getElem (by rw [Array.size_modify]; exact hlt), Array.getElem_modify_self, hk]
  rfl
theorem Blk.other {W : World} {b : Nat} {c : Array Value} {t : TypeId} (h : Blk W b c t) {b' : Nat} (hne : b ≠ b') (i : Nat) (v : Value) : Blk (W.setCell ⟨b', i, none⟩ v) b c t :=
  (Below.heap_setCell _ _ _ _ hne).trans h

set_option maxHeartbeats 1000000 in
theorem follows_yes (x y : X) (hx : 0 ≤ x.a ∧ x.a ≤ 1000000 ∧ 0 ≤ x.n ∧ x.n ≤ 1000000 ∧ 0 ≤ x.s ∧ x.s ≤ 1000000) (h : adj x y) (w : World) :
    Calls Try.prog 39 #[.agg #[.int .i64 x.a, .int .i64 x.n, .int .i64 x.s], .agg #[.int .i64 y.a, .int .i64 y.n, .int .i64 y.s]] w fun e w' => e = .returned (.bool true) ∧ Below w.heap.size w w' := by
  have BB := Lib.hid (fun o o' => (((Below.refl _ w).alloc (Nat.le_refl _) o).alloc (by simp) o' : Below w.heap.size w ((w.alloc o).alloc o')))
  obtain ⟨b1, b2, b3, b4, b5, b6⟩ := hx
  obtain ⟨h1, h2⟩ := h
  obtain ⟨xa, xn, xs⟩ := x
  obtain ⟨ya, yn, ys⟩ := y
  dsimp only at *
  have g1 : (xa + xn == ya) = true := by simpa using h1
  have g2 : (xs + xn == ys) = true := by simpa using h2
  have H := Lib.hid (And.intro h1 h2); clear h1 h2
  go_enter Try.func39, Try.ntmps39
  go_wp2
  go_ret
  exact ⟨rfl, BB.out _ _⟩

set_option maxHeartbeats 1000000 in
theorem follows_no (x y : X) (hx : 0 ≤ x.a ∧ x.a ≤ 1000000 ∧ 0 ≤ x.n ∧ x.n ≤ 1000000 ∧ 0 ≤ x.s ∧ x.s ≤ 1000000) (h : ¬ adj x y) (w : World) :
    Calls Try.prog 39 #[.agg #[.int .i64 x.a, .int .i64 x.n, .int .i64 x.s], .agg #[.int .i64 y.a, .int .i64 y.n, .int .i64 y.s]] w fun e w' => e = .returned (.bool false) ∧ Below w.heap.size w w' := by
  have BB := Lib.hid (fun o o' => (((Below.refl _ w).alloc (Nat.le_refl _) o).alloc (by simp) o' : Below w.heap.size w ((w.alloc o).alloc o')))
  obtain ⟨b1, b2, b3, b4, b5, b6⟩ := hx
  obtain ⟨xa, xn, xs⟩ := x
  obtain ⟨ya, yn, ys⟩ := y
  unfold adj at h
  dsimp only at *
  by_cases h1 : xa + xn = ya
  · have g1 : (xa + xn == ya) = true := by simpa using h1
    have g2 : (xs + xn == ys) = false := by simp; intro h2; exact h ⟨h1, h2⟩
    clear h h1
    go_enter Try.func39, Try.ntmps39
    go_wp2
    go_ret
    exact ⟨rfl, BB.out _ _⟩
  · have g1 : (xa + xn == ya) = false := by simpa using h1
    clear h h1
    go_enter Try.func39, Try.ntmps39
    go_wp2
    go_ret
    exact ⟨rfl, BB.out _ _⟩

/-- The value of a tree. -/
def tv (p : Option Addr) : Value := .agg #[.pointer p]

/-- A tree of the list L and a new slice of the list M are returned, without error. -/
def RetP (w : World) (L M : List X) (e : Ending) (w' : World) : Prop := ∃ p T v, e = .returned (.tuple #[.agg #[.pointer p], v, .int .i64 0]) ∧ At w' p T ∧ avl T ∧ li T = L ∧ Row w' w.heap.size v M ∧ Below w.heap.size w w'
/-- The error of a wrong argument is returned. -/
def RetE (w : World) (e : Ending) (w' : World) : Prop := e = .returned (.tuple #[.agg #[.pointer none], .slice none 0 0, .int .i64 1]) ∧ Below w.heap.size w w'

theorem sl_one (W : World) (x : X) : Sl (W.alloc (.cells #[.int .i64 x.a, .int .i64 x.n, .int .i64 x.s] 31)) (.slice (some ⟨W.heap.size, 0, none⟩) 1 1) [x] := by
  refine .inr ⟨W.heap.size, 0, 1, rfl, by simp, by simp [maxLen], fun i y hy => ?_⟩
  have hi : i = 0 := by have := (List.getElem?_eq_some_iff.1 hy).1; simp at this; exact this
  subst hi
  simp at hy
  subst hy
  have hb := Blk.new W #[.int .i64 x.a, .int .i64 x.n, .int .i64 x.s] 31
  exact ⟨hb.cell 0, hb.cell 1, hb.cell 2⟩

theorem vld_one {x : X} : vld [x] ↔ okx x := by
  rw [vld_cons]
  simp [vld.nil]

/-- The world in which Put asks whether its extent is valid. -/
theorem put_world (w : World) (p : Option Addr) (x : X) : ∃ W, W = ((((w.alloc (.cells #[.pointer p] 26)).alloc (.cells #[.int .i64 x.a, .int .i64 x.n, .int .i64 x.s] 31)).alloc (.cells #[.pointer none] 26)).alloc (.cells #[.int .i64 x.a, .int .i64 x.n, .int .i64 x.s] 31)) ∧
    Below w.heap.size w W ∧ Blk W w.heap.size #[.pointer p] 26 ∧ Blk W (w.heap.size + 1) #[.int .i64 x.a, .int .i64 x.n, .int .i64 x.s] 31 ∧ Blk W (w.heap.size + 1 + 1) #[.pointer none] 26 ∧ Sl W (.slice (some ⟨w.heap.size + 1 + 1 + 1, 0, none⟩) 1 1) [x] := by
  refine ⟨_, rfl, ((((Below.refl _ w).alloc (Nat.le_refl _) _).alloc (by simp) _).alloc (by simp; omega) _).alloc (by simp; omega) _, ?_, ?_, ?_, ?_⟩
  · exact (((Blk.new w _ _).alloc _).alloc _).alloc _
  · have := ((Blk.new (w.alloc (.cells #[.pointer p] 26)) #[.int .i64 x.a, .int .i64 x.n, .int .i64 x.s] 31).alloc (.cells #[.pointer none] 26)).alloc (.cells #[.int .i64 x.a, .int .i64 x.n, .int .i64 x.s] 31)
    rw [World.size_alloc] at this
    exact this
  · have := (Blk.new ((w.alloc (.cells #[.pointer p] 26)).alloc (.cells #[.int .i64 x.a, .int .i64 x.n, .int .i64 x.s] 31)) #[.pointer none] 26).alloc (.cells #[.int .i64 x.a, .int .i64 x.n, .int .i64 x.s] 31)
    rw [World.size_alloc, World.size_alloc] at this
    exact this
  · have := sl_one (((w.alloc (.cells #[.pointer p] 26)).alloc (.cells #[.int .i64 x.a, .int .i64 x.n, .int .i64 x.s] 31)).alloc (.cells #[.pointer none] 26)) x
    rw [World.size_alloc, World.size_alloc, World.size_alloc] at this
    exact this

set_option maxHeartbeats 400000 in
set_option maxRecDepth 100000 in
theorem put_bad (p : Option Addr) (x : X) (w : World) (hx : ¬ okx x) : Calls Try.prog 14 #[tv p, ag x] w (RetE w) := by
  obtain ⟨W, hW, bW, k0, k1, k2, hsl⟩ := put_world w p x
  unfold tv ag
  go_enter Try.func14, Try.ntmps14
  go_wp2_with fail
  rw [← hW]
  clear hW
  refine (extvalid_any _ [x] _ hsl (by simp)).mono ?_
  rintro e w1 ⟨b, rfl, hb, hb1⟩
  obtain rfl : b = false := by
    cases b with
    | false => rfl
    | true => exact absurd (vld_one.1 (hb.1 rfl)) hx
  clear hb
  have q2 := k2.keep hb1
  have n0 := q2.cell 0
  have f0 := q2.frozen 0
  simp only [List.getElem?_toArray, List.getElem?_cons_zero] at n0
  go_wp2_with fail
  refine bodyPost_ret (v := .tuple #[.agg #[.pointer none], .slice none 0 0, .int .i64 1]) (by simp [results, Try.results14, go_sem, n0]) rfl ?_
  exact ⟨rfl, (bW.trans (hb1.mono bW.size)).setCell (by dsimp only; omega) _⟩

end Go.Proofs.Ytdfdnimledcfbaa
