/- What first returns: the first extent of a tree and a balanced tree of the rest. Conditions: the numbers are small. -/
import Derived.Test.YtdfdnimledcfbaaJoin
namespace Go.Proofs.Ytdfdnimledcfbaa
open Go.RowKit
open Go.Deep (BT)
attribute [local go_sem ↓] Go.wp_at_zero Go.wp_at_succ

/-- An extent and a balanced tree of the list L are returned; all that was there is as it was. -/
def RetF (w : World) (x : X) (L : List X) (e : Ending) (w' : World) : Prop := ∃ p T, e = .returned (.tuple #[ag x, .pointer p]) ∧ At w' p T ∧ avl T ∧ li T = L ∧ Below w.heap.size w w'

/-- The box of a result: its cells and marks. -/
theorem zero_box (w : World) : let W := w.alloc (.cells #[.int .i64 0, .int .i64 0, .int .i64 0] 31)
    W.cell? ⟨w.heap.size, 0, none⟩ = some (.int .i64 0) ∧ W.cell? ⟨w.heap.size, 1, none⟩ = some (.int .i64 0) ∧ W.cell? ⟨w.heap.size, 2, none⟩ = some (.int .i64 0) ∧
    W.frozen? ⟨w.heap.size, 0, none⟩ = false ∧ W.frozen? ⟨w.heap.size, 1, none⟩ = false ∧ W.frozen? ⟨w.heap.size, 2, none⟩ = false ∧ W.cell? ⟨w.heap.size, 3, none⟩ = none := by
  have hh : ∀ o, (w.alloc o).heap[w.heap.size]? = some o := fun o => Array.getElem?_push_size
  dsimp only
  refine ⟨?_, ?_, ?_, ?_, ?_, ?_, ?_⟩
  all_goals first | (unfold World.cell?; rw [hh]; rfl) | (unfold World.frozen?; rw [hh]; rfl)

/-- A tree stands where a block that is no node turns. -/
theorem IsT.turn {n n' N : Nat} {W W' : World} (hn : W.cell? ⟨N, 3, none⟩ = none) (hk : ∀ k, k ≠ N → W'.heap[k]? = W.heap[k]?) (hnn : n ≤ n') : ∀ {p : Option Addr} {T : BT X}, IsT n W p T → IsT n' W' p T
  | _, .nil, ht => ht
  | _, .node _ _ _ _ _, ⟨b, pl, pr, hp, hb, c0, c1, c2, c3, c4, c5, c6, c7, hl, hr⟩ =>
    have hne : b ≠ N := fun e => by subst e; rw [hn] at c3; cases c3
    have hc : ∀ o, W'.cell? ⟨b, o, none⟩ = W.cell? ⟨b, o, none⟩ := fun o => World.cell?_of_block (w := W) (hk b hne)
    ⟨b, pl, pr, hp, Nat.lt_of_lt_of_le hb hnn, (hc 0).trans c0, (hc 1).trans c1, (hc 2).trans c2, (hc 3).trans c3, (hc 4).trans c4, (hc 5).trans c5, (hc 6).trans c6, (hc 7).trans c7, IsT.turn hn hk hnn hl, IsT.turn hn hk hnn hr⟩

set_option maxHeartbeats 4000000 in
set_option maxRecDepth 100000 in
theorem first_leaf (p : Option Addr) (x : X) (r : BT X) (i j : Nat) (w : World) (hT : At w p (.node i j x .nil r)) (ar : avl r) :
    Calls Try.prog 40 #[.pointer p] w (RetF w x (li r)) := by
  obtain ⟨b, p1, p2, rfl, hb, c0, c1, c2, c3, c4, c5, c6, c7, h3, h4⟩ := hT
  obtain rfl : p1 = none := h3
  clear c5 c6 c7
  obtain ⟨xa, xn, xs⟩ := x
  dsimp only at c0 c1 c2
  go_enter Try.func40, Try.ntmps40
  go_wp2
  have e0 := World.new_ne w ⟨b, 0, none⟩ c0
  have e1 := World.new_ne w ⟨b, 1, none⟩ c1
  have e2 := World.new_ne w ⟨b, 2, none⟩ c2
  have e4 := World.new_ne w ⟨b, 4, none⟩ c4
  go_region_held3 (fun w' => w'.cell? ⟨b, 0, none⟩ = some (.int .i64 xa) ∧ w'.cell? ⟨b, 1, none⟩ = some (.int .i64 xn) ∧ w'.cell? ⟨b, 2, none⟩ = some (.int .i64 xs) ∧ w'.cell? ⟨b, 4, none⟩ = some (.pointer p2)) (go_keep) (fail)
  go_wp2
  refine bodyPost_ret (v := .tuple #[.agg #[.int .i64 xa, .int .i64 xn, .int .i64 xs], .pointer p2]) (by simp [results, Try.results40, go_sem]) rfl ?_
  have hbw := fun o => ((Below.refl _ w).alloc (Nat.le_refl _) o).drew
  exact ⟨p2, r, rfl, IsT.below (hbw _) (by simp) h4, ar, rfl, hbw _⟩

set_option maxHeartbeats 4000000 in
set_option maxRecDepth 100000 in
theorem first_node (p : Option Addr) (x y : X) (L : List X) (l r : BT X) (i j : Nat) (w : World) (hT : At w p (.node i j x l r)) (hs : sml (y :: L ++ x :: li r)) (ar : avl r) (hne : l ≠ .nil)
    (ih : ∀ (p : Option Addr) (w : World), At w p l → Calls Try.prog 40 #[.pointer p] w (RetF w y L)) :
    Calls Try.prog 40 #[.pointer p] w (RetF w y (L ++ x :: li r)) := by
  have IH := Lib.hid ih; clear ih
  obtain ⟨b, p1, p2, rfl, hb, c0, c1, c2, c3, c4, c5, c6, c7, h3, h4⟩ := hT
  have hp1 : ∃ a, p1 = some a := by
    cases l with
    | nil => exact absurd rfl hne
    | node _ _ _ _ _ => obtain ⟨b', _, _, h, _⟩ := h3; exact ⟨_, h⟩
  obtain ⟨a1, rfl⟩ := hp1
  clear c5 c6 c7 hne
  have HS := Lib.hid hs; clear hs
  have H3 := Lib.hid (show At w (some a1) l from h3); clear h3
  have H4 := Lib.hid (show At w p2 r from h4); clear h4
  have HG := Lib.hid (fun o => ((Below.refl _ w).alloc (Nat.le_refl _) o : Below w.heap.size w (w.alloc o)))
  obtain ⟨xa, xn, xs⟩ := x
  obtain ⟨ya, yn, ys⟩ := y
  dsimp only at c0 c1 c2
  go_enter Try.func40, Try.ntmps40
  go_wp2_with fail
  refine (IH.out _ _ (H3.out.below (HG.out _))).mono ?_
  rintro e w1 ⟨q, T, rfl, ha, hav, hli, hb1⟩
  unfold ag
  dsimp only
  go_wp2_with fail
  have e1 := Lib.hid (And.intro hav hli); clear hav hli
  obtain ⟨W, hW, bW, sW, x0, x1, x2⟩ := box_world w1 ⟨ya, yn, ys⟩ 0
  replace hW : W = w1.alloc (.cells #[.int .i64 ya, .int .i64 yn, .int .i64 ys] 31) := hW
  dsimp only at x0 x1 x2
  rw [← hW]
  clear hW
  obtain ⟨k0, k1, k2, z0, z1, z2, _⟩ := zero_box w
  have s1 : w.heap.size + 1 ≤ w1.heap.size := by have := hb1.size; simpa using this
  have bA := hb1.trans (bW.mono hb1.size)
  have bB : Below w.heap.size w W := ((Below.refl _ w).alloc (Nat.le_refl _) _).trans (bA.mono (by simp))
  have d0 := (bB.cell (p := ⟨b, 0, none⟩) hb).trans c0
  have d1 := (bB.cell (p := ⟨b, 1, none⟩) hb).trans c1
  have d2 := (bB.cell (p := ⟨b, 2, none⟩) hb).trans c2
  have d4 := (bB.cell (p := ⟨b, 4, none⟩) hb).trans c4
  have n0 := (bA.cell (p := ⟨w.heap.size, 0, none⟩) (by simp)).trans k0
  have n1 := (bA.cell (p := ⟨w.heap.size, 1, none⟩) (by simp)).trans k1
  have n2 := (bA.cell (p := ⟨w.heap.size, 2, none⟩) (by simp)).trans k2
  have f0 := (bA.frozen (p := ⟨w.heap.size, 0, none⟩) (by simp)).trans z0
  have f1 := (bA.frozen (p := ⟨w.heap.size, 1, none⟩) (by simp)).trans z1
  have f2 := (bA.frozen (p := ⟨w.heap.size, 2, none⟩) (by simp)).trans z2
  have A3 := Lib.hid (At.below ha bW)
  have A4 := Lib.hid (At.below H4.out bB)
  have BB := Lib.hid (And.intro bA bB)
  clear c0 c1 c2 c3 c4 k0 k1 k2 z0 z1 z2 bA bB bW hb1 ha
  have hbW : b < W.heap.size := by omega
  have hnW : w.heap.size < W.heap.size := by omega
  have hyW : w1.heap.size < W.heap.size := by omega
  have q1 : w.heap.size ≠ b := by omega
  have q2 : w.heap.size ≠ w1.heap.size := by omega
  go_region_held3 (fun w' => w'.cell? ⟨w1.heap.size, 0, none⟩ = some (.int .i64 ya) ∧ w'.cell? ⟨w1.heap.size, 1, none⟩ = some (.int .i64 yn) ∧ w'.cell? ⟨w1.heap.size, 2, none⟩ = some (.int .i64 ys) ∧ w'.cell? ⟨b, 0, none⟩ = some (.int .i64 xa) ∧ w'.cell? ⟨b, 1, none⟩ = some (.int .i64 xn) ∧ w'.cell? ⟨b, 2, none⟩ = some (.int .i64 xs) ∧ w'.cell? ⟨b, 4, none⟩ = some (.pointer p2))
    ((first | exact ⟨x0, x1, x2, d0, d1, d2, d4⟩ | exact ⟨g0, g1, g2, g3, g4, g5, g6⟩ | go_keep))
    (first | (go_at_call_of 41 q; refine (join_any q p2 ⟨xa, xn, xs⟩ T r _ (A3.out.below (Below.refl _ W).drew) (A4.out.below (Below.refl _ W).drew) (by rw [e1.out.2]; exact HS.out.tail) e1.out.1 ar).mono ?_; rintro e w2 ⟨p, T', rfl, ha', hav', hli', hb2'⟩; have hb2 := (Below.refl _ W).drew.trans hb2'; have g0 := (hb2.cell hyW).trans x0; have g1 := (hb2.cell hyW).trans x1; have g2 := (hb2.cell hyW).trans x2; have g3 := (hb2.cell hbW).trans d0; have g4 := (hb2.cell hbW).trans d1; have g5 := (hb2.cell hbW).trans d2; have g6 := (hb2.cell hbW).trans d4; have n0' := (hb2.cell hnW).trans n0; have n1' := (hb2.cell hnW).trans n1; have n2' := (hb2.cell hnW).trans n2; have f0' := (hb2.frozen hnW).trans f0; have f1' := (hb2.frozen hnW).trans f1; have f2' := (hb2.frozen hnW).trans f2; have HX := Lib.hid (And.intro hav' hli'); clear hav' hli'))
  go_wp2_with fail
  have B2 : Below w.heap.size w w2 := BB.out.2.trans (hb2.mono (Nat.le_of_lt hnW))
  refine bodyPost_ret (v := .tuple #[.agg #[.int .i64 ya, .int .i64 yn, .int .i64 ys], .pointer p]) (by simp [results, Try.results40, go_sem, n0', n1', n2']) rfl ?_
  refine ⟨p, T', rfl, ?_, HX.out.1, by rw [HX.out.2, e1.out.2], ((B2.setCell (Nat.le_refl _) _).setCell (Nat.le_refl _) _).setCell (Nat.le_refl _) _⟩
  refine IsT.turn (N := w.heap.size) (W := w2) (n := w2.heap.size) ?_ (fun k hk => by rw [Below.heap_setCell _ _ _ _ hk, Below.heap_setCell _ _ _ _ hk, Below.heap_setCell _ _ _ _ hk]) (by simp) ha'
  exact (hb2.cell (p := ⟨w.heap.size, 3, none⟩) hnW).trans ((BB.out.1.cell (p := ⟨w.heap.size, 3, none⟩) (by simp)).trans (zero_box w).2.2.2.2.2.2)

theorem first_any (T : BT X) : ∀ (x : X) (L : List X) (p : Option Addr) (w : World), At w p T → li T = x :: L → sml (li T) → avl T → Calls Try.prog 40 #[.pointer p] w (RetF w x L) := by
  induction T with
  | nil => intro x L p w _ h; simp [li] at h
  | node i j y l r ihl _ =>
    intro x L p w hT hL hs av
    cases hl : l with
    | nil =>
      subst hl
      simp only [li, List.nil_append, List.cons.injEq] at hL
      obtain ⟨rfl, rfl⟩ := hL
      exact first_leaf p y r i j w hT av.2.1
    | node i' j' z ll lr =>
      have hne : l ≠ .nil := by rw [hl]; simp
      obtain ⟨x0, L0, h0⟩ : ∃ x0 L0, li l = x0 :: L0 := by
        cases h : li l with
        | nil => rw [hl] at h; simp [li] at h
        | cons a b => exact ⟨a, b, rfl⟩
      simp only [li] at hL hs
      rw [h0] at hL hs
      simp only [List.cons_append, List.cons.injEq] at hL
      obtain ⟨rfl, rfl⟩ := hL
      exact first_node p y x0 L0 l r i j w hT hs av.2.1 hne (fun q w' hq => ihl x0 L0 q w' hq h0 (by rw [h0]; exact hs.left) av.1)

end Go.Proofs.Ytdfdnimledcfbaa
