/- What last returns: the last extent of a tree and a balanced tree of the rest. Conditions: the numbers are small. -/
import Derived.Test.YtdfdnimledcfbaaFirst
namespace Go.Proofs.Ytdfdnimledcfbaa
open Go.RowKit
open Go.Deep (BT)
attribute [local go_sem ↓] Go.wp_at_zero Go.wp_at_succ

set_option maxHeartbeats 4000000 in
set_option maxRecDepth 100000 in
theorem last_leaf (p : Option Addr) (x : X) (l : BT X) (i j : Nat) (w : World) (hT : At w p (.node i j x l .nil)) (al : avl l) :
    Calls Try.prog 38 #[.pointer p] w (RetF w x (li l)) := by
  obtain ⟨b, p1, p2, rfl, hb, c0, c1, c2, c3, c4, c5, c6, c7, h3, h4⟩ := hT
  obtain rfl : p2 = none := h4
  clear c5 c6 c7
  obtain ⟨xa, xn, xs⟩ := x
  dsimp only at c0 c1 c2
  go_enter Try.func38, Try.ntmps38
  go_wp2
  have e0 := World.new_ne w ⟨b, 0, none⟩ c0
  have e1 := World.new_ne w ⟨b, 1, none⟩ c1
  have e2 := World.new_ne w ⟨b, 2, none⟩ c2
  have e4 := World.new_ne w ⟨b, 3, none⟩ c3
  go_region_held3 (fun w' => w'.cell? ⟨b, 0, none⟩ = some (.int .i64 xa) ∧ w'.cell? ⟨b, 1, none⟩ = some (.int .i64 xn) ∧ w'.cell? ⟨b, 2, none⟩ = some (.int .i64 xs) ∧ w'.cell? ⟨b, 3, none⟩ = some (.pointer p1)) (go_keep) (fail)
  go_wp2
  refine bodyPost_ret (v := .tuple #[.agg #[.int .i64 xa, .int .i64 xn, .int .i64 xs], .pointer p1]) (by simp [results, Try.results38, go_sem]) rfl ?_
  have hbw := fun o => ((Below.refl _ w).alloc (Nat.le_refl _) o).drew
  exact ⟨p1, l, rfl, IsT.below (hbw _) (by simp) h3, al, rfl, hbw _⟩

set_option maxHeartbeats 4000000 in
set_option maxRecDepth 100000 in
theorem last_node (p : Option Addr) (x y : X) (L : List X) (l r : BT X) (i j : Nat) (w : World) (hT : At w p (.node i j x l r)) (hs : sml (li l ++ x :: L)) (al : avl l) (hne : r ≠ .nil)
    (ih : ∀ (p : Option Addr) (w : World), At w p r → Calls Try.prog 38 #[.pointer p] w (RetF w y L)) :
    Calls Try.prog 38 #[.pointer p] w (RetF w y (li l ++ x :: L)) := by
  have IH := Lib.hid ih; clear ih
  obtain ⟨b, p1, p2, rfl, hb, c0, c1, c2, c3, c4, c5, c6, c7, h3, h4⟩ := hT
  have hp1 : ∃ a, p2 = some a := by
    cases r with
    | nil => exact absurd rfl hne
    | node _ _ _ _ _ => obtain ⟨b', _, _, h, _⟩ := h4; exact ⟨_, h⟩
  obtain ⟨a1, rfl⟩ := hp1
  clear c5 c6 c7 hne
  have HS := Lib.hid hs; clear hs
  have H4 := Lib.hid (show At w (some a1) r from h4); clear h4
  have H3 := Lib.hid (show At w p1 l from h3); clear h3
  have HG := Lib.hid (fun o => ((Below.refl _ w).alloc (Nat.le_refl _) o : Below w.heap.size w (w.alloc o)))
  obtain ⟨xa, xn, xs⟩ := x
  obtain ⟨ya, yn, ys⟩ := y
  dsimp only at c0 c1 c2
  go_enter Try.func38, Try.ntmps38
  go_wp2_with fail
  refine (IH.out _ _ (H4.out.below (HG.out _))).mono ?_
  rintro e w1 ⟨q, T, rfl, ha, hav, hli, hb1⟩
  unfold ag
  dsimp only
  go_wp2_with fail
  have e1 := Lib.hid (And.intro hav hli); clear hav hli
  obtain ⟨W, hW, bW, sW, x0, x1, x2⟩ := box_world w1 ⟨ya, yn, ys⟩ 0
  replace hW : W = w1.alloc (.cells #[.int .i64 ya, .int .i64 yn, .int .i64 ys] 31) := hW
  dsimp only at x0 x1 x2
  rw [← hW]
  clear hW
  obtain ⟨k0, k1, k2, z0, z1, z2, _⟩ := zero_box w
  have s1 : w.heap.size + 1 ≤ w1.heap.size := by have := hb1.size; simpa using this
  have bA := hb1.trans (bW.mono hb1.size)
  have bB : Below w.heap.size w W := ((Below.refl _ w).alloc (Nat.le_refl _) _).trans (bA.mono (by simp))
  have d0 := (bB.cell (p := ⟨b, 0, none⟩) hb).trans c0
  have d1 := (bB.cell (p := ⟨b, 1, none⟩) hb).trans c1
  have d2 := (bB.cell (p := ⟨b, 2, none⟩) hb).trans c2
  have d4 := (bB.cell (p := ⟨b, 3, none⟩) hb).trans c3
  have n0 := (bA.cell (p := ⟨w.heap.size, 0, none⟩) (by simp)).trans k0
  have n1 := (bA.cell (p := ⟨w.heap.size, 1, none⟩) (by simp)).trans k1
  have n2 := (bA.cell (p := ⟨w.heap.size, 2, none⟩) (by simp)).trans k2
  have f0 := (bA.frozen (p := ⟨w.heap.size, 0, none⟩) (by simp)).trans z0
  have f1 := (bA.frozen (p := ⟨w.heap.size, 1, none⟩) (by simp)).trans z1
  have f2 := (bA.frozen (p := ⟨w.heap.size, 2, none⟩) (by simp)).trans z2
  have A3 := Lib.hid (At.below ha bW)
  have A4 := Lib.hid (At.below H3.out bB)
  have BB := Lib.hid (And.intro bA bB)
  clear c0 c1 c2 c3 c4 k0 k1 k2 z0 z1 z2 bA bB bW hb1 ha
  have hbW : b < W.heap.size := by omega
  have hnW : w.heap.size < W.heap.size := by omega
  have hyW : w1.heap.size < W.heap.size := by omega
  have q1 : w.heap.size ≠ b := by omega
  have q2 : w.heap.size ≠ w1.heap.size := by omega
  go_region_held3 (fun w' => w'.cell? ⟨w1.heap.size, 0, none⟩ = some (.int .i64 ya) ∧ w'.cell? ⟨w1.heap.size, 1, none⟩ = some (.int .i64 yn) ∧ w'.cell? ⟨w1.heap.size, 2, none⟩ = some (.int .i64 ys) ∧ w'.cell? ⟨b, 0, none⟩ = some (.int .i64 xa) ∧ w'.cell? ⟨b, 1, none⟩ = some (.int .i64 xn) ∧ w'.cell? ⟨b, 2, none⟩ = some (.int .i64 xs) ∧ w'.cell? ⟨b, 3, none⟩ = some (.pointer p1))
    ((first | exact ⟨x0, x1, x2, d0, d1, d2, d4⟩ | exact ⟨g0, g1, g2, g3, g4, g5, g6⟩ | go_keep))
    (first | (go_at_call_of 41 q; refine (join_any p1 q ⟨xa, xn, xs⟩ l T _ (A4.out.below (Below.refl _ W).drew) (A3.out.below (Below.refl _ W).drew) (by rw [e1.out.2]; exact HS.out) al e1.out.1).mono ?_; rintro e w2 ⟨p, T', rfl, ha', hav', hli', hb2'⟩; have hb2 := (Below.refl _ W).drew.trans hb2'; have g0 := (hb2.cell hyW).trans x0; have g1 := (hb2.cell hyW).trans x1; have g2 := (hb2.cell hyW).trans x2; have g3 := (hb2.cell hbW).trans d0; have g4 := (hb2.cell hbW).trans d1; have g5 := (hb2.cell hbW).trans d2; have g6 := (hb2.cell hbW).trans d4; have n0' := (hb2.cell hnW).trans n0; have n1' := (hb2.cell hnW).trans n1; have n2' := (hb2.cell hnW).trans n2; have f0' := (hb2.frozen hnW).trans f0; have f1' := (hb2.frozen hnW).trans f1; have f2' := (hb2.frozen hnW).trans f2; have HX := Lib.hid (And.intro hav' hli'); clear hav' hli'))
  go_wp2_with fail
  have B2 : Below w.heap.size w w2 := BB.out.2.trans (hb2.mono (Nat.le_of_lt hnW))
  refine bodyPost_ret (v := .tuple #[.agg #[.int .i64 ya, .int .i64 yn, .int .i64 ys], .pointer p]) (by simp [results, Try.results38, go_sem, n0', n1', n2']) rfl ?_
  refine ⟨p, T', rfl, ?_, HX.out.1, by rw [HX.out.2, e1.out.2], ((B2.setCell (Nat.le_refl _) _).setCell (Nat.le_refl _) _).setCell (Nat.le_refl _) _⟩
  refine IsT.turn (N := w.heap.size) (W := w2) (n := w2.heap.size) ?_ (fun k hk => by rw [Below.heap_setCell _ _ _ _ hk, Below.heap_setCell _ _ _ _ hk, Below.heap_setCell _ _ _ _ hk]) (by simp) ha'
  exact (hb2.cell (p := ⟨w.heap.size, 3, none⟩) hnW).trans ((BB.out.1.cell (p := ⟨w.heap.size, 3, none⟩) (by simp)).trans (zero_box w).2.2.2.2.2.2)

theorem last_any (T : BT X) : ∀ (x : X) (L : List X) (p : Option Addr) (w : World), At w p T → li T = L ++ [x] → sml (li T) → avl T → Calls Try.prog 38 #[.pointer p] w (RetF w x L) := by
  induction T with
  | nil => intro x L p w _ h; simp [li] at h
  | node i j y l r _ ihr =>
    intro x L p w hT hL hs av
    cases hr : r with
    | nil =>
      subst hr
      simp only [li] at hL
      have h1 := List.append_inj' hL rfl
      obtain ⟨h1, h2⟩ := h1
      simp only [List.cons.injEq, and_true] at h2
      subst h1; subst h2
      exact last_leaf p y l i j w hT av.1
    | node i' j' z ll lr =>
      have hne : r ≠ .nil := by rw [hr]; simp
      obtain ⟨x0, L0, h0⟩ : ∃ x0 L0, li r = L0 ++ [x0] := by
        have h : li r ≠ [] := by rw [hr]; simp [li]
        exact ⟨_, _, (List.dropLast_concat_getLast h).symm⟩
      simp only [li] at hL hs
      rw [h0] at hL hs
      rw [← List.cons_append, ← List.append_assoc] at hL hs
      have h1 := List.append_inj' hL rfl
      obtain ⟨h1, h2⟩ := h1
      simp only [List.cons.injEq, and_true] at h2
      subst h1; subst h2
      have hs' : sml (L0 ++ [x0]) := by
        have : sml (li l ++ (y :: (L0 ++ [x0]))) := by simpa using hs
        exact this.right.tail
      exact last_node p y x0 L0 l r i j w hT hs.left av.1 hne (fun q w' hq => ihr x0 L0 q w' hq h0 (by rw [h0]; exact hs') av.2.1)

end Go.Proofs.Ytdfdnimledcfbaa
