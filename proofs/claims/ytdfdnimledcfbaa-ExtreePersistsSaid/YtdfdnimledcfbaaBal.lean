/- What balance returns: the node of two trees, rotated where their depths differ by two. Conditions: the numbers are small. -/
import Derived.Test.YtdfdnimledcfbaaBuild
import Derived.Deep.RegionHeld3
import Derived.Deep.DrawnRows
namespace Go.Proofs.Ytdfdnimledcfbaa
open Go.RowKit
open Go.Deep (BT)
attribute [local go_sem ↓] Go.wp_at_zero Go.wp_at_succ

theorem IsT.quiet {w : World} {p : Option Addr} {T : BT X} (h : IsT w.heap.size w p T) (o : Obj) (n : Nat) : IsT w.heap.size ((w.alloc o).drewN n) p T :=
  IsT.below (B := (w.alloc o).drewN n) ((Below.refl _ w).alloc (Nat.le_refl _) o |>.trans ⟨rfl, rfl, rfl, Nat.le_refl _, fun _ _ => rfl⟩) (Nat.le_refl _) h

/-- The world behind the box of an extent and some draws: all that a walk wants of it. -/
theorem box_world (w : World) (x : X) (n : Nat) : ∃ W, W = (w.alloc (.cells #[.int .i64 x.a, .int .i64 x.n, .int .i64 x.s] 31)).drewN n ∧ Below w.heap.size w W ∧ w.heap.size + 1 = W.heap.size ∧
    W.cell? ⟨w.heap.size, 0, none⟩ = some (.int .i64 x.a) ∧ W.cell? ⟨w.heap.size, 1, none⟩ = some (.int .i64 x.n) ∧ W.cell? ⟨w.heap.size, 2, none⟩ = some (.int .i64 x.s) := by
  refine ⟨_, rfl, (Below.refl _ w).alloc (Nat.le_refl _) _ |>.trans ⟨rfl, rfl, rfl, Nat.le_refl _, fun _ _ => rfl⟩, by simp, ?_, ?_, ?_⟩
  all_goals
    show (match (w.heap.push _)[w.heap.size]? with | some (.cells c _ _) => _ | _ => _) = _
    rw [Array.getElem?_push_size]
    rfl

set_option maxHeartbeats 1000000 in
theorem bal_mid (pl pr : Option Addr) (x : X) (l r : BT X) (w : World) (hl : At w pl l) (hr : At w pr r) (hs : sml (li l ++ x :: li r)) (h1 : dp l ≤ dp r + 1) (h2 : dp r ≤ dp l + 1) :
    Calls Try.prog 55 #[.pointer pl, ag x, .pointer pr] w (RetT w (.node 0 0 x l r)) := by
  have b1 := dp_le l
  have b2 := dp_le r
  have b3 := hs.1
  simp only [List.length_append, List.length_cons] at b3
  have hl1 : ∀ o, At (w.alloc o) pl l := fun o => hl.below ((Below.refl _ w).alloc (Nat.le_refl _) o)
  have hr1 : ∀ o, At (w.alloc o) pr r := fun o => hr.below ((Below.refl _ w).alloc (Nat.le_refl _) o)
  have HL := Lib.hid hl1; clear hl1
  have HR := Lib.hid hr1; clear hr1
  have HS := Lib.hid hs; clear hs
  obtain ⟨xa, xn, xs⟩ := x
  unfold ag
  dsimp only
  go_enter Try.func55, Try.ntmps55
  go_wp2_with fail
  refine (deep_any _ l _ _ (HL.out _)).mono ?_
  rintro e w' ⟨rfl, rfl⟩
  go_wp2_with fail
  refine (deep_any _ r _ _ (HR.out _)).mono ?_
  rintro e w' ⟨rfl, rfl⟩
  go_wp2_with fail
  refine (deep_any _ r _ _ (HR.out _)).mono ?_
  rintro e w' ⟨rfl, rfl⟩
  go_wp2_with fail
  refine (deep_any _ l _ _ (HL.out _)).mono ?_
  rintro e w' ⟨rfl, rfl⟩
  go_wp2_with fail
  refine (build_any pl pr ⟨xa, xn, xs⟩ l r _ (HL.out _) (HR.out _) HS.out).mono ?_
  rintro e w' ⟨p, rfl, ha, hb⟩
  go_wp2_with fail
  go_ret
  exact ⟨p, rfl, ha, ((Below.refl _ w).alloc (Nat.le_refl _) _).trans (hb.mono (by simp))⟩


set_option maxHeartbeats 4000000 in
set_option maxRecDepth 100000 in
theorem bal_l1 (pl pr : Option Addr) (x yx : X) (ll lr r : BT X) (i j : Nat) (w : World) (hl : At w pl (.node i j yx ll lr)) (hr : At w pr r) (hs : sml (li (.node i j yx ll lr) ++ x :: li r))
    (h1 : dp r + 1 < dp (.node i j yx ll lr)) (h2 : dp lr ≤ dp ll) :
    Calls Try.prog 55 #[.pointer pl, ag x, .pointer pr] w (RetT w (.node 0 0 yx ll (.node 0 0 x lr r))) := by
  have b1 := dp_le (.node i j yx ll lr)
  have b2 := dp_le r
  have b3 := hs.1
  simp only [List.length_append, List.length_cons] at b3
  have HL0 := Lib.hid hl
  have HR0 := Lib.hid hr
  obtain ⟨b, p1, p2, rfl, hb, c0, c1, c2, c3, c4, c5, c6, c7, h3, h4⟩ := hl
  clear c5 c6 c7
  have HG := Lib.hid (fun o => ((Below.refl _ w).alloc (Nat.le_refl _) o : Below w.heap.size w (w.alloc o)))
  have HQ := Lib.hid (fun o n {p T} (h : IsT w.heap.size w p T) => (IsT.quiet h o n : IsT w.heap.size ((w.alloc o).drewN n) p T))
  have S2 : Hid (sml (li ll ++ yx :: li (BT.node 0 0 x lr r))) := (show sml (li ll ++ yx :: li (BT.node 0 0 x lr r)) from by simpa [li] using hs)
  have S1 : Hid (sml (li lr ++ x :: li r)) := (show sml (li lr ++ x :: li r) from by have := S2.out.right.tail; simpa [li] using this)
  clear hs
  obtain ⟨xa, xn, xs⟩ := x
  obtain ⟨ya, yn, ys⟩ := yx
  unfold ag
  dsimp only at c0 c1 c2 ⊢
  go_enter Try.func55, Try.ntmps55
  go_wp2_with fail
  refine (deep_any _ _ _ _ (HL0.out.below (HG.out _))).mono ?_
  rintro e w' ⟨rfl, rfl⟩
  go_wp2_with fail
  refine (deep_any _ _ _ _ (HR0.out.below (HG.out _))).mono ?_
  rintro e w' ⟨rfl, rfl⟩
  go_wp2_with fail
  go_quiet (first | (go_at_call_of 51 p1; exact Calls.quiet_of_same (sm (deep_any _ _ _ _ (HQ.out _ _ h3)))) | (go_at_call_of 51 p2; exact Calls.quiet_of_same (sm (deep_any _ _ _ _ (HQ.out _ _ h4)))))
  go_wp2_with fail
  obtain ⟨W, hW, bW, sW, x0, x1, x2⟩ := box_world w ⟨xa, xn, xs⟩ nq
  dsimp only at x0 x1 x2 hW
  rw [← hW]
  clear hW
  have d0 := (bW.cell (p := ⟨b, 0, none⟩) hb).trans c0
  have d1 := (bW.cell (p := ⟨b, 1, none⟩) hb).trans c1
  have d2 := (bW.cell (p := ⟨b, 2, none⟩) hb).trans c2
  have d3 := (bW.cell (p := ⟨b, 3, none⟩) hb).trans c3
  have d4 := (bW.cell (p := ⟨b, 4, none⟩) hb).trans c4
  clear c0 c1 c2 c3 c4
  have hbW : b < W.heap.size := by omega
  have hnW : w.heap.size < W.heap.size := by omega
  have A3 := Lib.hid (At.below (show At w p1 _ from h3) bW)
  have A4 := Lib.hid (At.below (show At w p2 _ from h4) bW)
  have A5 := Lib.hid (At.below HR0.out bW)
  clear h3 h4
  have KS : Hid (∀ w', Below W.heap.size W w' → (Below W.heap.size W w' ∧ w'.cell? ⟨w.heap.size, 0, none⟩ = some (.int .i64 xa) ∧ w'.cell? ⟨w.heap.size, 1, none⟩ = some (.int .i64 xn) ∧ w'.cell? ⟨w.heap.size, 2, none⟩ = some (.int .i64 xs) ∧ w'.cell? ⟨b, 0, none⟩ = some (.int .i64 ya) ∧ w'.cell? ⟨b, 1, none⟩ = some (.int .i64 yn) ∧ w'.cell? ⟨b, 2, none⟩ = some (.int .i64 ys) ∧ w'.cell? ⟨b, 3, none⟩ = some (.pointer p1) ∧ w'.cell? ⟨b, 4, none⟩ = some (.pointer p2))) :=
    fun w' h => ⟨h, (h.cell (p := ⟨w.heap.size, 0, none⟩) hnW).trans x0, (h.cell (p := ⟨w.heap.size, 1, none⟩) hnW).trans x1, (h.cell (p := ⟨w.heap.size, 2, none⟩) hnW).trans x2, (h.cell (p := ⟨b, 0, none⟩) hbW).trans d0, (h.cell (p := ⟨b, 1, none⟩) hbW).trans d1, (h.cell (p := ⟨b, 2, none⟩) hbW).trans d2, (h.cell (p := ⟨b, 3, none⟩) hbW).trans d3, (h.cell (p := ⟨b, 4, none⟩) hbW).trans d4⟩
  go_region_held3 (fun w' => Below W.heap.size W w' ∧ w'.cell? ⟨w.heap.size, 0, none⟩ = some (.int .i64 xa) ∧ w'.cell? ⟨w.heap.size, 1, none⟩ = some (.int .i64 xn) ∧ w'.cell? ⟨w.heap.size, 2, none⟩ = some (.int .i64 xs) ∧ w'.cell? ⟨b, 0, none⟩ = some (.int .i64 ya) ∧ w'.cell? ⟨b, 1, none⟩ = some (.int .i64 yn) ∧ w'.cell? ⟨b, 2, none⟩ = some (.int .i64 ys) ∧ w'.cell? ⟨b, 3, none⟩ = some (.pointer p1) ∧ w'.cell? ⟨b, 4, none⟩ = some (.pointer p2))
    ((refine KS.out _ ?_; first | exact (Below.refl _ _).drew | exact hb2 | exact hb1))
    (first | (go_at_call_of 56 p2; refine (build_any p2 pr ⟨xa, xn, xs⟩ lr r _ (A4.out.below (Below.refl _ W).drew) (A5.out.below (Below.refl _ W).drew) S1.out).mono ?_; rintro e w1 ⟨p, rfl, ha, hb1'⟩; have hb1 := (Below.refl _ W).drew.trans hb1') | (go_at_call_of 56 p1; refine (build_any p1 p ⟨ya, yn, ys⟩ ll (.node 0 0 ⟨xa, xn, xs⟩ lr r) _ (A3.out.below hb1) ha S2.out).mono ?_; rintro e w2 ⟨p', rfl, ha', hb2'⟩; have hb2 := hb1.trans (hb2'.mono hb1.size)))
  go_wp2_with fail
  go_ret
  exact ⟨p', rfl, ha', bW.trans (hb2.mono bW.size)⟩

set_option maxHeartbeats 4000000 in
set_option maxRecDepth 100000 in
theorem bal_r1 (pl pr : Option Addr) (x yx : X) (l rl rr : BT X) (i j : Nat) (w : World) (hl : At w pl l) (hr : At w pr (.node i j yx rl rr)) (hs : sml (li l ++ x :: li (.node i j yx rl rr)))
    (h1 : dp l + 1 < dp (.node i j yx rl rr)) (h2 : dp rl ≤ dp rr) :
    Calls Try.prog 55 #[.pointer pl, ag x, .pointer pr] w (RetT w (.node 0 0 yx (.node 0 0 x l rl) rr)) := by
  have b1 := dp_le l
  have b2 := dp_le (.node i j yx rl rr)
  have b3 := hs.1
  simp only [List.length_append, List.length_cons] at b3
  have HL0 := Lib.hid hl
  have HR0 := Lib.hid hr
  obtain ⟨b, p1, p2, rfl, hb, c0, c1, c2, c3, c4, c5, c6, c7, h3, h4⟩ := hr
  clear c5 c6 c7
  have HG := Lib.hid (fun o => ((Below.refl _ w).alloc (Nat.le_refl _) o : Below w.heap.size w (w.alloc o)))
  have HQ := Lib.hid (fun o n {p T} (h : IsT w.heap.size w p T) => (IsT.quiet h o n : IsT w.heap.size ((w.alloc o).drewN n) p T))
  have S2 : Hid (sml (li (BT.node 0 0 x l rl) ++ yx :: li rr)) := (show sml (li (BT.node 0 0 x l rl) ++ yx :: li rr) from by simpa [li] using hs)
  have S1 : Hid (sml (li l ++ x :: li rl)) := (show sml (li l ++ x :: li rl) from by have := S2.out.left; simpa [li] using this)
  clear hs
  obtain ⟨xa, xn, xs⟩ := x
  obtain ⟨ya, yn, ys⟩ := yx
  unfold ag
  dsimp only at c0 c1 c2 ⊢
  go_enter Try.func55, Try.ntmps55
  go_wp2_with fail
  refine (deep_any _ _ _ _ (HL0.out.below (HG.out _))).mono ?_
  rintro e w' ⟨rfl, rfl⟩
  go_wp2_with fail
  refine (deep_any _ _ _ _ (HR0.out.below (HG.out _))).mono ?_
  rintro e w' ⟨rfl, rfl⟩
  go_wp2_with fail
  refine (deep_any _ _ _ _ (HR0.out.below (HG.out _))).mono ?_
  rintro e w' ⟨rfl, rfl⟩
  go_wp2_with fail
  refine (deep_any _ _ _ _ (HL0.out.below (HG.out _))).mono ?_
  rintro e w' ⟨rfl, rfl⟩
  go_wp2_with fail
  go_quiet (first | (go_at_call_of 51 p1; exact Calls.quiet_of_same (sm (deep_any _ _ _ _ (HQ.out _ _ h3)))) | (go_at_call_of 51 p2; exact Calls.quiet_of_same (sm (deep_any _ _ _ _ (HQ.out _ _ h4)))))
  go_wp2_with fail
  obtain ⟨W, hW, bW, sW, x0, x1, x2⟩ := box_world w ⟨xa, xn, xs⟩ nq
  dsimp only at x0 x1 x2 hW
  rw [← hW]
  clear hW
  have d0 := (bW.cell (p := ⟨b, 0, none⟩) hb).trans c0
  have d1 := (bW.cell (p := ⟨b, 1, none⟩) hb).trans c1
  have d2 := (bW.cell (p := ⟨b, 2, none⟩) hb).trans c2
  have d3 := (bW.cell (p := ⟨b, 3, none⟩) hb).trans c3
  have d4 := (bW.cell (p := ⟨b, 4, none⟩) hb).trans c4
  clear c0 c1 c2 c3 c4
  have hbW : b < W.heap.size := by omega
  have hnW : w.heap.size < W.heap.size := by omega
  have A3 := Lib.hid (At.below (show At w p1 _ from h3) bW)
  have A4 := Lib.hid (At.below (show At w p2 _ from h4) bW)
  have A5 := Lib.hid (At.below HL0.out bW)
  clear h3 h4
  have KS : Hid (∀ w', Below W.heap.size W w' → (Below W.heap.size W w' ∧ w'.cell? ⟨w.heap.size, 0, none⟩ = some (.int .i64 xa) ∧ w'.cell? ⟨w.heap.size, 1, none⟩ = some (.int .i64 xn) ∧ w'.cell? ⟨w.heap.size, 2, none⟩ = some (.int .i64 xs) ∧ w'.cell? ⟨b, 0, none⟩ = some (.int .i64 ya) ∧ w'.cell? ⟨b, 1, none⟩ = some (.int .i64 yn) ∧ w'.cell? ⟨b, 2, none⟩ = some (.int .i64 ys) ∧ w'.cell? ⟨b, 3, none⟩ = some (.pointer p1) ∧ w'.cell? ⟨b, 4, none⟩ = some (.pointer p2))) :=
    fun w' h => ⟨h, (h.cell (p := ⟨w.heap.size, 0, none⟩) hnW).trans x0, (h.cell (p := ⟨w.heap.size, 1, none⟩) hnW).trans x1, (h.cell (p := ⟨w.heap.size, 2, none⟩) hnW).trans x2, (h.cell (p := ⟨b, 0, none⟩) hbW).trans d0, (h.cell (p := ⟨b, 1, none⟩) hbW).trans d1, (h.cell (p := ⟨b, 2, none⟩) hbW).trans d2, (h.cell (p := ⟨b, 3, none⟩) hbW).trans d3, (h.cell (p := ⟨b, 4, none⟩) hbW).trans d4⟩
  go_region_held3 (fun w' => Below W.heap.size W w' ∧ w'.cell? ⟨w.heap.size, 0, none⟩ = some (.int .i64 xa) ∧ w'.cell? ⟨w.heap.size, 1, none⟩ = some (.int .i64 xn) ∧ w'.cell? ⟨w.heap.size, 2, none⟩ = some (.int .i64 xs) ∧ w'.cell? ⟨b, 0, none⟩ = some (.int .i64 ya) ∧ w'.cell? ⟨b, 1, none⟩ = some (.int .i64 yn) ∧ w'.cell? ⟨b, 2, none⟩ = some (.int .i64 ys) ∧ w'.cell? ⟨b, 3, none⟩ = some (.pointer p1) ∧ w'.cell? ⟨b, 4, none⟩ = some (.pointer p2))
    ((refine KS.out _ ?_; first | exact (Below.refl _ _).drew | exact hb2 | exact hb1))
    (first | (go_at_call_of 56 p1; refine (build_any pl p1 ⟨xa, xn, xs⟩ l rl _ (A5.out.below (Below.refl _ W).drew) (A3.out.below (Below.refl _ W).drew) S1.out).mono ?_; rintro e w1 ⟨p, rfl, ha, hb1'⟩; have hb1 := (Below.refl _ W).drew.trans hb1') | (go_at_call_of 56 p2; refine (build_any p p2 ⟨ya, yn, ys⟩ (.node 0 0 ⟨xa, xn, xs⟩ l rl) rr _ ha (A4.out.below hb1) S2.out).mono ?_; rintro e w2 ⟨p', rfl, ha', hb2'⟩; have hb2 := hb1.trans (hb2'.mono hb1.size)))
  go_wp2_with fail
  go_ret
  exact ⟨p', rfl, ha', bW.trans (hb2.mono bW.size)⟩

set_option maxHeartbeats 4000000 in
set_option maxRecDepth 100000 in
theorem bal_l2 (pl pr : Option Addr) (x yx mx : X) (ll ml mr r : BT X) (i j i' j' : Nat) (w : World) (hl : At w pl (.node i j yx ll (.node i' j' mx ml mr))) (hr : At w pr r) (hs : sml (li (.node i j yx ll (.node i' j' mx ml mr)) ++ x :: li r))
    (h1 : dp r + 1 < dp (.node i j yx ll (.node i' j' mx ml mr))) (h2 : dp ll < dp (.node i' j' mx ml mr)) :
    Calls Try.prog 55 #[.pointer pl, ag x, .pointer pr] w (RetT w (.node 0 0 mx (.node 0 0 yx ll ml) (.node 0 0 x mr r))) := by
  have b1 := dp_le (.node i j yx ll (.node i' j' mx ml mr))
  have b2 := dp_le r
  have b3 := hs.1
  simp only [List.length_append, List.length_cons] at b3
  have HL0 := Lib.hid hl
  have HR0 := Lib.hid hr
  obtain ⟨b, p1, p2, rfl, hb, c0, c1, c2, c3, c4, c5, c6, c7, h3, h4⟩ := hl
  clear c5 c6 c7
  have H3 := Lib.hid h3; have H4 := Lib.hid h4
  obtain ⟨m, q1, q2, rfl, hm, m0, m1, m2, m3, m4, m5, m6, m7, h5, h6⟩ := h4
  clear m5 m6 m7
  have HG := Lib.hid (fun o => ((Below.refl _ w).alloc (Nat.le_refl _) o : Below w.heap.size w (w.alloc o)))
  have HQ := Lib.hid (fun o n {p T} (h : IsT w.heap.size w p T) => (IsT.quiet h o n : IsT w.heap.size ((w.alloc o).drewN n) p T))
  have S3 : Hid (sml (li (BT.node 0 0 yx ll ml) ++ mx :: li (BT.node 0 0 x mr r))) := (show sml (li (BT.node 0 0 yx ll ml) ++ mx :: li (BT.node 0 0 x mr r)) from by simpa [li] using hs)
  have S1 : Hid (sml (li ll ++ yx :: li ml)) := (show sml (li ll ++ yx :: li ml) from by have := S3.out.left; simpa [li] using this)
  have S2 : Hid (sml (li mr ++ x :: li r)) := (show sml (li mr ++ x :: li r) from by have := S3.out.right.tail; simpa [li] using this)
  clear hs
  obtain ⟨xa, xn, xs⟩ := x
  obtain ⟨ya, yn, ys⟩ := yx
  obtain ⟨za, zn, zs⟩ := mx
  unfold ag
  dsimp only at c0 c1 c2 m0 m1 m2 ⊢
  go_enter Try.func55, Try.ntmps55
  go_wp2_with fail
  refine (deep_any _ _ _ _ (HL0.out.below (HG.out _))).mono ?_
  rintro e w' ⟨rfl, rfl⟩
  go_wp2_with fail
  refine (deep_any _ _ _ _ (HR0.out.below (HG.out _))).mono ?_
  rintro e w' ⟨rfl, rfl⟩
  go_wp2_with fail
  go_quiet (first | (go_at_call_of 51 p1; exact Calls.quiet_of_same (sm (deep_any _ _ _ _ (HQ.out _ _ h3)))) | (go_at_call_of 51 m; exact Calls.quiet_of_same (sm (deep_any _ _ _ _ (HQ.out _ _ H4.out)))))
  go_wp2_with fail
  obtain ⟨W, hW, bW, sW, x0, x1, x2⟩ := box_world w ⟨xa, xn, xs⟩ nq
  dsimp only at x0 x1 x2 hW
  rw [← hW]
  clear hW
  have d0 := (bW.cell (p := ⟨b, 0, none⟩) hb).trans c0
  have d1 := (bW.cell (p := ⟨b, 1, none⟩) hb).trans c1
  have d2 := (bW.cell (p := ⟨b, 2, none⟩) hb).trans c2
  have d3 := (bW.cell (p := ⟨b, 3, none⟩) hb).trans c3
  have d4 := (bW.cell (p := ⟨b, 4, none⟩) hb).trans c4
  clear c0 c1 c2 c3 c4
  have f0 := (bW.cell (p := ⟨m, 0, none⟩) hm).trans m0
  have f1 := (bW.cell (p := ⟨m, 1, none⟩) hm).trans m1
  have f2 := (bW.cell (p := ⟨m, 2, none⟩) hm).trans m2
  have f3 := (bW.cell (p := ⟨m, 3, none⟩) hm).trans m3
  have f4 := (bW.cell (p := ⟨m, 4, none⟩) hm).trans m4
  clear m0 m1 m2 m3 m4
  have hmW : m < W.heap.size := by omega
  have hbW : b < W.heap.size := by omega
  have hnW : w.heap.size < W.heap.size := by omega
  have A3 := Lib.hid (At.below (show At w p1 _ from h3) bW)
  have A5 := Lib.hid (At.below (show At w q1 _ from h5) bW)
  have A6 := Lib.hid (At.below (show At w q2 _ from h6) bW)
  have A7 := Lib.hid (At.below HR0.out bW)
  clear h5 h6 h3
  have KS : Hid (∀ w', Below W.heap.size W w' → (Below W.heap.size W w' ∧ w'.cell? ⟨w.heap.size, 0, none⟩ = some (.int .i64 xa) ∧ w'.cell? ⟨w.heap.size, 1, none⟩ = some (.int .i64 xn) ∧ w'.cell? ⟨w.heap.size, 2, none⟩ = some (.int .i64 xs) ∧ w'.cell? ⟨b, 0, none⟩ = some (.int .i64 ya) ∧ w'.cell? ⟨b, 1, none⟩ = some (.int .i64 yn) ∧ w'.cell? ⟨b, 2, none⟩ = some (.int .i64 ys) ∧ w'.cell? ⟨b, 3, none⟩ = some (.pointer p1) ∧ w'.cell? ⟨m, 0, none⟩ = some (.int .i64 za) ∧ w'.cell? ⟨m, 1, none⟩ = some (.int .i64 zn) ∧ w'.cell? ⟨m, 2, none⟩ = some (.int .i64 zs) ∧ w'.cell? ⟨m, 3, none⟩ = some (.pointer q1) ∧ w'.cell? ⟨m, 4, none⟩ = some (.pointer q2))) :=
    fun w' h => ⟨h, (h.cell (p := ⟨w.heap.size, 0, none⟩) hnW).trans x0, (h.cell (p := ⟨w.heap.size, 1, none⟩) hnW).trans x1, (h.cell (p := ⟨w.heap.size, 2, none⟩) hnW).trans x2, (h.cell (p := ⟨b, 0, none⟩) hbW).trans d0, (h.cell (p := ⟨b, 1, none⟩) hbW).trans d1, (h.cell (p := ⟨b, 2, none⟩) hbW).trans d2, (h.cell (p := ⟨b, 3, none⟩) hbW).trans d3, (h.cell (p := ⟨m, 0, none⟩) hmW).trans f0, (h.cell (p := ⟨m, 1, none⟩) hmW).trans f1, (h.cell (p := ⟨m, 2, none⟩) hmW).trans f2, (h.cell (p := ⟨m, 3, none⟩) hmW).trans f3, (h.cell (p := ⟨m, 4, none⟩) hmW).trans f4⟩
  go_region_held3 (fun w' => Below W.heap.size W w' ∧ w'.cell? ⟨w.heap.size, 0, none⟩ = some (.int .i64 xa) ∧ w'.cell? ⟨w.heap.size, 1, none⟩ = some (.int .i64 xn) ∧ w'.cell? ⟨w.heap.size, 2, none⟩ = some (.int .i64 xs) ∧ w'.cell? ⟨b, 0, none⟩ = some (.int .i64 ya) ∧ w'.cell? ⟨b, 1, none⟩ = some (.int .i64 yn) ∧ w'.cell? ⟨b, 2, none⟩ = some (.int .i64 ys) ∧ w'.cell? ⟨b, 3, none⟩ = some (.pointer p1) ∧ w'.cell? ⟨m, 0, none⟩ = some (.int .i64 za) ∧ w'.cell? ⟨m, 1, none⟩ = some (.int .i64 zn) ∧ w'.cell? ⟨m, 2, none⟩ = some (.int .i64 zs) ∧ w'.cell? ⟨m, 3, none⟩ = some (.pointer q1) ∧ w'.cell? ⟨m, 4, none⟩ = some (.pointer q2))
    ((refine KS.out _ ?_; first | exact (Below.refl _ _).drew | exact hb3 | exact hb2 | exact hb1))
    (first | (go_at_call_of 56 p'; refine (build_any p p' ⟨za, zn, zs⟩ (.node 0 0 ⟨ya, yn, ys⟩ ll ml) (.node 0 0 ⟨xa, xn, xs⟩ mr r) _ (ha.below hb2') ha' S3.out).mono ?_; rintro e w3 ⟨p'', rfl, ha'', hb3'⟩; have hb3 := hb2.trans (hb3'.mono hb2.size)) | (go_at_call_of 56 p1; refine (build_any p1 q1 ⟨ya, yn, ys⟩ ll ml _ (A3.out.below (Below.refl _ W).drew) (A5.out.below (Below.refl _ W).drew) S1.out).mono ?_; rintro e w1 ⟨p, rfl, ha, hb1'⟩; have hb1 := (Below.refl _ W).drew.trans hb1') | (go_at_call_of 56 q2; refine (build_any q2 pr ⟨xa, xn, xs⟩ mr r _ (A6.out.below hb1) (A7.out.below hb1) S2.out).mono ?_; rintro e w2 ⟨p', rfl, ha', hb2'⟩; have hb2 := hb1.trans (hb2'.mono hb1.size)))
  go_wp2_with fail
  go_ret
  exact ⟨p'', rfl, ha'', bW.trans (hb3.mono bW.size)⟩

set_option maxHeartbeats 4000000 in
set_option maxRecDepth 100000 in
theorem bal_r2 (pl pr : Option Addr) (x yx mx : X) (l ml mr rr : BT X) (i j i' j' : Nat) (w : World) (hl : At w pl l) (hr : At w pr (.node i j yx (.node i' j' mx ml mr) rr)) (hs : sml (li l ++ x :: li (.node i j yx (.node i' j' mx ml mr) rr)))
    (h1 : dp l + 1 < dp (.node i j yx (.node i' j' mx ml mr) rr)) (h2 : dp rr < dp (.node i' j' mx ml mr)) :
    Calls Try.prog 55 #[.pointer pl, ag x, .pointer pr] w (RetT w (.node 0 0 mx (.node 0 0 x l ml) (.node 0 0 yx mr rr))) := by
  have b1 := dp_le l
  have b2 := dp_le (.node i j yx (.node i' j' mx ml mr) rr)
  have b3 := hs.1
  simp only [List.length_append, List.length_cons] at b3
  have HL0 := Lib.hid hl
  have HR0 := Lib.hid hr
  obtain ⟨b, p1, p2, rfl, hb, c0, c1, c2, c3, c4, c5, c6, c7, h3, h4⟩ := hr
  clear c5 c6 c7
  have H3 := Lib.hid h3; have H4 := Lib.hid h4
  obtain ⟨m, q1, q2, rfl, hm, m0, m1, m2, m3, m4, m5, m6, m7, h5, h6⟩ := h3
  clear m5 m6 m7
  have HG := Lib.hid (fun o => ((Below.refl _ w).alloc (Nat.le_refl _) o : Below w.heap.size w (w.alloc o)))
  have HQ := Lib.hid (fun o n {p T} (h : IsT w.heap.size w p T) => (IsT.quiet h o n : IsT w.heap.size ((w.alloc o).drewN n) p T))
  have S3 : Hid (sml (li (BT.node 0 0 x l ml) ++ mx :: li (BT.node 0 0 yx mr rr))) := (show sml (li (BT.node 0 0 x l ml) ++ mx :: li (BT.node 0 0 yx mr rr)) from by simpa [li] using hs)
  have S1 : Hid (sml (li l ++ x :: li ml)) := (show sml (li l ++ x :: li ml) from by have := S3.out.left; simpa [li] using this)
  have S2 : Hid (sml (li mr ++ yx :: li rr)) := (show sml (li mr ++ yx :: li rr) from by have := S3.out.right.tail; simpa [li] using this)
  clear hs
  obtain ⟨xa, xn, xs⟩ := x
  obtain ⟨ya, yn, ys⟩ := yx
  obtain ⟨za, zn, zs⟩ := mx
  unfold ag
  dsimp only at c0 c1 c2 m0 m1 m2 ⊢
  go_enter Try.func55, Try.ntmps55
  go_wp2_with fail
  refine (deep_any _ _ _ _ (HL0.out.below (HG.out _))).mono ?_
  rintro e w' ⟨rfl, rfl⟩
  go_wp2_with fail
  refine (deep_any _ _ _ _ (HR0.out.below (HG.out _))).mono ?_
  rintro e w' ⟨rfl, rfl⟩
  go_wp2_with fail
  refine (deep_any _ _ _ _ (HR0.out.below (HG.out _))).mono ?_
  rintro e w' ⟨rfl, rfl⟩
  go_wp2_with fail
  refine (deep_any _ _ _ _ (HL0.out.below (HG.out _))).mono ?_
  rintro e w' ⟨rfl, rfl⟩
  go_wp2_with fail
  go_quiet (first | (go_at_call_of 51 p2; exact Calls.quiet_of_same (sm (deep_any _ _ _ _ (HQ.out _ _ h4)))) | (go_at_call_of 51 m; exact Calls.quiet_of_same (sm (deep_any _ _ _ _ (HQ.out _ _ H3.out)))))
  go_wp2_with fail
  obtain ⟨W, hW, bW, sW, x0, x1, x2⟩ := box_world w ⟨xa, xn, xs⟩ nq
  dsimp only at x0 x1 x2 hW
  rw [← hW]
  clear hW
  have d0 := (bW.cell (p := ⟨b, 0, none⟩) hb).trans c0
  have d1 := (bW.cell (p := ⟨b, 1, none⟩) hb).trans c1
  have d2 := (bW.cell (p := ⟨b, 2, none⟩) hb).trans c2
  have d3 := (bW.cell (p := ⟨b, 3, none⟩) hb).trans c3
  have d4 := (bW.cell (p := ⟨b, 4, none⟩) hb).trans c4
  clear c0 c1 c2 c3 c4
  have f0 := (bW.cell (p := ⟨m, 0, none⟩) hm).trans m0
  have f1 := (bW.cell (p := ⟨m, 1, none⟩) hm).trans m1
  have f2 := (bW.cell (p := ⟨m, 2, none⟩) hm).trans m2
  have f3 := (bW.cell (p := ⟨m, 3, none⟩) hm).trans m3
  have f4 := (bW.cell (p := ⟨m, 4, none⟩) hm).trans m4
  clear m0 m1 m2 m3 m4
  have hmW : m < W.heap.size := by omega
  have hbW : b < W.heap.size := by omega
  have hnW : w.heap.size < W.heap.size := by omega
  have A3 := Lib.hid (At.below (show At w p2 _ from h4) bW)
  have A5 := Lib.hid (At.below (show At w q1 _ from h5) bW)
  have A6 := Lib.hid (At.below (show At w q2 _ from h6) bW)
  have A7 := Lib.hid (At.below HL0.out bW)
  clear h5 h6 h4
  have KS : Hid (∀ w', Below W.heap.size W w' → (Below W.heap.size W w' ∧ w'.cell? ⟨w.heap.size, 0, none⟩ = some (.int .i64 xa) ∧ w'.cell? ⟨w.heap.size, 1, none⟩ = some (.int .i64 xn) ∧ w'.cell? ⟨w.heap.size, 2, none⟩ = some (.int .i64 xs) ∧ w'.cell? ⟨b, 0, none⟩ = some (.int .i64 ya) ∧ w'.cell? ⟨b, 1, none⟩ = some (.int .i64 yn) ∧ w'.cell? ⟨b, 2, none⟩ = some (.int .i64 ys) ∧ w'.cell? ⟨b, 4, none⟩ = some (.pointer p2) ∧ w'.cell? ⟨m, 0, none⟩ = some (.int .i64 za) ∧ w'.cell? ⟨m, 1, none⟩ = some (.int .i64 zn) ∧ w'.cell? ⟨m, 2, none⟩ = some (.int .i64 zs) ∧ w'.cell? ⟨m, 3, none⟩ = some (.pointer q1) ∧ w'.cell? ⟨m, 4, none⟩ = some (.pointer q2))) :=
    fun w' h => ⟨h, (h.cell (p := ⟨w.heap.size, 0, none⟩) hnW).trans x0, (h.cell (p := ⟨w.heap.size, 1, none⟩) hnW).trans x1, (h.cell (p := ⟨w.heap.size, 2, none⟩) hnW).trans x2, (h.cell (p := ⟨b, 0, none⟩) hbW).trans d0, (h.cell (p := ⟨b, 1, none⟩) hbW).trans d1, (h.cell (p := ⟨b, 2, none⟩) hbW).trans d2, (h.cell (p := ⟨b, 4, none⟩) hbW).trans d4, (h.cell (p := ⟨m, 0, none⟩) hmW).trans f0, (h.cell (p := ⟨m, 1, none⟩) hmW).trans f1, (h.cell (p := ⟨m, 2, none⟩) hmW).trans f2, (h.cell (p := ⟨m, 3, none⟩) hmW).trans f3, (h.cell (p := ⟨m, 4, none⟩) hmW).trans f4⟩
  go_region_held3 (fun w' => Below W.heap.size W w' ∧ w'.cell? ⟨w.heap.size, 0, none⟩ = some (.int .i64 xa) ∧ w'.cell? ⟨w.heap.size, 1, none⟩ = some (.int .i64 xn) ∧ w'.cell? ⟨w.heap.size, 2, none⟩ = some (.int .i64 xs) ∧ w'.cell? ⟨b, 0, none⟩ = some (.int .i64 ya) ∧ w'.cell? ⟨b, 1, none⟩ = some (.int .i64 yn) ∧ w'.cell? ⟨b, 2, none⟩ = some (.int .i64 ys) ∧ w'.cell? ⟨b, 4, none⟩ = some (.pointer p2) ∧ w'.cell? ⟨m, 0, none⟩ = some (.int .i64 za) ∧ w'.cell? ⟨m, 1, none⟩ = some (.int .i64 zn) ∧ w'.cell? ⟨m, 2, none⟩ = some (.int .i64 zs) ∧ w'.cell? ⟨m, 3, none⟩ = some (.pointer q1) ∧ w'.cell? ⟨m, 4, none⟩ = some (.pointer q2))
    ((refine KS.out _ ?_; first | exact (Below.refl _ _).drew | exact hb3 | exact hb2 | exact hb1))
    (first | (go_at_call_of 56 p'; refine (build_any p p' ⟨za, zn, zs⟩ (.node 0 0 ⟨xa, xn, xs⟩ l ml) (.node 0 0 ⟨ya, yn, ys⟩ mr rr) _ (ha.below hb2') ha' S3.out).mono ?_; rintro e w3 ⟨p'', rfl, ha'', hb3'⟩; have hb3 := hb2.trans (hb3'.mono hb2.size)) | (go_at_call_of 56 q1; refine (build_any pl q1 ⟨xa, xn, xs⟩ l ml _ (A7.out.below (Below.refl _ W).drew) (A5.out.below (Below.refl _ W).drew) S1.out).mono ?_; rintro e w1 ⟨p, rfl, ha, hb1'⟩; have hb1 := (Below.refl _ W).drew.trans hb1') | (go_at_call_of 56 p2; refine (build_any q2 p2 ⟨ya, yn, ys⟩ mr rr _ (A6.out.below hb1) (A3.out.below hb1) S2.out).mono ?_; rintro e w2 ⟨p', rfl, ha', hb2'⟩; have hb2 := hb1.trans (hb2'.mono hb1.size)))
  go_wp2_with fail
  go_ret
  exact ⟨p'', rfl, ha'', bW.trans (hb3.mono bW.size)⟩

end Go.Proofs.Ytdfdnimledcfbaa
