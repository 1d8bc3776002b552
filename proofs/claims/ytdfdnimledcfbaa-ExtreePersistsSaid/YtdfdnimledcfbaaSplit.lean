/- What concat and split return. Conditions: the lists are valid. -/
import Derived.Test.YtdfdnimledcfbaaLast
import Derived.Test.YtdfdnimledcfbaaLists
namespace Go.Proofs.Ytdfdnimledcfbaa
open Go.RowKit
open Go.Deep (BT)
attribute [local go_sem ↓] Go.wp_at_zero Go.wp_at_succ

set_option maxHeartbeats 1000000 in
theorem concat_any (pl pr : Option Addr) (l r : BT X) (w : World) (hl : At w pl l) (hr : At w pr r) (hs : sml (li l ++ li r)) (al : avl l) (ar : avl r) :
    Calls Try.prog 35 #[.pointer pl, .pointer pr] w (RetL w (li l ++ li r)) := by
  cases hr0 : r with
  | nil =>
    subst hr0
    obtain rfl : pr = none := hr
    have HL := Lib.hid (And.intro hl al); clear hl al
    go_enter Try.func35, Try.ntmps35
    go_wp2
    go_ret
    exact ⟨pl, l, rfl, HL.out.1, HL.out.2, by simp [li], Below.refl _ _⟩
  | node i j x u v =>
    rw [← hr0]
    obtain ⟨x0, L0, h0⟩ : ∃ x0 L0, li r = x0 :: L0 := by
      cases h : li r with
      | nil => rw [hr0] at h; simp [li] at h
      | cons a b => exact ⟨a, b, rfl⟩
    obtain ⟨a, rfl⟩ : ∃ a, pr = some a := by
      subst hr0
      obtain ⟨b', _, _, h, _⟩ := hr
      exact ⟨_, h⟩
    clear hr0
    have H1 := Lib.hid (first_any r x0 L0 (some a) w hr h0 hs.right ar)
    have HL := Lib.hid (And.intro hl (And.intro al (And.intro hs h0))); clear hl al hs h0
    obtain ⟨xa, xn, xs⟩ := x0
    go_enter Try.func35, Try.ntmps35
    go_wp2_with fail
    refine H1.out.mono ?_
    rintro e w1 ⟨q, T, rfl, ha, hav, hli, hb1⟩
    unfold ag
    dsimp only
    have e1 := Lib.hid (And.intro hav hli); clear hav hli
    go_wp2_with fail
    refine (join_any pl q ⟨xa, xn, xs⟩ l T _ ((HL.out.1.below hb1).below ((Below.refl _ w1).alloc (Nat.le_refl _) _)) (ha.below ((Below.refl _ w1).alloc (Nat.le_refl _) _)) (by rw [e1.out.2, ← HL.out.2.2.2]; exact HL.out.2.2.1) HL.out.2.1 e1.out.1).mono ?_
    rintro e w2 ⟨p, T', rfl, ha', hav', hli', hb2⟩
    have e2 := Lib.hid (And.intro hav' hli'); clear hav' hli'
    go_wp2_with fail
    go_ret
    exact ⟨p, T', rfl, ha', e2.out.1, by rw [e2.out.2, e1.out.2, ← HL.out.2.2.2], hb1.trans ((((Below.refl _ w1).alloc (Nat.le_refl _) _).trans (hb2.mono (by simp))).mono hb1.size)⟩

/-- Two balanced trees are returned; all that was there is as it was. -/
def RetS (w : World) (A B : List X) (e : Ending) (w' : World) : Prop := ∃ pa pb TA TB, e = .returned (.tuple #[.pointer pa, .pointer pb]) ∧ At w' pa TA ∧ At w' pb TB ∧ avl TA ∧ avl TB ∧ li TA = A ∧ li TB = B ∧ Below w.heap.size w w'

set_option maxHeartbeats 400000 in
theorem split_nil (t : Int) (w : World) : Calls Try.prog 34 #[.pointer none, .int .i64 t] w (RetS w [] []) := by
  go_enter Try.func34, Try.ntmps34
  go_wp2
  go_ret2
  exact ⟨none, none, .nil, .nil, rfl, rfl, rfl, trivial, trivial, rfl, rfl, Below.refl _ _⟩

set_option maxHeartbeats 4000000 in
set_option maxRecDepth 100000 in
theorem split_lo (p : Option Addr) (t : Int) (x : X) (l r : BT X) (i j : Nat) (A B : List X) (w : World) (hT : At w p (.node i j x l r)) (hs : sml (B ++ x :: li r)) (bx : 0 ≤ x.a ∧ x.a ≤ 1000000 ∧ 0 ≤ x.n ∧ x.n ≤ 1000000) (av : avl r) (h1 : t ≤ x.a)
    (ih : ∀ (p : Option Addr) (w : World), At w p l → Calls Try.prog 34 #[.pointer p, .int .i64 t] w (RetS w A B)) :
    Calls Try.prog 34 #[.pointer p, .int .i64 t] w (RetS w A (B ++ x :: li r)) := by
  have IH := Lib.hid ih; clear ih
  obtain ⟨b, p1, p2, rfl, hb, c0, c1, c2, c3, c4, c5, c6, c7, h3, h4⟩ := hT
  clear c5 c6 c7
  have HS := Lib.hid (And.intro hs av); clear hs av
  have H3 := Lib.hid (show At w p1 l from h3); clear h3
  have H4 := Lib.hid (show At w p2 r from h4); clear h4
  have HG := Lib.hid (fun o => ((Below.refl _ w).alloc (Nat.le_refl _) o : Below w.heap.size w (w.alloc o)))
  obtain ⟨xa, xn, xs⟩ := x
  dsimp only at c0 c1 c2 h1 bx
  obtain ⟨bx1, bx2, bx3, bx4⟩ := bx
  go_enter Try.func34, Try.ntmps34
  go_wp2_with fail
  refine (IH.out _ _ (H3.out.below (HG.out _))).mono ?_
  rintro e w1 ⟨qa, qb, TA, TB, rfl, ha, hc, va, vb, la, lb, hb1⟩
  have e1 := Lib.hid (And.intro va (And.intro vb (And.intro la lb))); clear va vb la lb
  go_wp2_with fail
  obtain ⟨V, hV, bV, sV, k0, k1, k2⟩ := box_world w ⟨xa, xn, xs⟩ 0
  replace hV : V = w.alloc (.cells #[.int .i64 xa, .int .i64 xn, .int .i64 xs] 31) := hV
  dsimp only at k0 k1 k2
  rw [← hV] at hb1
  clear hV
  have hw1 := hb1.size
  have bW : Below w.heap.size w w1 := bV.trans (hb1.mono (by omega))
  have x0 := (hb1.cell (p := ⟨w.heap.size, 0, none⟩) (by dsimp only; omega)).trans k0
  have x1 := (hb1.cell (p := ⟨w.heap.size, 1, none⟩) (by dsimp only; omega)).trans k1
  have x2 := (hb1.cell (p := ⟨w.heap.size, 2, none⟩) (by dsimp only; omega)).trans k2
  have d4 := (bW.cell (p := ⟨b, 4, none⟩) hb).trans c4
  clear k0 k1 k2 c0 c1 c2 c3 c4
  have hbW : b < w1.heap.size := by omega
  have hnW : w.heap.size < w1.heap.size := by omega
  have A3 := Lib.hid (At.below H4.out bW)
  have KS : Hid (∀ w', Below w1.heap.size w1 w' → (Below w1.heap.size w1 w' ∧ w'.cell? ⟨w.heap.size, 0, none⟩ = some (.int .i64 xa) ∧ w'.cell? ⟨w.heap.size, 1, none⟩ = some (.int .i64 xn) ∧ w'.cell? ⟨w.heap.size, 2, none⟩ = some (.int .i64 xs) ∧ w'.cell? ⟨b, 4, none⟩ = some (.pointer p2))) :=
    fun w' h => ⟨h, (h.cell (p := ⟨w.heap.size, 0, none⟩) hnW).trans x0, (h.cell (p := ⟨w.heap.size, 1, none⟩) hnW).trans x1, (h.cell (p := ⟨w.heap.size, 2, none⟩) hnW).trans x2, (h.cell (p := ⟨b, 4, none⟩) hbW).trans d4⟩
  go_region_held3 (fun w' => Below w1.heap.size w1 w' ∧ w'.cell? ⟨w.heap.size, 0, none⟩ = some (.int .i64 xa) ∧ w'.cell? ⟨w.heap.size, 1, none⟩ = some (.int .i64 xn) ∧ w'.cell? ⟨w.heap.size, 2, none⟩ = some (.int .i64 xs) ∧ w'.cell? ⟨b, 4, none⟩ = some (.pointer p2))
    ((refine KS.out _ ?_; first | exact (Below.refl _ _).drew | exact hb2))
    (first | (go_at_call_of 41 qb; refine (join_any qb p2 ⟨xa, xn, xs⟩ TB r _ (hc.below (Below.refl _ w1).drew) (A3.out.below (Below.refl _ w1).drew) (by rw [e1.out.2.2.2]; exact HS.out.1) e1.out.2.1 HS.out.2).mono ?_; rintro e w2 ⟨p', T', rfl, ha', hav', hli', hb2'⟩; have hb2 := (Below.refl _ w1).drew.trans hb2'; have HX := Lib.hid (And.intro hav' hli'); clear hav' hli'))
  go_wp2_with fail
  go_ret2
  exact ⟨qa, p', TA, T', rfl, ha.below hb2, ha', e1.out.1, HX.out.1, e1.out.2.2.1, by rw [HX.out.2, e1.out.2.2.2], bW.trans (hb2.mono bW.size)⟩

set_option maxHeartbeats 4000000 in
set_option maxRecDepth 100000 in
theorem split_hi (p : Option Addr) (t : Int) (x : X) (l r : BT X) (i j : Nat) (A B : List X) (w : World) (hT : At w p (.node i j x l r)) (hs : sml (li l ++ x :: A)) (bx : 0 ≤ x.a ∧ x.a ≤ 1000000 ∧ 0 ≤ x.n ∧ x.n ≤ 1000000) (av : avl l) (h0 : ¬ t ≤ x.a) (h1 : x.a + x.n ≤ t)
    (ih : ∀ (p : Option Addr) (w : World), At w p r → Calls Try.prog 34 #[.pointer p, .int .i64 t] w (RetS w A B)) :
    Calls Try.prog 34 #[.pointer p, .int .i64 t] w (RetS w (li l ++ x :: A) B) := by
  have IH := Lib.hid ih; clear ih
  obtain ⟨b, p1, p2, rfl, hb, c0, c1, c2, c3, c4, c5, c6, c7, h3, h4⟩ := hT
  clear c5 c6 c7
  have HS := Lib.hid (And.intro hs av); clear hs av
  have H3 := Lib.hid (show At w p1 l from h3); clear h3
  have H4 := Lib.hid (show At w p2 r from h4); clear h4
  have HG := Lib.hid (fun o => ((Below.refl _ w).alloc (Nat.le_refl _) o : Below w.heap.size w (w.alloc o)))
  obtain ⟨xa, xn, xs⟩ := x
  dsimp only at c0 c1 c2 h1 bx h0
  obtain ⟨bx1, bx2, bx3, bx4⟩ := bx
  go_enter Try.func34, Try.ntmps34
  go_wp2_with fail
  refine (IH.out _ _ (H4.out.below (HG.out _))).mono ?_
  rintro e w1 ⟨qa, qb, TA, TB, rfl, ha, hc, va, vb, la, lb, hb1⟩
  have e1 := Lib.hid (And.intro va (And.intro vb (And.intro la lb))); clear va vb la lb
  go_wp2_with fail
  obtain ⟨V, hV, bV, sV, k0, k1, k2⟩ := box_world w ⟨xa, xn, xs⟩ 0
  replace hV : V = w.alloc (.cells #[.int .i64 xa, .int .i64 xn, .int .i64 xs] 31) := hV
  dsimp only at k0 k1 k2
  rw [← hV] at hb1
  clear hV
  have hw1 := hb1.size
  have bW : Below w.heap.size w w1 := bV.trans (hb1.mono (by omega))
  have x0 := (hb1.cell (p := ⟨w.heap.size, 0, none⟩) (by dsimp only; omega)).trans k0
  have x1 := (hb1.cell (p := ⟨w.heap.size, 1, none⟩) (by dsimp only; omega)).trans k1
  have x2 := (hb1.cell (p := ⟨w.heap.size, 2, none⟩) (by dsimp only; omega)).trans k2
  have d3 := (bW.cell (p := ⟨b, 3, none⟩) hb).trans c3
  clear k0 k1 k2 c0 c1 c2 c3 c4
  have hbW : b < w1.heap.size := by omega
  have hnW : w.heap.size < w1.heap.size := by omega
  have A3 := Lib.hid (At.below H3.out bW)
  have KS : Hid (∀ w', Below w1.heap.size w1 w' → (Below w1.heap.size w1 w' ∧ w'.cell? ⟨w.heap.size, 0, none⟩ = some (.int .i64 xa) ∧ w'.cell? ⟨w.heap.size, 1, none⟩ = some (.int .i64 xn) ∧ w'.cell? ⟨w.heap.size, 2, none⟩ = some (.int .i64 xs) ∧ w'.cell? ⟨b, 3, none⟩ = some (.pointer p1))) :=
    fun w' h => ⟨h, (h.cell (p := ⟨w.heap.size, 0, none⟩) hnW).trans x0, (h.cell (p := ⟨w.heap.size, 1, none⟩) hnW).trans x1, (h.cell (p := ⟨w.heap.size, 2, none⟩) hnW).trans x2, (h.cell (p := ⟨b, 3, none⟩) hbW).trans d3⟩
  go_region_held3 (fun w' => Below w1.heap.size w1 w' ∧ w'.cell? ⟨w.heap.size, 0, none⟩ = some (.int .i64 xa) ∧ w'.cell? ⟨w.heap.size, 1, none⟩ = some (.int .i64 xn) ∧ w'.cell? ⟨w.heap.size, 2, none⟩ = some (.int .i64 xs) ∧ w'.cell? ⟨b, 3, none⟩ = some (.pointer p1))
    ((refine KS.out _ ?_; first | exact (Below.refl _ _).drew | exact hb2))
    (first | (go_at_call_of 41 qa; refine (join_any p1 qa ⟨xa, xn, xs⟩ l TA _ (A3.out.below (Below.refl _ w1).drew) (ha.below (Below.refl _ w1).drew) (by rw [e1.out.2.2.1]; exact HS.out.1) HS.out.2 e1.out.1).mono ?_; rintro e w2 ⟨p', T', rfl, ha', hav', hli', hb2'⟩; have hb2 := (Below.refl _ w1).drew.trans hb2'; have HX := Lib.hid (And.intro hav' hli'); clear hav' hli'))
  go_wp2_with fail
  go_ret2
  exact ⟨p', qb, T', TB, rfl, ha', hc.below hb2, HX.out.1, e1.out.2.1, by rw [HX.out.2, e1.out.2.2.1], e1.out.2.2.2, bW.trans (hb2.mono bW.size)⟩


set_option maxHeartbeats 4000000 in
set_option maxRecDepth 100000 in
theorem split_in (p : Option Addr) (t : Int) (x : X) (l r : BT X) (i j : Nat) (w : World) (hT : At w p (.node i j x l r)) (hs1 : sml (li l ++ [⟨x.a, t - x.a, x.s⟩])) (hs2 : sml (⟨t, x.n - (t - x.a), x.s + (t - x.a)⟩ :: li r)) (bx : 0 ≤ x.a ∧ x.a ≤ 1000000 ∧ 0 ≤ x.n ∧ x.n ≤ 1000000 ∧ 0 ≤ x.s ∧ x.s ≤ 1000000) (al : avl l) (ar : avl r)
    (h1 : ¬ t ≤ x.a) (h2 : ¬ x.a + x.n ≤ t) :
    Calls Try.prog 34 #[.pointer p, .int .i64 t] w (RetS w (li l ++ [⟨x.a, t - x.a, x.s⟩]) (⟨t, x.n - (t - x.a), x.s + (t - x.a)⟩ :: li r)) := by
  obtain ⟨b, p1, p2, rfl, hb, c0, c1, c2, c3, c4, c5, c6, c7, h3, h4⟩ := hT
  clear c5 c6 c7
  obtain ⟨xa, xn, xs⟩ := x
  dsimp only at c0 c1 c2 h1 h2 bx hs1 hs2
  have HS := Lib.hid (And.intro hs1 hs2); clear hs1 hs2
  have AV := Lib.hid (And.intro al ar); clear al ar
  have H3 := Lib.hid (show At w p1 l from h3); clear h3
  have H4 := Lib.hid (show At w p2 r from h4); clear h4
  obtain ⟨bx1, bx2, bx3, bx4, bx5, bx6⟩ := bx
  have e0 := World.new_ne w ⟨b, 0, none⟩ c0
  go_enter Try.func34, Try.ntmps34
  go_wp2_with fail
  go_region_held3 (fun w' => w'.cell? ⟨b, 0, none⟩ = some (.int .i64 xa) ∧ w'.cell? ⟨b, 2, none⟩ = some (.int .i64 xs)) (go_keep) (fail)
  go_wp2_with fail
  obtain ⟨V, hV, bV, sV, k0, k1, k2⟩ := box_world w ⟨xa, xn, xs⟩ 0
  replace hV : V = w.alloc (.cells #[.int .i64 xa, .int .i64 xn, .int .i64 xs] 31) := hV
  obtain ⟨U, hU, bU, sU, m0, m1, m2⟩ := box_world V ⟨xa, t - xa, xs⟩ 1
  replace hU : U = (V.alloc (.cells #[.int .i64 xa, .int .i64 (t - xa), .int .i64 xs] 31)).drew := hU
  dsimp only at m0 m1 m2
  rw [← hV, ← hU]
  clear hV hU k0 k1 k2
  have bW : Below w.heap.size w U := bV.trans (bU.mono (by omega))
  have d1 := (bW.cell (p := ⟨b, 1, none⟩) hb).trans c1
  have d2 := (bW.cell (p := ⟨b, 2, none⟩) hb).trans c2
  have q1 : IntKind.i64.wrap (xn - (t - xa)) = xn - (t - xa) := IntWalk.i64_in _ (by omega)
  have q2 : IntKind.i64.wrap (xs + (t - xa)) = xs + (t - xa) := IntWalk.i64_in _ (by omega)
  have e1 := World.new_ne U ⟨b, 1, none⟩ d1
  have sz1 : V.heap.size = w.heap.size + 1 := by omega
  have SZ := Lib.hid (And.intro sz1 (And.intro sV sU)); clear sz1 sV sU
  go_region_held3 (fun w' => w'.cell? ⟨b, 1, none⟩ = some (.int .i64 xn) ∧ w'.cell? ⟨b, 2, none⟩ = some (.int .i64 xs)) (go_keep) (fail)
  go_wp2_with fail
  clear q1 q2
  obtain ⟨W, hW, bX, sX, n0, n1, n2⟩ := box_world U ⟨t, xn - (t - xa), xs + (t - xa)⟩ 1
  replace hW : W = (U.alloc (.cells #[.int .i64 t, .int .i64 (xn - (t - xa)), .int .i64 (xs + (t - xa))] 31)).drew := hW
  dsimp only at n0 n1 n2
  rw [← hW]
  clear hW d1 d2
  obtain ⟨sz1, sV, sU⟩ := SZ.out
  have bY : Below w.heap.size w W := bW.trans (bX.mono (by omega))
  have d3 := (bY.cell (p := ⟨b, 3, none⟩) hb).trans c3
  have d4 := (bY.cell (p := ⟨b, 4, none⟩) hb).trans c4
  have m0 := (bX.cell (p := ⟨V.heap.size, 0, none⟩) (by dsimp only; omega)).trans m0
  have m1 := (bX.cell (p := ⟨V.heap.size, 1, none⟩) (by dsimp only; omega)).trans m1
  have m2 := (bX.cell (p := ⟨V.heap.size, 2, none⟩) (by dsimp only; omega)).trans m2
  rw [sz1] at m0 m1 m2
  clear c0 c1 c2 c3 c4
  have hbW : b < W.heap.size := by omega
  have hvW : w.heap.size + 1 < W.heap.size := by omega
  have huW : U.heap.size < W.heap.size := by omega
  have A3 := Lib.hid (At.below H3.out bY)
  have A4 := Lib.hid (At.below H4.out bY)
  clear sz1 sV sU sX
  have KS : Hid (∀ w', Below W.heap.size W w' → (Below W.heap.size W w' ∧ w'.cell? ⟨w.heap.size + 1, 0, none⟩ = some (.int .i64 xa) ∧ w'.cell? ⟨w.heap.size + 1, 1, none⟩ = some (.int .i64 (t - xa)) ∧ w'.cell? ⟨w.heap.size + 1, 2, none⟩ = some (.int .i64 xs) ∧ w'.cell? ⟨U.heap.size, 0, none⟩ = some (.int .i64 t) ∧ w'.cell? ⟨U.heap.size, 1, none⟩ = some (.int .i64 (xn - (t - xa))) ∧ w'.cell? ⟨U.heap.size, 2, none⟩ = some (.int .i64 (xs + (t - xa))) ∧ w'.cell? ⟨b, 3, none⟩ = some (.pointer p1) ∧ w'.cell? ⟨b, 4, none⟩ = some (.pointer p2))) :=
    fun w' h => ⟨h, (h.cell (p := ⟨w.heap.size + 1, 0, none⟩) hvW).trans m0, (h.cell (p := ⟨w.heap.size + 1, 1, none⟩) hvW).trans m1, (h.cell (p := ⟨w.heap.size + 1, 2, none⟩) hvW).trans m2, (h.cell (p := ⟨U.heap.size, 0, none⟩) huW).trans n0, (h.cell (p := ⟨U.heap.size, 1, none⟩) huW).trans n1, (h.cell (p := ⟨U.heap.size, 2, none⟩) huW).trans n2, (h.cell (p := ⟨b, 3, none⟩) hbW).trans d3, (h.cell (p := ⟨b, 4, none⟩) hbW).trans d4⟩
  go_region_held3 (fun w' => Below W.heap.size W w' ∧ w'.cell? ⟨w.heap.size + 1, 0, none⟩ = some (.int .i64 xa) ∧ w'.cell? ⟨w.heap.size + 1, 1, none⟩ = some (.int .i64 (t - xa)) ∧ w'.cell? ⟨w.heap.size + 1, 2, none⟩ = some (.int .i64 xs) ∧ w'.cell? ⟨U.heap.size, 0, none⟩ = some (.int .i64 t) ∧ w'.cell? ⟨U.heap.size, 1, none⟩ = some (.int .i64 (xn - (t - xa))) ∧ w'.cell? ⟨U.heap.size, 2, none⟩ = some (.int .i64 (xs + (t - xa))) ∧ w'.cell? ⟨b, 3, none⟩ = some (.pointer p1) ∧ w'.cell? ⟨b, 4, none⟩ = some (.pointer p2))
    ((refine KS.out _ ?_; first | exact (Below.refl _ _).drew | exact hb3 | exact hb2))
    (first | (go_at_call_of 41 p1; refine (join_any p1 none ⟨xa, t - xa, xs⟩ l .nil _ (A3.out.below (Below.refl _ W).drew) rfl HS.out.1 AV.out.1 trivial).mono ?_; rintro e w2 ⟨p', T', rfl, ha', hav', hli', hb2'⟩; have hb2 := (Below.refl _ W).drew.trans hb2'; have HX := Lib.hid (And.intro hav' hli'); clear hav' hli') | (go_at_call_of 41 p2; refine (join_any none p2 ⟨t, xn - (t - xa), xs + (t - xa)⟩ .nil r _ rfl (A4.out.below hb2) HS.out.2 trivial AV.out.2).mono ?_; rintro e w3 ⟨p'', T'', rfl, ha'', hav'', hli'', hb3'⟩; have hb3 := hb2.trans (hb3'.mono hb2.size); have HY := Lib.hid (And.intro hav'' hli''); clear hav'' hli''))
  go_wp2_with fail
  go_ret2
  exact ⟨p', p'', T', T'', rfl, ha'.below hb3', ha'', HX.out.1, HY.out.1, HX.out.2, HY.out.2, bY.trans (hb3.mono bY.size)⟩

theorem split_any (T : BT X) : ∀ (p : Option Addr) (t : Int) (w : World), At w p T → vld (li T) → avl T → Calls Try.prog 34 #[.pointer p, .int .i64 t] w (RetS w (hdL t (li T)) (tlL t (li T))) := by
  induction T with
  | nil =>
    intro p t w hT _ _
    obtain rfl : p = none := hT
    exact split_nil t w
  | node i j x l r ihl ihr =>
    intro p t w hT hv av
    have hv0 := hv
    simp only [li] at hv ⊢
    obtain ⟨v1, v2, v3⟩ := vld_append.1 hv
    obtain ⟨v4, v5, v6⟩ := vld_cons.1 v2
    have hsm := v4
    unfold okx at hsm
    rw [hdL_append, tlL_append, hdL_cons, tlL_cons]
    by_cases h1 : t ≤ x.a
    · have hr := hdL_behind (t := t) (l := li r) (fun y hy => by have := v6 y hy; omega)
      rw [hr.1, hr.2]
      simp only [hd, tl, if_pos h1, List.append_nil, List.singleton_append]
      refine split_lo p t x l r i j _ _ w hT ?_ (by omega) av.2.1 h1 (fun q w' hq => ihl q t w' hq v1 av.1)
      have : vld (tlL t (li l ++ x :: li r)) := vld_tlL hv
      rw [tlL_append, tlL_cons, hr.2] at this
      simp only [tl, if_pos h1, List.singleton_append] at this
      exact this.sml
    · by_cases h2 : x.a + x.n ≤ t
      · have hl := hdL_ahead (t := t) (l := li l) (fun y hy => by have := v3 y hy x (by simp); have := v1.1 y hy; unfold okx at this; omega)
        rw [hl.1, hl.2]
        simp only [hd, tl, if_neg h1, if_pos h2, List.nil_append, List.singleton_append]
        refine split_hi p t x l r i j _ _ w hT ?_ (by omega) av.1 h1 h2 (fun q w' hq => ihr q t w' hq v5 av.2.1)
        have : vld (hdL t (li l ++ x :: li r)) := vld_hdL hv
        rw [hdL_append, hdL_cons, hl.1] at this
        simp only [hd, if_neg h1, if_pos h2, List.singleton_append] at this
        exact this.sml
      · have hl := hdL_ahead (t := t) (l := li l) (fun y hy => by have := v3 y hy x (by simp); have := v1.1 y hy; unfold okx at this; omega)
        have hr := hdL_behind (t := t) (l := li r) (fun y hy => by have := v6 y hy; omega)
        rw [hl.1, hl.2, hr.1, hr.2]
        simp only [hd, tl, if_neg h1, if_neg h2, List.nil_append, List.append_nil, List.singleton_append]
        refine split_in p t x l r i j w hT ?_ ?_ (by omega) av.1 av.2.1 h1 h2
        · have : vld (hdL t (li l ++ x :: li r)) := vld_hdL hv
          rw [hdL_append, hdL_cons, hl.1, hr.1] at this
          simp only [hd, if_neg h1, if_neg h2, List.append_nil] at this
          exact this.sml
        · have : vld (tlL t (li l ++ x :: li r)) := vld_tlL hv
          rw [tlL_append, tlL_cons, hl.2, hr.2] at this
          simp only [tl, if_neg h1, if_neg h2, List.nil_append, List.singleton_append] at this
          exact this.sml

end Go.Proofs.Ytdfdnimledcfbaa
