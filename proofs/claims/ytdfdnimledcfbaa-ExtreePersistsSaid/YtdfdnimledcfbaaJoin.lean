/- What join returns: a balanced tree of two trees with an extent between them. Conditions: the numbers are small. -/
import Derived.Test.YtdfdnimledcfbaaBal
namespace Go.Proofs.Ytdfdnimledcfbaa
open Go.RowKit
open Go.Deep (BT)
attribute [local go_sem ↓] Go.wp_at_zero Go.wp_at_succ

/-- A balanced tree of the list L, of a depth between two bounds, is returned; all that was there is as it was. -/
def RetJ (w : World) (L : List X) (lo hi : Nat) (e : Ending) (w' : World) : Prop := ∃ p T, e = .returned (.pointer p) ∧ At w' p T ∧ avl T ∧ li T = L ∧ lo ≤ dp T ∧ dp T ≤ hi ∧ Below w.heap.size w w'

theorem bal_any (pl pr : Option Addr) (x : X) (l r : BT X) (w : World) (hl : At w pl l) (hr : At w pr r) (hs : sml (li l ++ x :: li r)) (al : avl l) (ar : avl r) (h1 : dp l ≤ dp r + 2) (h2 : dp r ≤ dp l + 2) :
    Calls Try.prog 55 #[.pointer pl, ag x, .pointer pr] w (RetJ w (li l ++ x :: li r) (if dp l ≤ dp r + 1 ∧ dp r ≤ dp l + 1 then 1 + max (dp l) (dp r) else max (dp l) (dp r)) (1 + max (dp l) (dp r))) := by
  have fin : ∀ T, avl T → li T = li l ++ x :: li r → (if dp l ≤ dp r + 1 ∧ dp r ≤ dp l + 1 then 1 + max (dp l) (dp r) else max (dp l) (dp r)) ≤ dp T → dp T ≤ 1 + max (dp l) (dp r) →
      Calls Try.prog 55 #[.pointer pl, ag x, .pointer pr] w (RetT w T) →
      Calls Try.prog 55 #[.pointer pl, ag x, .pointer pr] w (RetJ w (li l ++ x :: li r) (if dp l ≤ dp r + 1 ∧ dp r ≤ dp l + 1 then 1 + max (dp l) (dp r) else max (dp l) (dp r)) (1 + max (dp l) (dp r))) :=
    fun T a b c d h => h.mono fun e w' ⟨p, he, ha, hb⟩ => ⟨p, T, he, ha, a, b, c, d, hb⟩
  by_cases g1 : dp r + 1 < dp l
  · cases l with
    | nil => simp [dp] at g1
    | node i j yx ll lr =>
      obtain ⟨a1, a2, a3, a4⟩ := al
      by_cases g2 : dp lr ≤ dp ll
      · refine fin _ ?_ ?_ ?_ ?_ (bal_l1 pl pr x yx ll lr r i j w hl hr hs g1 g2)
        · simp only [dp] at g1 h1 h2 ⊢
          exact ⟨a1, ⟨a2, ar, by omega, by omega⟩, by simp only [dp]; omega, by simp only [dp]; omega⟩
        · simp [li]
        · rw [if_neg (by omega)]; simp only [dp] at g1 h1 h2 ⊢; omega
        · simp only [dp] at g1 h1 h2 ⊢; omega
      · cases lr with
        | nil => simp [dp] at g2
        | node i' j' mx ml mr =>
          obtain ⟨m1, m2, m3, m4⟩ := a2
          refine fin _ ?_ ?_ ?_ ?_ (bal_l2 pl pr x yx mx ll ml mr r i j i' j' w hl hr hs g1 (by omega))
          · simp only [dp] at g1 h1 h2 a3 a4 g2 ⊢
            exact ⟨⟨a1, m1, by omega, by omega⟩, ⟨m2, ar, by omega, by omega⟩, by simp only [dp]; omega, by simp only [dp]; omega⟩
          · simp [li]
          · rw [if_neg (by omega)]; simp only [dp] at g1 h1 h2 a3 a4 g2 ⊢; omega
          · simp only [dp] at g1 h1 h2 a3 a4 g2 ⊢; omega
  · by_cases g3 : dp l + 1 < dp r
    · cases r with
      | nil => simp [dp] at g3
      | node i j yx rl rr =>
        obtain ⟨a1, a2, a3, a4⟩ := ar
        by_cases g2 : dp rl ≤ dp rr
        · refine fin _ ?_ ?_ ?_ ?_ (bal_r1 pl pr x yx l rl rr i j w hl hr hs g3 g2)
          · simp only [dp] at g1 g3 h1 h2 ⊢
            exact ⟨⟨al, a1, by omega, by omega⟩, a2, by simp only [dp]; omega, by simp only [dp]; omega⟩
          · simp [li]
          · rw [if_neg (by omega)]; simp only [dp] at g1 g3 h1 h2 ⊢; omega
          · simp only [dp] at g1 g3 h1 h2 ⊢; omega
        · cases rl with
          | nil => simp [dp] at g2
          | node i' j' mx ml mr =>
            obtain ⟨m1, m2, m3, m4⟩ := a1
            refine fin _ ?_ ?_ ?_ ?_ (bal_r2 pl pr x yx mx l ml mr rr i j i' j' w hl hr hs g3 (by omega))
            · simp only [dp] at g1 g3 h1 h2 a3 a4 g2 ⊢
              exact ⟨⟨al, m1, by omega, by omega⟩, ⟨m2, a2, by omega, by omega⟩, by simp only [dp]; omega, by simp only [dp]; omega⟩
            · simp [li]
            · rw [if_neg (by omega)]; simp only [dp] at g1 g3 h1 h2 a3 a4 g2 ⊢; omega
            · simp only [dp] at g1 g3 h1 h2 a3 a4 g2 ⊢; omega
    · refine fin (.node 0 0 x l r) ⟨al, ar, by omega, by omega⟩ rfl ?_ ?_ (bal_mid pl pr x l r w hl hr hs (by omega) (by omega))
      · rw [if_pos (by omega)]; simp [dp]
      · simp [dp]

set_option maxHeartbeats 4000000 in
set_option maxRecDepth 100000 in
theorem join_mid (pl pr : Option Addr) (x : X) (l r : BT X) (w : World) (hl : At w pl l) (hr : At w pr r) (hs : sml (li l ++ x :: li r)) (h1 : dp l ≤ dp r + 1) (h2 : dp r ≤ dp l + 1) :
    Calls Try.prog 41 #[.pointer pl, ag x, .pointer pr] w (RetT w (.node 0 0 x l r)) := by
  have b1 := dp_le l
  have b2 := dp_le r
  have b3 := hs.1
  simp only [List.length_append, List.length_cons] at b3
  have HL := Lib.hid (fun o => (hl.below ((Below.refl _ w).alloc (Nat.le_refl _) o) : At (w.alloc o) pl l))
  have HR := Lib.hid (fun o => (hr.below ((Below.refl _ w).alloc (Nat.le_refl _) o) : At (w.alloc o) pr r))
  have HS := Lib.hid hs; clear hs
  obtain ⟨xa, xn, xs⟩ := x
  unfold ag
  dsimp only
  go_enter Try.func41, Try.ntmps41
  go_wp2_with fail
  refine (deep_any _ l _ _ (HL.out _)).mono ?_
  rintro e w' ⟨rfl, rfl⟩
  go_wp2_with fail
  refine (deep_any _ r _ _ (HR.out _)).mono ?_
  rintro e w' ⟨rfl, rfl⟩
  go_wp2_with fail
  refine (deep_any _ r _ _ (HR.out _)).mono ?_
  rintro e w' ⟨rfl, rfl⟩
  go_wp2_with fail
  refine (deep_any _ l _ _ (HL.out _)).mono ?_
  rintro e w' ⟨rfl, rfl⟩
  go_wp2_with fail
  refine (build_any pl pr ⟨xa, xn, xs⟩ l r _ (HL.out _) (HR.out _) HS.out).mono ?_
  rintro e w' ⟨p, rfl, ha, hb⟩
  go_wp2_with fail
  go_ret
  exact ⟨p, rfl, ha, ((Below.refl _ w).alloc (Nat.le_refl _) _).trans (hb.mono (by simp))⟩

set_option maxHeartbeats 4000000 in
set_option maxRecDepth 100000 in
theorem join_left (pl pr : Option Addr) (x yx : X) (u v r : BT X) (i j : Nat) (w : World) (hl : At w pl (.node i j yx u v)) (hr : At w pr r) (hs : sml (li (.node i j yx u v) ++ x :: li r))
    (al : avl (.node i j yx u v)) (ar : avl r) (h1 : dp r + 1 < dp (.node i j yx u v))
    (ih : ∀ (p q : Option Addr) (w : World), At w p v → At w q r → Calls Try.prog 41 #[.pointer p, ag x, .pointer q] w (RetJ w (li v ++ x :: li r) (max (dp v) (dp r)) (1 + max (dp v) (dp r)))) :
    Calls Try.prog 41 #[.pointer pl, ag x, .pointer pr] w (RetJ w (li (.node i j yx u v) ++ x :: li r) (max (dp (.node i j yx u v)) (dp r)) (1 + max (dp (.node i j yx u v)) (dp r))) := by
  have IH := Lib.hid ih; clear ih
  have b1 := dp_le (.node i j yx u v)
  have b2 := dp_le r
  have b3 := hs.1
  simp only [List.length_append, List.length_cons] at b3
  have HL0 := Lib.hid hl
  have HR0 := Lib.hid hr
  have AV := Lib.hid (And.intro al ar); clear al ar
  have HS := Lib.hid hs; clear hs
  obtain ⟨b, p1, p2, rfl, hb, c0, c1, c2, c3, c4, c5, c6, c7, h3, h4⟩ := hl
  clear c5 c6 c7
  have HG := Lib.hid (fun o => ((Below.refl _ w).alloc (Nat.le_refl _) o : Below w.heap.size w (w.alloc o)))
  obtain ⟨xa, xn, xs⟩ := x
  obtain ⟨ya, yn, ys⟩ := yx
  unfold ag
  dsimp only at c0 c1 c2 ⊢
  go_enter Try.func41, Try.ntmps41
  go_wp2_with fail
  refine (deep_any _ _ _ _ (HL0.out.below (HG.out _))).mono ?_
  rintro e w' ⟨rfl, rfl⟩
  go_wp2_with fail
  refine (deep_any _ _ _ _ (HR0.out.below (HG.out _))).mono ?_
  rintro e w' ⟨rfl, rfl⟩
  go_wp2_with fail
  obtain ⟨W, hW, bW, sW, x0, x1, x2⟩ := box_world w ⟨xa, xn, xs⟩ 0
  replace hW : W = w.alloc (.cells #[.int .i64 xa, .int .i64 xn, .int .i64 xs] 31) := hW
  dsimp only at x0 x1 x2
  rw [← hW]
  clear hW
  have d0 := (bW.cell (p := ⟨b, 0, none⟩) hb).trans c0
  have d1 := (bW.cell (p := ⟨b, 1, none⟩) hb).trans c1
  have d2 := (bW.cell (p := ⟨b, 2, none⟩) hb).trans c2
  have d3 := (bW.cell (p := ⟨b, 3, none⟩) hb).trans c3
  have d4 := (bW.cell (p := ⟨b, 4, none⟩) hb).trans c4
  clear c0 c1 c2 c3 c4
  have hbW : b < W.heap.size := by omega
  have hnW : w.heap.size < W.heap.size := by omega
  have A3 := Lib.hid (At.below (show At w p1 _ from h3) bW)
  have A4 := Lib.hid (At.below (show At w p2 _ from h4) bW)
  have A5 := Lib.hid (At.below HR0.out bW)
  clear h3 h4
  have BAL : Hid (∀ p T w1, At w1 p T → avl T → li T = li v ++ ⟨xa, xn, xs⟩ :: li r → max (dp v) (dp r) ≤ dp T → dp T ≤ 1 + max (dp v) (dp r) → Below W.heap.size W w1 → Calls Try.prog 55 #[.pointer p1, .agg #[.int .i64 ya, .int .i64 yn, .int .i64 ys], .pointer p] w1 (RetJ w1 (li (.node i j ⟨ya, yn, ys⟩ u v) ++ ⟨xa, xn, xs⟩ :: li r) (max (dp (.node i j ⟨ya, yn, ys⟩ u v)) (dp r)) (1 + max (dp (.node i j ⟨ya, yn, ys⟩ u v)) (dp r)))) := by
    intro p T w1 ht ha hli hlo hhi hbl
    obtain ⟨⟨a1, a2, a3, a4⟩, a5⟩ := AV.out
    have hq := HS.out
    simp only [li, List.append_assoc, List.cons_append] at hq
    simp only [dp] at h1
    refine (bal_any p1 p ⟨ya, yn, ys⟩ u T w1 (A3.out.below hbl) ht (by rw [hli]; exact hq) a1 ha (by omega) (by omega)).mono ?_
    rintro e w2 ⟨q, T2, he, ht2, ha2, hl2, lo2, hi2, hb2⟩
    refine ⟨q, T2, he, ht2, ha2, by rw [hl2, hli]; simp [li], ?_, ?_, hb2⟩
    · simp only [dp]; split at lo2 <;> omega
    · simp only [dp]; split at lo2 <;> omega
  clear h1 b1 b2 b3
  have KS : Hid (∀ w', Below W.heap.size W w' → (Below W.heap.size W w' ∧ w'.cell? ⟨w.heap.size, 0, none⟩ = some (.int .i64 xa) ∧ w'.cell? ⟨w.heap.size, 1, none⟩ = some (.int .i64 xn) ∧ w'.cell? ⟨w.heap.size, 2, none⟩ = some (.int .i64 xs) ∧ w'.cell? ⟨b, 0, none⟩ = some (.int .i64 ya) ∧ w'.cell? ⟨b, 1, none⟩ = some (.int .i64 yn) ∧ w'.cell? ⟨b, 2, none⟩ = some (.int .i64 ys) ∧ w'.cell? ⟨b, 3, none⟩ = some (.pointer p1) ∧ w'.cell? ⟨b, 4, none⟩ = some (.pointer p2))) :=
    fun w' h => ⟨h, (h.cell (p := ⟨w.heap.size, 0, none⟩) hnW).trans x0, (h.cell (p := ⟨w.heap.size, 1, none⟩) hnW).trans x1, (h.cell (p := ⟨w.heap.size, 2, none⟩) hnW).trans x2, (h.cell (p := ⟨b, 0, none⟩) hbW).trans d0, (h.cell (p := ⟨b, 1, none⟩) hbW).trans d1, (h.cell (p := ⟨b, 2, none⟩) hbW).trans d2, (h.cell (p := ⟨b, 3, none⟩) hbW).trans d3, (h.cell (p := ⟨b, 4, none⟩) hbW).trans d4⟩
  go_region_held3 (fun w' => Below W.heap.size W w' ∧ w'.cell? ⟨w.heap.size, 0, none⟩ = some (.int .i64 xa) ∧ w'.cell? ⟨w.heap.size, 1, none⟩ = some (.int .i64 xn) ∧ w'.cell? ⟨w.heap.size, 2, none⟩ = some (.int .i64 xs) ∧ w'.cell? ⟨b, 0, none⟩ = some (.int .i64 ya) ∧ w'.cell? ⟨b, 1, none⟩ = some (.int .i64 yn) ∧ w'.cell? ⟨b, 2, none⟩ = some (.int .i64 ys) ∧ w'.cell? ⟨b, 3, none⟩ = some (.pointer p1) ∧ w'.cell? ⟨b, 4, none⟩ = some (.pointer p2))
    ((refine KS.out _ ?_; first | exact (Below.refl _ _).drew | exact hb2 | exact hb1))
    (first | (go_at_call_of 41 p2; refine (IH.out p2 pr _ (A4.out.below (Below.refl _ W).drew) (A5.out.below (Below.refl _ W).drew)).mono ?_; rintro e w1 ⟨p, T, rfl, ha, hav, hli, hlo, hhi, hb1'⟩; have hb1 := (Below.refl _ W).drew.trans hb1'; have HX := Lib.hid (And.intro hav (And.intro hli (And.intro hlo hhi))); clear hav hli hlo hhi) | (go_at_call_of 55 p; refine (BAL.out p T _ ha HX.out.1 HX.out.2.1 HX.out.2.2.1 HX.out.2.2.2 hb1).mono ?_; rintro e w2 ⟨p', T', rfl, ha', hav', hli', hlo', hhi', hb2'⟩; have hb2 := hb1.trans (hb2'.mono hb1.size); have HY := Lib.hid (And.intro hav' (And.intro hli' (And.intro hlo' hhi'))); clear hav' hli' hlo' hhi'))
  go_wp2_with fail
  go_ret
  exact ⟨p', T', rfl, ha', HY.out.1, HY.out.2.1, HY.out.2.2.1, HY.out.2.2.2, bW.trans (hb2.mono bW.size)⟩

set_option maxHeartbeats 4000000 in
set_option maxRecDepth 100000 in
theorem join_right (pl pr : Option Addr) (x yx : X) (u v l : BT X) (i j : Nat) (w : World) (hl : At w pl l) (hr : At w pr (.node i j yx u v)) (hs : sml (li l ++ x :: li (.node i j yx u v)))
    (al : avl l) (ar : avl (.node i j yx u v)) (h1 : dp l + 1 < dp (.node i j yx u v))
    (ih : ∀ (p q : Option Addr) (w : World), At w p l → At w q u → Calls Try.prog 41 #[.pointer p, ag x, .pointer q] w (RetJ w (li l ++ x :: li u) (max (dp l) (dp u)) (1 + max (dp l) (dp u)))) :
    Calls Try.prog 41 #[.pointer pl, ag x, .pointer pr] w (RetJ w (li l ++ x :: li (.node i j yx u v)) (max (dp l) (dp (.node i j yx u v))) (1 + max (dp l) (dp (.node i j yx u v)))) := by
  have IH := Lib.hid ih; clear ih
  have b1 := dp_le l
  have b2 := dp_le (.node i j yx u v)
  have b3 := hs.1
  simp only [List.length_append, List.length_cons] at b3
  have HL0 := Lib.hid hl
  have HR0 := Lib.hid hr
  have AV := Lib.hid (And.intro al ar); clear al ar
  have HS := Lib.hid hs; clear hs
  obtain ⟨b, p1, p2, rfl, hb, c0, c1, c2, c3, c4, c5, c6, c7, h3, h4⟩ := hr
  clear c5 c6 c7
  have HG := Lib.hid (fun o => ((Below.refl _ w).alloc (Nat.le_refl _) o : Below w.heap.size w (w.alloc o)))
  obtain ⟨xa, xn, xs⟩ := x
  obtain ⟨ya, yn, ys⟩ := yx
  unfold ag
  dsimp only at c0 c1 c2 ⊢
  go_enter Try.func41, Try.ntmps41
  go_wp2_with fail
  refine (deep_any _ _ _ _ (HL0.out.below (HG.out _))).mono ?_
  rintro e w' ⟨rfl, rfl⟩
  go_wp2_with fail
  refine (deep_any _ _ _ _ (HR0.out.below (HG.out _))).mono ?_
  rintro e w' ⟨rfl, rfl⟩
  go_wp2_with fail
  refine (deep_any _ _ _ _ (HR0.out.below (HG.out _))).mono ?_
  rintro e w' ⟨rfl, rfl⟩
  go_wp2_with fail
  refine (deep_any _ _ _ _ (HL0.out.below (HG.out _))).mono ?_
  rintro e w' ⟨rfl, rfl⟩
  go_wp2_with fail
  obtain ⟨W, hW, bW, sW, x0, x1, x2⟩ := box_world w ⟨xa, xn, xs⟩ 0
  replace hW : W = w.alloc (.cells #[.int .i64 xa, .int .i64 xn, .int .i64 xs] 31) := hW
  dsimp only at x0 x1 x2
  rw [← hW]
  clear hW
  have d0 := (bW.cell (p := ⟨b, 0, none⟩) hb).trans c0
  have d1 := (bW.cell (p := ⟨b, 1, none⟩) hb).trans c1
  have d2 := (bW.cell (p := ⟨b, 2, none⟩) hb).trans c2
  have d3 := (bW.cell (p := ⟨b, 3, none⟩) hb).trans c3
  have d4 := (bW.cell (p := ⟨b, 4, none⟩) hb).trans c4
  clear c0 c1 c2 c3 c4
  have hbW : b < W.heap.size := by omega
  have hnW : w.heap.size < W.heap.size := by omega
  have A3 := Lib.hid (At.below (show At w p1 _ from h3) bW)
  have A4 := Lib.hid (At.below (show At w p2 _ from h4) bW)
  have A5 := Lib.hid (At.below HL0.out bW)
  clear h3 h4
  have BAL : Hid (∀ p T w1, At w1 p T → avl T → li T = li l ++ ⟨xa, xn, xs⟩ :: li u → max (dp l) (dp u) ≤ dp T → dp T ≤ 1 + max (dp l) (dp u) → Below W.heap.size W w1 → Calls Try.prog 55 #[.pointer p, .agg #[.int .i64 ya, .int .i64 yn, .int .i64 ys], .pointer p2] w1 (RetJ w1 (li l ++ ⟨xa, xn, xs⟩ :: li (.node i j ⟨ya, yn, ys⟩ u v)) (max (dp l) (dp (.node i j ⟨ya, yn, ys⟩ u v))) (1 + max (dp l) (dp (.node i j ⟨ya, yn, ys⟩ u v))))) := by
    intro p T w1 ht ha hli hlo hhi hbl
    obtain ⟨a5, ⟨a1, a2, a3, a4⟩⟩ := AV.out
    have hq := HS.out
    simp only [li] at hq
    simp only [dp] at h1
    refine (bal_any p p2 ⟨ya, yn, ys⟩ T v w1 ht (A4.out.below hbl) (by rw [hli]; simpa using hq) ha a2 (by omega) (by omega)).mono ?_
    rintro e w2 ⟨q, T2, he, ht2, ha2, hl2, lo2, hi2, hb2⟩
    refine ⟨q, T2, he, ht2, ha2, by rw [hl2, hli]; simp [li], ?_, ?_, hb2⟩
    · simp only [dp]; split at lo2 <;> omega
    · simp only [dp]; split at lo2 <;> omega
  clear h1 b1 b2 b3
  have KS : Hid (∀ w', Below W.heap.size W w' → (Below W.heap.size W w' ∧ w'.cell? ⟨w.heap.size, 0, none⟩ = some (.int .i64 xa) ∧ w'.cell? ⟨w.heap.size, 1, none⟩ = some (.int .i64 xn) ∧ w'.cell? ⟨w.heap.size, 2, none⟩ = some (.int .i64 xs) ∧ w'.cell? ⟨b, 0, none⟩ = some (.int .i64 ya) ∧ w'.cell? ⟨b, 1, none⟩ = some (.int .i64 yn) ∧ w'.cell? ⟨b, 2, none⟩ = some (.int .i64 ys) ∧ w'.cell? ⟨b, 3, none⟩ = some (.pointer p1) ∧ w'.cell? ⟨b, 4, none⟩ = some (.pointer p2))) :=
    fun w' h => ⟨h, (h.cell (p := ⟨w.heap.size, 0, none⟩) hnW).trans x0, (h.cell (p := ⟨w.heap.size, 1, none⟩) hnW).trans x1, (h.cell (p := ⟨w.heap.size, 2, none⟩) hnW).trans x2, (h.cell (p := ⟨b, 0, none⟩) hbW).trans d0, (h.cell (p := ⟨b, 1, none⟩) hbW).trans d1, (h.cell (p := ⟨b, 2, none⟩) hbW).trans d2, (h.cell (p := ⟨b, 3, none⟩) hbW).trans d3, (h.cell (p := ⟨b, 4, none⟩) hbW).trans d4⟩
  go_region_held3 (fun w' => Below W.heap.size W w' ∧ w'.cell? ⟨w.heap.size, 0, none⟩ = some (.int .i64 xa) ∧ w'.cell? ⟨w.heap.size, 1, none⟩ = some (.int .i64 xn) ∧ w'.cell? ⟨w.heap.size, 2, none⟩ = some (.int .i64 xs) ∧ w'.cell? ⟨b, 0, none⟩ = some (.int .i64 ya) ∧ w'.cell? ⟨b, 1, none⟩ = some (.int .i64 yn) ∧ w'.cell? ⟨b, 2, none⟩ = some (.int .i64 ys) ∧ w'.cell? ⟨b, 3, none⟩ = some (.pointer p1) ∧ w'.cell? ⟨b, 4, none⟩ = some (.pointer p2))
    ((refine KS.out _ ?_; first | exact (Below.refl _ _).drew | exact hb2 | exact hb1))
    (first | (go_at_call_of 41 p1; refine (IH.out pl p1 _ (A5.out.below (Below.refl _ W).drew) (A3.out.below (Below.refl _ W).drew)).mono ?_; rintro e w1 ⟨p, T, rfl, ha, hav, hli, hlo, hhi, hb1'⟩; have hb1 := (Below.refl _ W).drew.trans hb1'; have HX := Lib.hid (And.intro hav (And.intro hli (And.intro hlo hhi))); clear hav hli hlo hhi) | (go_at_call_of 55 p; refine (BAL.out p T _ ha HX.out.1 HX.out.2.1 HX.out.2.2.1 HX.out.2.2.2 hb1).mono ?_; rintro e w2 ⟨p', T', rfl, ha', hav', hli', hlo', hhi', hb2'⟩; have hb2 := hb1.trans (hb2'.mono hb1.size); have HY := Lib.hid (And.intro hav' (And.intro hli' (And.intro hlo' hhi'))); clear hav' hli' hlo' hhi'))
  go_wp2_with fail
  go_ret
  exact ⟨p', T', rfl, ha', HY.out.1, HY.out.2.1, HY.out.2.2.1, HY.out.2.2.2, bW.trans (hb2.mono bW.size)⟩


theorem join_all (k : Nat) : ∀ (pl pr : Option Addr) (x : X) (l r : BT X) (w : World), dp l + dp r ≤ k → At w pl l → At w pr r → sml (li l ++ x :: li r) → avl l → avl r →
    Calls Try.prog 41 #[.pointer pl, ag x, .pointer pr] w (RetJ w (li l ++ x :: li r) (max (dp l) (dp r)) (1 + max (dp l) (dp r))) := by
  induction k with
  | zero =>
    intro pl pr x l r w hk hl hr hs al ar
    refine (join_mid pl pr x l r w hl hr hs (by omega) (by omega)).mono ?_
    rintro e w' ⟨p, he, ha, hb⟩
    exact ⟨p, _, he, ha, ⟨al, ar, by omega, by omega⟩, rfl, by simp only [dp]; omega, by simp only [dp]; omega, hb⟩
  | succ k ih =>
    intro pl pr x l r w hk hl hr hs al ar
    by_cases g1 : dp r + 1 < dp l
    · cases l with
      | nil => simp [dp] at g1
      | node i j yx u v =>
        refine join_left pl pr x yx u v r i j w hl hr hs al ar g1 (fun p q w' a b => ih p q x v r w' (by simp only [dp] at hk; omega) a b ?_ al.2.1 ar)
        have hq := hs
        simp only [li, List.append_assoc, List.cons_append] at hq
        exact hq.right.tail
    · by_cases g2 : dp l + 1 < dp r
      · cases r with
        | nil => simp [dp] at g2
        | node i j yx u v =>
          refine join_right pl pr x yx u v l i j w hl hr hs al ar g2 (fun p q w' a b => ih p q x l u w' (by simp only [dp] at hk; omega) a b ?_ al ar.1)
          have hq := hs
          simp only [li] at hq
          exact sml.left (m := yx :: li v) (by simpa using hq)
      · refine (join_mid pl pr x l r w hl hr hs (by omega) (by omega)).mono ?_
        rintro e w' ⟨p, he, ha, hb⟩
        exact ⟨p, _, he, ha, ⟨al, ar, by omega, by omega⟩, rfl, by simp only [dp]; omega, by simp only [dp]; omega, hb⟩

/-- What a caller needs: a balanced tree of the list. -/
def RetL (w : World) (L : List X) (e : Ending) (w' : World) : Prop := ∃ p T, e = .returned (.pointer p) ∧ At w' p T ∧ avl T ∧ li T = L ∧ Below w.heap.size w w'

theorem join_any (pl pr : Option Addr) (x : X) (l r : BT X) (w : World) (hl : At w pl l) (hr : At w pr r) (hs : sml (li l ++ x :: li r)) (al : avl l) (ar : avl r) :
    Calls Try.prog 41 #[.pointer pl, ag x, .pointer pr] w (RetL w (li l ++ x :: li r)) :=
  (join_all _ pl pr x l r w (Nat.le_refl _) hl hr hs al ar).mono fun _ _ ⟨p, T, he, ha, hv, hl, _, _, hb⟩ => ⟨p, T, he, ha, hv, hl, hb⟩

end Go.Proofs.Ytdfdnimledcfbaa
