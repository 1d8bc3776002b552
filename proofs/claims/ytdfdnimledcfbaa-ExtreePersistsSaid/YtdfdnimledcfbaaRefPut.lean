/- What the reference's Put returns. Conditions: the list is valid and in normal form. -/
import Derived.Test.YtdfdnimledcfbaaRefCut
import Derived.Deep.RegionHeld3
import Derived.Deep.AppendLies
import Derived.Deep.DrawnRows
namespace Go.Proofs.Ytdfdnimledcfbaa
open Go.RowKit
open Go.Deep (BT)
attribute [local go_sem ↓] Go.wp_at_zero Go.wp_at_succ

theorem add_off (b o k : Nat) (sp : Option _) (h : sp = none) : (⟨b, o, sp⟩ : Addr).add k = ⟨b, o + k, none⟩ := by
  subst h; unfold Addr.add; split <;> simp_all

set_option maxHeartbeats 1000000 in
theorem refput_bad (v : Value) (L : List X) (x : X) (w : World) (hs : Sl w v L) (hv : vld L) (hx : ¬ okx x) : Calls Try.prog 45 #[v, .agg #[.int .i64 x.a, .int .i64 x.n, .int .i64 x.s]] w (RetCE w) := by
  have hm : L.length ≤ 65536 := hv.bounds.1
  obtain ⟨W, hW, bW, k0⟩ : ∃ W, W = w.alloc (.cells #[.int .i64 x.a, .int .i64 x.n, .int .i64 x.s] 31) ∧ Below w.heap.size w W ∧ Blk W w.heap.size #[.int .i64 x.a, .int .i64 x.n, .int .i64 x.s] 31 := ⟨_, rfl, (Below.refl _ w).alloc (Nat.le_refl _) _, Blk.new _ _ _⟩
  have RV := Lib.hid (refvalid_any v L W (hs.below bW) (by omega))
  have ON := Lib.hid (one_is x false (okb_false.2 hx))
  obtain ⟨ao, cap, rfl⟩ := sl_shape hs
  have H := Lib.hid hv; clear hv hs hx
  obtain ⟨xa, xn, xs⟩ := x
  dsimp only at *
  go_enter Try.func45, Try.ntmps45
  go_wp2_with fail
  rw [← hW]
  clear hW
  refine RV.out.mono ?_
  rintro e w1 ⟨b, rfl, hb, hb1⟩
  obtain rfl : b = true := hb.2 H.out
  clear hb
  have k1 := k0.keep hb1
  have n0 := k1.cell 0
  have n1 := k1.cell 1
  have n2 := k1.cell 2
  rw [c30] at n0
  rw [c31] at n1
  rw [c32] at n2
  go_wp2_with fail
  refine (ON.out _).mono ?_
  rintro e w2 ⟨rfl, hb2⟩
  go_wp2_with fail
  go_ret3
  have c1 := bW.trans (hb1.mono bW.size)
  exact ⟨rfl, c1.trans (hb2.mono c1.size)⟩

theorem Row.nilcat {W : World} {base : Nat} {v : Value} {A B : List X} (h : Row W base v A) (hB : B = []) : Row W base v (A ++ B) := by
  subst hB; simpa using h

theorem news_old {w2 w3 : World} {x : X} (hb : Below ((w2.alloc (.cells #[.int .i64 x.a, .int .i64 x.n, .int .i64 x.s] 31)).drew).heap.size ((w2.alloc (.cells #[.int .i64 x.a, .int .i64 x.n, .int .i64 x.s] 31)).drew) w3) :
    ∀ (j : Nat) (u : Value), (cs [x])[j]? = some u → w3.cell? ((⟨w2.heap.size, 0, none⟩ : Addr).add j) = some u := by
  intro j u hu
  have h1 := news3 w2 x j u hu
  refine (hb.cell ?_).trans h1
  rw [add_off _ _ _ _ rfl]
  simp

set_option maxHeartbeats 2000000 in
set_option maxRecDepth 100000 in
theorem refput_any (v : Value) (L : List X) (x : X) (w : World) (hs : Sl w v L) (hv : vld L) (hnf : nf L) (hx : okx x) : Calls Try.prog 45 #[v, .agg #[.int .i64 x.a, .int .i64 x.n, .int .i64 x.s]] w (RetC w (put L x) (mid L x.a x.n)) := by
  obtain ⟨i0, hi, hz0, hz1, hz2⟩ := info_parts Try.info31
  have hm : L.length ≤ 65536 := hv.bounds.1
  obtain ⟨W, hW, bW, k0⟩ : ∃ W, W = w.alloc (.cells #[.int .i64 x.a, .int .i64 x.n, .int .i64 x.s] 31) ∧ Below w.heap.size w W ∧ Blk W w.heap.size #[.int .i64 x.a, .int .i64 x.n, .int .i64 x.s] 31 := ⟨_, rfl, (Below.refl _ w).alloc (Nat.le_refl _) _, Blk.new _ _ _⟩
  have hxb := hx
  unfold okx at hxb
  obtain ⟨x1, x2, x3, x4, x5⟩ := hxb
  have RV := Lib.hid (refvalid_any v L W (hs.below bW) (by omega))
  have ON := Lib.hid (one_is x true (okb_true.2 hx))
  have P1 := Lib.hid (fun w' (hw : Below w.heap.size w w') => parts_any v L 0 x.a (by omega) (by omega) w' (hs.below hw) hv)
  have P2 := Lib.hid (fun w' (hw : Below w.heap.size w w') => parts_any v L (x.a + x.n) 65536 (by omega) (by omega) w' (hs.below hw) hv)
  have P3 := Lib.hid (fun w' (hw : Below w.heap.size w w') => parts_any v L x.a (x.a + x.n) (by omega) (by omega) w' (hs.below hw) hv)
  rw [prL_hd hv] at P1
  rw [prL_tl hv] at P2
  rw [prL_mid hv (by omega)] at P3
  obtain ⟨ao, cap, rfl⟩ := sl_shape hs
  have bd1 : (hdL x.a L).length ≤ 65536 := (vld_hdL hv).bounds.1
  have bd2 : (tlL (x.a + x.n) L).length ≤ 65536 := (vld_tlL hv).bounds.1
  have H := Lib.hid (And.intro hv (And.intro hnf hx)); clear hv hs hnf hx
  obtain ⟨xa, xn, xs⟩ := x
  dsimp only at *
  go_enter Try.func45, Try.ntmps45
  go_wp2_with fail
  rw [← hW]
  clear hW
  refine RV.out.mono ?_
  rintro e w1 ⟨b, rfl, hb, hb1⟩
  obtain rfl : b = true := hb.2 H.out.1
  clear hb
  have k1 := k0.keep hb1
  have n0 := k1.cell 0
  have n1 := k1.cell 1
  have n2 := k1.cell 2
  rw [c30] at n0
  rw [c31] at n1
  rw [c32] at n2
  go_wp2_with fail
  refine (ON.out _).mono ?_
  rintro e w2 ⟨rfl, hb2⟩
  have k2 := k1.keep hb2
  have c1' := bW.trans (hb1.mono bW.size)
  have c2 := c1'.trans (hb2.mono c1'.size)
  clear n0 n1 n2 k0 k1 c1' hb1 hb2 bW
  have n0 := k2.cell 0
  have n1 := k2.cell 1
  have n2 := k2.cell 2
  rw [c30] at n0
  rw [c31] at n1
  rw [c32] at n2
  have hk2 := k2.lt
  go_upto_region 3 with (fail)
  go_cut [7] (fun s7 wx => ∃ v7, s7 = v7 ∧ Row wx w2.heap.size v7 (hdL xa L ++ [⟨xa, xn, xs⟩]) ∧ Below w2.heap.size w2 wx)
  case first =>
    have KS : Hid (∀ w', Below w2.heap.size w2 w' → (Below w2.heap.size w2 w' ∧ w'.cell? ⟨w.heap.size, 0, none⟩ = some (.int .i64 xa) ∧ w'.cell? ⟨w.heap.size, 1, none⟩ = some (.int .i64 xn) ∧ w'.cell? ⟨w.heap.size, 2, none⟩ = some (.int .i64 xs))) :=
      fun w' h => ⟨h, (h.cell (p := ⟨w.heap.size, 0, none⟩) hk2).trans n0, (h.cell (p := ⟨w.heap.size, 1, none⟩) hk2).trans n1, (h.cell (p := ⟨w.heap.size, 2, none⟩) hk2).trans n2⟩
    go_region_held3 (fun w' => Below w2.heap.size w2 w' ∧ w'.cell? ⟨w.heap.size, 0, none⟩ = some (.int .i64 xa) ∧ w'.cell? ⟨w.heap.size, 1, none⟩ = some (.int .i64 xn) ∧ w'.cell? ⟨w.heap.size, 2, none⟩ = some (.int .i64 xs))
      ((refine KS.out _ ?_; first | exact (Below.refl _ _).drew | exact hb5 | exact hb4 | exact ((Below.refl _ w2).alloc (Nat.le_refl _) _).drew | exact hb4.alloc hb4.size _))
      (first | (go_at_call 58; refine (P1.out _ (by have hS := (by assumption : Below w2.heap.size w2 _ ∧ _); exact c2.trans (hS.1.mono c2.size))).mono ?_; rintro e w3 ⟨r1, rfl, hr1, hb3⟩; have hb4 : Below w2.heap.size w2 w3 := (by have hS := (by assumption : Below w2.heap.size w2 _ ∧ _); exact hS.1.trans (hb3.mono hS.1.size)); have hr2 : Row w3 w2.heap.size r1 (hdL xa L) := (by have hS := (by assumption : Below w2.heap.size w2 _ ∧ _); exact hr1.mono hS.1.size)) | (refine step_append_lies _ (by rfl) _ _ 33 (by rfl) w2.heap.size 31 i0 _ 3 24 Try.underlying33 hi hz0 hz1 hz2 rfl (by decide) r1 (hdL xa L).length (cs (hdL xa L)) (by rfl) (hr2.alloc _) ⟨w3.heap.size, 0, none⟩ 1 1 (cs [⟨xa, xn, xs⟩]) (by rfl) rfl (news3 w3 ⟨xa, xn, xs⟩) (one3 _) (by decide) (by unfold maxLen; omega) (by omega) (by first | exact hb4.size | (simp; have := hb4.size; omega)) _ rfl ?_; intro g capg w5 hown5 hgrow5 hat5 hlt5; have hb5 : Below w2.heap.size w2 w5 := (hb4.alloc hb4.size _).grown hgrow5 (by first | exact hb4.size | (simp; have := hb4.size; omega)) (Row.ge hr2)) | (refine step_append_lies _ (by rfl) _ _ 33 (by rfl) w2.heap.size 31 i0 _ 3 24 Try.underlying33 hi hz0 hz1 hz2 rfl (by decide) r1 (hdL xa L).length (cs (hdL xa L)) (by rfl) hr2 ⟨w2.heap.size, 0, none⟩ 1 1 (cs [⟨xa, xn, xs⟩]) (by rfl) rfl (fun j u hu => (news_old hb3 j u hu)) (one3 _) (by decide) (by unfold maxLen; omega) (by omega) (by first | exact hb4.size | (simp; have := hb4.size; omega)) _ rfl ?_; intro g capg w5 hown5 hgrow5 hat5 hlt5; have hb5 : Below w2.heap.size w2 w5 := hb4.grown hgrow5 (by first | exact hb4.size | (simp; have := hb4.size; omega)) (Row.ge hr2)))
    all_goals
      go_wp2_with fail
      go_meet
      exact ⟨_, rfl, Row.append hown5, hb5⟩
  case rest =>
    obtain ⟨v7, hv7, hR, hB⟩ := hcut
    subst hv7
    have c3 := c2.trans (hB.mono c2.size)
    have R1 := Lib.hid hR; clear hR
    have k3 := k2.keep hB
    clear n0 n1 n2
    have n0 := k3.cell 0
    have n1 := k3.cell 1
    rw [c30] at n0
    rw [c31] at n1
    go_wp2_with fail
    refine (P2.out _ c3).mono ?_
    rintro e w3 ⟨r2, rfl, hr2, hb3⟩
    have c4 := c3.trans (hb3.mono c3.size)
    have R1 := Lib.hid (R1.out.keep hb3)
    have R2 := Lib.hid hr2
    have k4 := k3.keep hb3
    have hs3 := c4.size
    have hs4 := hB.size
    have hs5 := hb3.size
    clear hr2
    have PV : Hid (vld ((hdL xa L ++ [⟨xa, xn, xs⟩]) ++ tlL (xa + xn) L) ∧ jn ((hdL xa L ++ [⟨xa, xn, xs⟩]) ++ tlL (xa + xn) L) = put L ⟨xa, xn, xs⟩) := (show vld ((hdL xa L ++ [⟨xa, xn, xs⟩]) ++ tlL (xa + xn) L) ∧ jn ((hdL xa L ++ [⟨xa, xn, xs⟩]) ++ tlL (xa + xn) L) = put L ⟨xa, xn, xs⟩ from
      ⟨by simpa using put_vld H.out.1 H.out.2.2, by unfold put; simp⟩)
    rcases R2.out.cases with ⟨rfl, hnil⟩ | ⟨g, capg, rfl, hg1, hg2⟩
    · go_wp2_with (at_builtin; refine wpList_append_own_none rfl _ _ 33 rfl w2.heap.size 31 i0 3 Try.underlying33 hi _ _ _ rfl R1.out rfl ?_)
      have RA := Row.nilcat R1.out hnil
      have JN1 := Lib.hid (jn_any _ _ w3 RA.sl PV.out.1)
      rw [PV.out.2] at JN1
      clear RA
      go_wp2_with fail
      refine JN1.out.mono ?_
      rintro e w5 ⟨q1, rfl, hq1, hb5⟩
      have c5 := c4.trans (hb5.mono c4.size)
      have k5 := k4.keep hb5
      have Q1 := Lib.hid hq1.sl; clear hq1
      clear n0 n1
      have n0 := k5.cell 0
      have n1 := k5.cell 1
      rw [c30] at n0
      rw [c31] at n1
      go_wp2_with fail
      refine (P3.out _ c5).mono ?_
      rintro e w6 ⟨r3, rfl, hr3, hb6⟩
      have c6 := c5.trans (hb6.mono c5.size)
      have JN2 := Lib.hid (jn_any r3 (mid L xa xn) w6 hr3.sl (mid_vn H.out.1 H.out.2.1).1)
      clear hr3
      go_wp2_with fail
      refine JN2.out.mono ?_
      rintro e w7 ⟨q2, rfl, hq2, hb7⟩
      have Q2 := Lib.hid hq2.sl; clear hq2
      go_wp2_with fail
      go_ret3
      refine ⟨q1, q2, rfl, (Q1.out.below hb6).below hb7, ?_, c6.trans (hb7.mono c6.size)⟩
      have h2 := Q2.out
      rw [jn_nf (mid_vn H.out.1 H.out.2.1).2] at h2
      exact h2
    · go_wp2_with (at_builtin; refine wpList_append_own _ rfl _ _ 33 rfl w2.heap.size 31 i0 _ 3 24 Try.underlying33 hi hz0 hz1 hz2 rfl (by decide) _ _ _ rfl R1.out ⟨g, 0, none⟩ (tlL (xa + xn) L).length capg (cs (tlL (xa + xn) L)) rfl (cs_length _) R2.out.news (one_all _) ?c3 ?c4 ?c5 ?_)
      case c3 => unfold maxLen; simp; omega
      case c4 => simp; omega
      case c5 => omega
      intro va w4 hown' hgrow _
      have RA : Row w4 w2.heap.size va ((hdL xa L ++ [⟨xa, xn, xs⟩]) ++ tlL (xa + xn) L) := Row.cat (by simpa using hown')
      have k4 := k4.below (n := w.heap.size + 1) ⟨hgrow.os, hgrow.tape, hgrow.output, hgrow.size, fun q hq => hgrow.block q (by omega) (fun e => by have := R1.out.ge q e.symm; omega)⟩ (by omega)
      have c4 := c4.grown hgrow c4.size (fun q hq => Nat.le_trans c2.size (R1.out.ge q hq))
      have JN1 := Lib.hid (jn_any va _ w4 RA.sl PV.out.1)
      rw [PV.out.2] at JN1
      clear RA hown' hgrow
      go_wp2_with fail
      refine JN1.out.mono ?_
      rintro e w5 ⟨q1, rfl, hq1, hb5⟩
      have c5 := c4.trans (hb5.mono c4.size)
      have k5 := k4.keep hb5
      have Q1 := Lib.hid hq1.sl; clear hq1
      clear n0 n1
      have n0 := k5.cell 0
      have n1 := k5.cell 1
      rw [c30] at n0
      rw [c31] at n1
      go_wp2_with fail
      refine (P3.out _ c5).mono ?_
      rintro e w6 ⟨r3, rfl, hr3, hb6⟩
      have c6 := c5.trans (hb6.mono c5.size)
      have JN2 := Lib.hid (jn_any r3 (mid L xa xn) w6 hr3.sl (mid_vn H.out.1 H.out.2.1).1)
      clear hr3
      go_wp2_with fail
      refine JN2.out.mono ?_
      rintro e w7 ⟨q2, rfl, hq2, hb7⟩
      have Q2 := Lib.hid hq2.sl; clear hq2
      go_wp2_with fail
      go_ret3
      refine ⟨q1, q2, rfl, (Q1.out.below hb6).below hb7, ?_, c6.trans (hb7.mono c6.size)⟩
      have h2 := Q2.out
      rw [jn_nf (mid_vn H.out.1 H.out.2.1).2] at h2
      exact h2

end Go.Proofs.Ytdfdnimledcfbaa
