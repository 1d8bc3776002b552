/- The package's own push and Join: the normal form of a list. Conditions: the list is valid. -/
import Derived.Test.YtdfdnimledcfbaaFindLaw
namespace Go.Proofs.Ytdfdnimledcfbaa
open Go.RowKit
open Go.Deep (BT)

/-- The outcome of a push. -/
def RetU (base : Nat) (w : World) (L : List X) (e : Ending) (w' : World) : Prop := ∃ v', e = .returned v' ∧ Row w' base v' L ∧ Below base w w'

set_option maxHeartbeats 2000000 in
set_option maxRecDepth 100000 in
theorem push_nil (base : Nat) (v : Value) (x : X) (w : World) (hr : Row w base v []) (hbase : base ≤ w.heap.size) : Calls Try.prog 59 #[v, .agg #[.int .i64 x.a, .int .i64 x.n, .int .i64 x.s]] w (RetU base w [x]) := by
  obtain ⟨i0, hi, hz0, hz1, hz2⟩ := info_parts Try.info31
  obtain ⟨xa, xn, xs⟩ := x
  dsimp only
  obtain ⟨W, hW, hsW, bW, k0⟩ : ∃ W, W = w.alloc (.cells #[.int .i64 xa, .int .i64 xn, .int .i64 xs] 31) ∧ W.heap.size = w.heap.size + 1 ∧ Below w.heap.size w W ∧ Blk W w.heap.size #[.int .i64 xa, .int .i64 xn, .int .i64 xs] 31 := ⟨_, rfl, by simp, (Below.refl _ w).alloc (Nat.le_refl _) _, Blk.new _ _ _⟩
  have HR := Lib.hid hr
  obtain ⟨ao, cap, rfl⟩ := sl_shape hr.sl
  clear hr
  dsimp only [List.length_nil]
  go_enter Try.func59, Try.ntmps59
  go_wp2_with fail
  rw [← hW]
  clear hW
  go_quiet (fail)
  obtain ⟨Wq, hq, bq⟩ : ∃ Wq, Wq = W.drewN nq ∧ Below W.heap.size W Wq := ⟨_, rfl, ⟨rfl, rfl, rfl, Nat.le_refl _, fun _ _ => rfl⟩⟩
  rw [← hq]
  clear hq
  have kq := k0.keep bq
  have d0 : Wq.cell? ⟨w.heap.size, 0, none⟩ = some (.int .i64 xa) := kq.cell 0
  have d1 : Wq.cell? ⟨w.heap.size, 1, none⟩ = some (.int .i64 xn) := kq.cell 1
  have d2 : Wq.cell? ⟨w.heap.size, 2, none⟩ = some (.int .i64 xs) := kq.cell 2
  have R2 := Lib.hid ((HR.out.keep bW).keep bq)
  have C1 := Lib.hid (news3 Wq ⟨xa, xn, xs⟩)
  have hsq := bq.size
  have b2 : Below base w Wq := (bW.mono hbase).trans (bq.mono (by omega))
  go_wp2_with (at_builtin; refine wpList_append_own _ rfl _ _ 33 rfl base 31 i0 _ 3 24 Try.underlying33 hi hz0 hz1 hz2 rfl (by decide) _ _ _ rfl (R2.out.alloc _) ⟨Wq.heap.size, 0, none⟩ 1 1 (cs [⟨xa, xn, xs⟩]) rfl rfl C1.out (one3 _) ?c3a ?c4a ?c5a ?_)
  case c3a => unfold maxLen; omega
  case c5a => omega
  intro v' w4 hown' hgrow _
  have hrow := Row.append hown'
  have b4 := (b2.alloc (by omega) (.cells #[.int .i64 xa, .int .i64 xn, .int .i64 xs] 31)).grown hgrow (by simp; omega) (Row.ge R2.out)
  have HW := Lib.hid (And.intro hrow b4)
  clear hown' hgrow hrow b4
  go_wp2_with fail
  go_ret
  exact ⟨_, rfl, HW.out.1, HW.out.2⟩

set_option maxHeartbeats 2000000 in
set_option maxRecDepth 100000 in
theorem push_snoc (base : Nat) (v : Value) (O : List X) (y x : X) (w : World) (hr : Row w base v (O ++ [y])) (hbase : base ≤ w.heap.size) (hx : okx x) (hy : okx y) (hl : O.length ≤ 65536) : Calls Try.prog 59 #[v, .agg #[.int .i64 x.a, .int .i64 x.n, .int .i64 x.s]] w (RetU base w (psh (O ++ [y]) x)) := by
  obtain ⟨i0, hi, hz0, hz1, hz2⟩ := info_parts Try.info31
  obtain ⟨xa, xn, xs⟩ := x
  dsimp only
  obtain ⟨W, hW, hsW, bW, k0⟩ : ∃ W, W = w.alloc (.cells #[.int .i64 xa, .int .i64 xn, .int .i64 xs] 31) ∧ W.heap.size = w.heap.size + 1 ∧ Below w.heap.size w W ∧ Blk W w.heap.size #[.int .i64 xa, .int .i64 xn, .int .i64 xs] 31 := ⟨_, rfl, by simp, (Below.refl _ w).alloc (Nat.le_refl _) _, Blk.new _ _ _⟩
  have hr1 := hr.keep bW
  clear hr
  obtain ⟨g, cap', cur, rfl, hg, hB, hc1, hc2, hc3, hc4, f0, f1, f2⟩ := hr1.last
  have EN := Lib.hid (end_any y hy)
  unfold ag at EN
  have hgl := hB.lt
  have HR := Lib.hid (And.intro hr1 (And.intro hB (And.intro hc3 hc4))); clear hr1 hB hc3 hc4
  unfold okx at hx hy
  obtain ⟨ya, yn, ys⟩ := y
  dsimp only at f0 f1 f2 hx hy EN
  obtain ⟨q1, q2, q3, q4, q5⟩ := hx
  obtain ⟨p1, p2, p3, p4, p5⟩ := hy
  have i1 : (0 : Int) ≤ (O.length : Int) := by omega
  have i2 : (O.length : Int) < (O.length : Int) + 1 := by omega
  have w2' : IntKind.i64.wrap (ys + yn) = ys + yn := IntWalk.i64_in _ (by omega)
  have hkW := k0.lt
  have x0 : W.cell? ⟨w.heap.size, 0, none⟩ = some (.int .i64 xa) := k0.cell 0
  have x1 : W.cell? ⟨w.heap.size, 1, none⟩ = some (.int .i64 xn) := k0.cell 1
  have x2 : W.cell? ⟨w.heap.size, 2, none⟩ = some (.int .i64 xs) := k0.cell 2
  have y0 : ∀ u : Gr W, u.w.cell? ⟨w.heap.size, 0, none⟩ = some (.int .i64 xa) := fun u => (u.b.cell (p := ⟨w.heap.size, 0, none⟩) hkW).trans x0
  have y1 : ∀ u : Gr W, u.w.cell? ⟨w.heap.size, 1, none⟩ = some (.int .i64 xn) := fun u => (u.b.cell (p := ⟨w.heap.size, 1, none⟩) hkW).trans x1
  have y2 : ∀ u : Gr W, u.w.cell? ⟨w.heap.size, 2, none⟩ = some (.int .i64 xs) := fun u => (u.b.cell (p := ⟨w.heap.size, 2, none⟩) hkW).trans x2
  have z0 : ∀ u : Gr W, u.w.cell? ⟨g, O.length * 3, none⟩ = some (.int .i64 ya) := fun u => (u.b.cell (p := ⟨g, _, none⟩) hgl).trans f0
  have z1 : ∀ u : Gr W, u.w.cell? ⟨g, O.length * 3 + 1, none⟩ = some (.int .i64 yn) := fun u => (u.b.cell (p := ⟨g, _, none⟩) hgl).trans f1
  have z2 : ∀ u : Gr W, u.w.cell? ⟨g, O.length * 3 + 2, none⟩ = some (.int .i64 ys) := fun u => (u.b.cell (p := ⟨g, _, none⟩) hgl).trans f2
  by_cases ha : ya + yn = xa
  · have t1 : (ya + yn == xa) = true := by simpa using ha
    by_cases hs' : ys + yn = xs
    · have t2 : (ys + yn == xs) = true := by simpa using hs'
      have EX : Hid (psh (O ++ [⟨ya, yn, ys⟩]) ⟨xa, xn, xs⟩ = O ++ [⟨ya, yn + xn, ys⟩]) := Lib.hid (by rw [psh_snoc, if_pos ⟨ha, hs'⟩])
      clear ha hs'
      go_enter Try.func59, Try.ntmps59
      go_wp2_with fail
      rw [← hW]
      clear hW
      refine region_grow (by kernel_rfl) (by kernel_rfl) ?_
      repeat (first | go_big_quiet_skip | ((with_reducible refine wpQuiet_step (fun K hK => ?_)); go_simp; first | (refine hK _ ?_; clear hK K) | (apply Exists.intro; refine ⟨fun _ => ?_, hK _ ?_⟩; (first | (with_reducible exact grow_of (EN.out _))); clear hK K)))
      with_reducible refine wpQuiet_nil ?_
      intro u
      obtain ⟨Wq, hq, bq⟩ : ∃ Wq, Wq = u.w ∧ Below W.heap.size W Wq := ⟨_, rfl, u.b⟩
      have g1 := z1 u
      have g2 := y1 u
      rw [← hq] at g1 g2 ⊢
      clear hq y0 y1 y2 z0 z1 z2 t1 t2 w2' x0 x1 x2 f0 f1 f2
      have kB := HR.out.2.1.keep bq
      have zf := kB.frozen (O.length * 3 + 1)
      have s1 : IntKind.i64.wrap (yn + xn) = yn + xn := IntWalk.i64_in _ (by omega)
      have hsq := bq.size
      have b2 : Below base w Wq := (bW.mono hbase).trans (bq.mono (by omega))
      go_wp2_with fail
      refine region_tail 8 (by kernel_rfl) (by kernel_rfl) ?_
      simp only [List.take_succ_cons, List.take_zero, List.drop_succ_cons, List.drop_zero]
      repeat still_step
      with_reducible refine wpStill_nil ?_
      clear s1
      go_wp2_with fail
      have ST := (Row.as (HR.out.1.keep (bq.drew))).stored (O.length * 3 + 1) (.int .i64 (yn + xn))
      go_ret
      exact ⟨_, rfl, by rw [EX.out]; exact Row.bump ST.1, b2.drew.setCell hg _⟩
    · have t2 : (ys + yn == xs) = false := by simpa using hs'
      have EX : Hid (psh (O ++ [⟨ya, yn, ys⟩]) ⟨xa, xn, xs⟩ = O ++ [⟨ya, yn, ys⟩] ++ [⟨xa, xn, xs⟩]) := Lib.hid (by rw [psh_snoc, if_neg (fun h => hs' h.2)])
      clear ha hs'
      go_enter Try.func59, Try.ntmps59
      go_wp2_with fail
      rw [← hW]
      clear hW
      refine region_grow (by kernel_rfl) (by kernel_rfl) ?_
      repeat (first | go_big_quiet_skip | ((with_reducible refine wpQuiet_step (fun K hK => ?_)); go_simp; first | (refine hK _ ?_; clear hK K) | (apply Exists.intro; refine ⟨fun _ => ?_, hK _ ?_⟩; (first | (with_reducible exact grow_of (EN.out _))); clear hK K)))
      with_reducible refine wpQuiet_nil ?_
      intro u
      obtain ⟨Wq, hq, bq⟩ : ∃ Wq, Wq = u.w ∧ Below W.heap.size W Wq := ⟨_, rfl, u.b⟩
      have d0 := y0 u
      have d1 := y1 u
      have d2 := y2 u
      rw [← hq] at d0 d1 d2 ⊢
      clear hq y0 y1 y2 z0 z1 z2 w2' x0 x1 x2 f0 f1 f2 t1 t2
      have hsq := bq.size
      have R2 := Lib.hid (Row.as (HR.out.1.keep bq))
      obtain ⟨mm, hmm⟩ : ∃ mm, mm = O.length + 1 := ⟨_, rfl⟩
      have hmb : mm ≤ 65537 := by omega
      rw [← hmm] at R2 ⊢
      have HMM := Lib.hid hmm; clear hmm
      have C1 := Lib.hid (news3 Wq ⟨xa, xn, xs⟩)
      have b2 : Below base w Wq := (bW.mono hbase).trans (bq.mono (by omega))
      go_wp2_with (at_builtin; refine wpList_append_own _ rfl _ _ 33 rfl base 31 i0 _ 3 24 Try.underlying33 hi hz0 hz1 hz2 rfl (by decide) _ _ _ rfl (R2.out.alloc _) ⟨Wq.heap.size, 0, none⟩ 1 1 (cs [⟨xa, xn, xs⟩]) rfl rfl C1.out (one3 _) ?c3b ?c4b ?c5b ?_)
      case c3b => unfold maxLen; omega
      case c4b => omega
      case c5b => omega
      intro v' w4 hown' hgrow _
      have hrow := Row.append' (by rw [HMM.out] at hown'; exact hown')
      have b4 := (b2.alloc (by omega) (.cells #[.int .i64 xa, .int .i64 xn, .int .i64 xs] 31)).grown hgrow (by simp; omega) (by intro q hq; simp [Value.ownBlock] at hq; omega)
      rw [← EX.out] at hrow
      have HW := Lib.hid (And.intro hrow b4)
      clear hown' hgrow hrow b4
      go_wp2_with fail
      go_ret
      exact ⟨_, rfl, HW.out.1, HW.out.2⟩
  · have t1 : (ya + yn == xa) = false := by simpa using ha
    have EX : Hid (psh (O ++ [⟨ya, yn, ys⟩]) ⟨xa, xn, xs⟩ = O ++ [⟨ya, yn, ys⟩] ++ [⟨xa, xn, xs⟩]) := Lib.hid (by rw [psh_snoc, if_neg (fun h => ha h.1)])
    clear ha
    go_enter Try.func59, Try.ntmps59
    go_wp2_with fail
    rw [← hW]
    clear hW
    refine region_grow (by kernel_rfl) (by kernel_rfl) ?_
    repeat (first | go_big_quiet_skip | ((with_reducible refine wpQuiet_step (fun K hK => ?_)); go_simp; first | (refine hK _ ?_; clear hK K) | (apply Exists.intro; refine ⟨fun _ => ?_, hK _ ?_⟩; (first | (with_reducible exact grow_of (EN.out _))); clear hK K)))
    with_reducible refine wpQuiet_nil ?_
    intro u
    obtain ⟨Wq, hq, bq⟩ : ∃ Wq, Wq = u.w ∧ Below W.heap.size W Wq := ⟨_, rfl, u.b⟩
    have d0 := y0 u
    have d1 := y1 u
    have d2 := y2 u
    rw [← hq] at d0 d1 d2 ⊢
    clear hq y0 y1 y2 z0 z1 z2 w2' x0 x1 x2 f0 f1 f2 t1
    have hsq := bq.size
    have R2 := Lib.hid (Row.as (HR.out.1.keep bq))
    obtain ⟨mm, hmm⟩ : ∃ mm, mm = O.length + 1 := ⟨_, rfl⟩
    have hmb : mm ≤ 65537 := by omega
    rw [← hmm] at R2 ⊢
    have HMM := Lib.hid hmm; clear hmm
    have C1 := Lib.hid (news3 Wq ⟨xa, xn, xs⟩)
    have b2 : Below base w Wq := (bW.mono hbase).trans (bq.mono (by omega))
    go_wp2_with (at_builtin; refine wpList_append_own _ rfl _ _ 33 rfl base 31 i0 _ 3 24 Try.underlying33 hi hz0 hz1 hz2 rfl (by decide) _ _ _ rfl (R2.out.alloc _) ⟨Wq.heap.size, 0, none⟩ 1 1 (cs [⟨xa, xn, xs⟩]) rfl rfl C1.out (one3 _) ?c3c ?c4c ?c5c ?_)
    case c3c => unfold maxLen; omega
    case c4c => omega
    case c5c => omega
    intro v' w4 hown' hgrow _
    have hrow := Row.append' (by rw [HMM.out] at hown'; exact hown')
    have b4 := (b2.alloc (by omega) (.cells #[.int .i64 xa, .int .i64 xn, .int .i64 xs] 31)).grown hgrow (by simp; omega) (by intro q hq; simp [Value.ownBlock] at hq; omega)
    rw [← EX.out] at hrow
    have HW := Lib.hid (And.intro hrow b4)
    clear hown' hgrow hrow b4
    go_wp2_with fail
    go_ret
    exact ⟨_, rfl, HW.out.1, HW.out.2⟩

theorem push_one (base : Nat) (v : Value) (O : List X) (x : X) (w : World) (hr : Row w base v O) (hbase : base ≤ w.heap.size) (hx : okx x) (hy : ∀ y ∈ O, okx y) (hl : O.length ≤ 65536) : Calls Try.prog 59 #[v, .agg #[.int .i64 x.a, .int .i64 x.n, .int .i64 x.s]] w (RetU base w (psh O x)) := by
  rcases List.eq_nil_or_concat O with rfl | ⟨O', y, rfl⟩
  · exact push_nil base v x w hr hbase
  · rw [List.concat_eq_append] at *
    simp only [List.length_append, List.length_cons, List.length_nil] at hl
    exact push_snoc base v O' y x w hr hbase hx (hy y (by simp)) (by omega)

end Go.Proofs.Ytdfdnimledcfbaa
