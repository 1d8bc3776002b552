/- What step returns: the tree after a step, and the part that it removes. Conditions: the tree's list is valid and in normal form. -/
import Derived.Test.YtdfdnimledcfbaaApply
namespace Go.Proofs.Ytdfdnimledcfbaa
open Go.RowKit
open Go.Deep (BT)
attribute [local go_sem ↓] Go.wp_at_zero Go.wp_at_succ

theorem step_world (w : World) (p : Option Addr) (s : St) : ∃ W, W = ((w.alloc (.cells #[.pointer p] 26)).alloc (.cells #[.bool s.c, .int .u8 s.a, .int .u8 s.n, .int .u8 s.s] 29)).alloc (.cells #[.pointer none] 26) ∧
    Below w.heap.size w W ∧ Blk W w.heap.size #[.pointer p] 26 ∧ Blk W (w.heap.size + 1) #[.bool s.c, .int .u8 s.a, .int .u8 s.n, .int .u8 s.s] 29 ∧ Blk W (w.heap.size + 1 + 1) #[.pointer none] 26 := by
  refine ⟨_, rfl, (((Below.refl _ w).alloc (Nat.le_refl _) _).alloc (by simp) _).alloc (by simp; omega) _, ?_, ?_, ?_⟩
  · exact ((Blk.new w _ _).alloc _).alloc _
  · have := (Blk.new (w.alloc (.cells #[.pointer p] 26)) #[.bool s.c, .int .u8 s.a, .int .u8 s.n, .int .u8 s.s] 29).alloc (.cells #[.pointer none] 26)
    rw [World.size_alloc] at this
    exact this
  · have := Blk.new ((w.alloc (.cells #[.pointer p] 26)).alloc (.cells #[.bool s.c, .int .u8 s.a, .int .u8 s.n, .int .u8 s.s] 29)) #[.pointer none] 26
    rw [World.size_alloc, World.size_alloc] at this
    exact this

set_option maxHeartbeats 2000000 in
set_option maxRecDepth 100000 in
theorem step_any (p : Option Addr) (T : BT X) (s : St) (w : World) (hT : At w p T) (av : avl T) (hv : vld (li T)) (hn : nf (li T)) (hok : s.ok) (hf : fine s) : Calls Try.prog 19 #[tv p, sv s] w (RetP w (nx (li T) s) (mid (li T) s.a s.n)) := by
  obtain ⟨W, hW, bW, k0, k1, k2⟩ := step_world w p s
  have hwt := byte_wth hok
  have hok' := hok
  unfold St.ok at hok'
  obtain ⟨o1, o2, o3, o4, o5, o6⟩ := hok'
  obtain ⟨c, a, n, s'⟩ := s
  unfold sv tv
  dsimp only at *
  have m0 : W.cell? ⟨w.heap.size, 0, none⟩ = some (.pointer p) := k0.cell 0
  have n0 : W.cell? ⟨w.heap.size + 1, 0, none⟩ = some (.bool c) := k1.cell 0
  have n1 : W.cell? ⟨w.heap.size + 1, 1, none⟩ = some (.int .u8 a) := k1.cell 1
  have n2 : W.cell? ⟨w.heap.size + 1, 2, none⟩ = some (.int .u8 n) := k1.cell 2
  have n3 : W.cell? ⟨w.heap.size + 1, 3, none⟩ = some (.int .u8 s') := k1.cell 3
  cases c with
  | true =>
    have RC := Lib.hid (cut_any p T a n W (hT.below bW) av hv hn hwt)
    unfold tv at RC
    clear hT av hv hn hok hf hwt
    go_enter Try.func19, Try.ntmps19
    go_wp2_with fail
    rw [← hW]
    clear hW
    go_wp2_with fail
    refine RC.out.mono ?_
    rintro e w1 ⟨q, T', v, rfl, hT', av', hl', hr', hb1⟩
    have H := Lib.hid (And.intro hT' (And.intro av' (And.intro hl' hr'))); clear hT' av' hl' hr'
    have q2 := k2.keep hb1
    have r0 : w1.cell? ⟨w.heap.size + 1 + 1, 0, none⟩ = some (.pointer none) := q2.cell 0
    have f0 := q2.frozen 0
    go_wp2_with fail
    refine bodyPost_ret (v := .tuple #[.agg #[.pointer q], v, .int .i64 0]) (by simp [results, Try.results19, go_sem, r0]) rfl ?_
    have c1' := bW.trans (hb1.mono bW.size)
    refine ⟨q, T', v, rfl, ?_, H.out.2.1, H.out.2.2.1, ?_, c1'.setCell (by dsimp only; omega) _⟩
    · exact IsT.turn (N := w.heap.size + 1 + 1) (W := w1) (n := w1.heap.size) (q2.cell 3) (fun k hk => by rw [Below.heap_setCell _ _ _ _ hk]) (by simp) H.out.1
    · exact (Row.mono (ownsRow_setCell_below (a := ⟨w.heap.size + 1 + 1, 0, none⟩) H.out.2.2.2 k2.lt _) bW.size)
  | false =>
    have hN0 := k0.lt
    have hN1 := k1.lt
    have hN2 := k2.lt
    have EX := Lib.hid (fun w' => extent_any ⟨false, a, n, s'⟩ hok w')
    have RC := Lib.hid (fun w' (hw : Below W.heap.size W w') => put_any p T ⟨a, n, s'⟩ w' ((hT.below bW).below hw) av hv hn (fine_ok hok hf rfl))
    unfold tv ag at RC
    dsimp only at EX RC
    clear hT av hv hn hok hf hwt
    have q1 : w.heap.size + 1 + 1 ≠ w.heap.size := by omega
    have q2 : w.heap.size + 1 + 1 ≠ w.heap.size + 1 := by omega
    have BK := Lib.hid (And.intro k2 bW)
    have KS : Hid (∀ w', Below W.heap.size W w' → (w'.cell? ⟨w.heap.size, 0, none⟩ = some (.pointer p) ∧ w'.cell? ⟨w.heap.size + 1, 0, none⟩ = some (.bool false) ∧ w'.cell? ⟨w.heap.size + 1, 1, none⟩ = some (.int .u8 a) ∧ w'.cell? ⟨w.heap.size + 1, 2, none⟩ = some (.int .u8 n) ∧ w'.cell? ⟨w.heap.size + 1, 3, none⟩ = some (.int .u8 s'))) :=
      fun w' h => ⟨(h.cell (p := ⟨w.heap.size, 0, none⟩) hN0).trans m0, (h.cell (p := ⟨w.heap.size + 1, 0, none⟩) hN1).trans n0, (h.cell (p := ⟨w.heap.size + 1, 1, none⟩) hN1).trans n1, (h.cell (p := ⟨w.heap.size + 1, 2, none⟩) hN1).trans n2, (h.cell (p := ⟨w.heap.size + 1, 3, none⟩) hN1).trans n3⟩
    go_enter Try.func19, Try.ntmps19
    go_wp2_with fail
    rw [← hW]
    clear hW bW k0 k1 k2
    go_wp2_with fail
    go_region_held3 (fun w' => w'.cell? ⟨w.heap.size, 0, none⟩ = some (.pointer p) ∧ w'.cell? ⟨w.heap.size + 1, 0, none⟩ = some (.bool false) ∧ w'.cell? ⟨w.heap.size + 1, 1, none⟩ = some (.int .u8 a) ∧ w'.cell? ⟨w.heap.size + 1, 2, none⟩ = some (.int .u8 n) ∧ w'.cell? ⟨w.heap.size + 1, 3, none⟩ = some (.int .u8 s'))
      ((first | exact KS.out _ (Below.refl _ _).drew | exact KS.out _ hb2 | exact KS.out _ hb1 | (have g1 := KS.out _ hb2; go_split_ands; go_keep)))
      (first | (go_at_call 46; refine (EX.out _).mono ?_; rintro e w1 ⟨rfl, hb1'⟩; have hb1 := (Below.refl _ W).drew.trans hb1') | (go_at_call 14; refine (RC.out _ hb1).mono ?_; rintro e w2 ⟨q, T', v, rfl, hT', av', hl', hr', hb2'⟩; have hb2 := hb1.trans (hb2'.mono hb1.size); have q3 := BK.out.1.keep hb2; have r0 : w2.cell? ⟨w.heap.size + 1 + 1, 0, none⟩ = some (.pointer none) := q3.cell 0; have f0 := q3.frozen 0; have H := Lib.hid (And.intro hT' (And.intro av' (And.intro hl' hr'))); clear hT' av' hl' hr'))
    go_wp2_with fail
    refine bodyPost_ret (v := .tuple #[.agg #[.pointer q], v, .int .i64 0]) (by simp [results, Try.results19, go_sem, r0]) rfl ?_
    have c1' := BK.out.2.trans (hb2.mono BK.out.2.size)
    refine ⟨q, T', v, rfl, ?_, H.out.2.1, H.out.2.2.1, ?_, c1'.setCell (by dsimp only; omega) _⟩
    · exact IsT.turn (N := w.heap.size + 1 + 1) (W := w2) (n := w2.heap.size) (q3.cell 3) (fun k hk => by rw [Below.heap_setCell _ _ _ _ hk]) (by simp) H.out.1
    · exact (Row.mono (ownsRow_setCell_below (a := ⟨w.heap.size + 1 + 1, 0, none⟩) H.out.2.2.2 (Nat.lt_of_lt_of_le hN2 hb1.size) _) (Nat.le_trans BK.out.2.size hb1.size))

set_option maxHeartbeats 2000000 in
set_option maxRecDepth 100000 in
theorem step_bad (p : Option Addr) (s : St) (w : World) (hok : s.ok) (hf : ¬ fine s) : Calls Try.prog 19 #[tv p, sv s] w (RetE w) := by
  obtain ⟨W, hW, bW, k0, k1, k2⟩ := step_world w p s
  obtain ⟨c, a, n, s'⟩ := s
  unfold fine at hf
  obtain rfl : c = false := by simpa using fun h => hf (.inl h)
  have hnx : ¬ okx ⟨a, n, s'⟩ := by unfold okx; intro h; exact hf (.inr h.2.1)
  unfold sv tv
  dsimp only at *
  have m0 : W.cell? ⟨w.heap.size, 0, none⟩ = some (.pointer p) := k0.cell 0
  have n0 : W.cell? ⟨w.heap.size + 1, 0, none⟩ = some (.bool false) := k1.cell 0
  have n1 : W.cell? ⟨w.heap.size + 1, 1, none⟩ = some (.int .u8 a) := k1.cell 1
  have n2 : W.cell? ⟨w.heap.size + 1, 2, none⟩ = some (.int .u8 n) := k1.cell 2
  have n3 : W.cell? ⟨w.heap.size + 1, 3, none⟩ = some (.int .u8 s') := k1.cell 3
  have hN0 := k0.lt
  have hN1 := k1.lt
  have hN2 := k2.lt
  have EX := Lib.hid (fun w' => extent_any ⟨false, a, n, s'⟩ hok w')
  have RC := Lib.hid (fun w' => put_bad p ⟨a, n, s'⟩ w' hnx)
  unfold tv ag at RC
  dsimp only at EX RC
  clear hok hf hnx
  have q1 : w.heap.size + 1 + 1 ≠ w.heap.size := by omega
  have q2 : w.heap.size + 1 + 1 ≠ w.heap.size + 1 := by omega
  have BK := Lib.hid (And.intro k2 bW)
  have KS : Hid (∀ w', Below W.heap.size W w' → (w'.cell? ⟨w.heap.size, 0, none⟩ = some (.pointer p) ∧ w'.cell? ⟨w.heap.size + 1, 0, none⟩ = some (.bool false) ∧ w'.cell? ⟨w.heap.size + 1, 1, none⟩ = some (.int .u8 a) ∧ w'.cell? ⟨w.heap.size + 1, 2, none⟩ = some (.int .u8 n) ∧ w'.cell? ⟨w.heap.size + 1, 3, none⟩ = some (.int .u8 s'))) :=
    fun w' h => ⟨(h.cell (p := ⟨w.heap.size, 0, none⟩) hN0).trans m0, (h.cell (p := ⟨w.heap.size + 1, 0, none⟩) hN1).trans n0, (h.cell (p := ⟨w.heap.size + 1, 1, none⟩) hN1).trans n1, (h.cell (p := ⟨w.heap.size + 1, 2, none⟩) hN1).trans n2, (h.cell (p := ⟨w.heap.size + 1, 3, none⟩) hN1).trans n3⟩
  go_enter Try.func19, Try.ntmps19
  go_wp2_with fail
  rw [← hW]
  clear hW bW k0 k1 k2
  go_wp2_with fail
  go_region_held3 (fun w' => w'.cell? ⟨w.heap.size, 0, none⟩ = some (.pointer p) ∧ w'.cell? ⟨w.heap.size + 1, 0, none⟩ = some (.bool false) ∧ w'.cell? ⟨w.heap.size + 1, 1, none⟩ = some (.int .u8 a) ∧ w'.cell? ⟨w.heap.size + 1, 2, none⟩ = some (.int .u8 n) ∧ w'.cell? ⟨w.heap.size + 1, 3, none⟩ = some (.int .u8 s'))
    ((first | exact KS.out _ (Below.refl _ _).drew | exact KS.out _ hb2 | exact KS.out _ hb1 | (have g1 := KS.out _ hb2; go_split_ands; go_keep)))
    (first | (go_at_call 46; refine (EX.out _).mono ?_; rintro e w1 ⟨rfl, hb1'⟩; have hb1 := (Below.refl _ W).drew.trans hb1') | (go_at_call 14; refine (RC.out _).mono ?_; rintro e w2 ⟨rfl, hb2'⟩; have hb2 := hb1.trans (hb2'.mono hb1.size); have q3 := BK.out.1.keep hb2; have r0 : w2.cell? ⟨w.heap.size + 1 + 1, 0, none⟩ = some (.pointer none) := q3.cell 0; have f0 := q3.frozen 0))
  go_wp2_with fail
  refine bodyPost_ret (v := .tuple #[.agg #[.pointer none], .slice none 0 0, .int .i64 1]) (by simp [results, Try.results19, go_sem, r0]) rfl ?_
  have c1' := BK.out.2.trans (hb2.mono BK.out.2.size)
  exact ⟨rfl, c1'.setCell (by dsimp only; omega) _⟩

end Go.Proofs.Ytdfdnimledcfbaa
