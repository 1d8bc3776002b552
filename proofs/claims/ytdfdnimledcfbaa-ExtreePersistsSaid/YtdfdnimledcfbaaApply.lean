/- What Apply and step return: the list and the tree after a step. Conditions: the list is valid and in normal form. -/
import Derived.Test.YtdfdnimledcfbaaRefPut
namespace Go.Proofs.Ytdfdnimledcfbaa
open Go.RowKit
open Go.Deep (BT)
attribute [local go_sem ↓] Go.wp_at_zero Go.wp_at_succ

/-- The step is permitted. -/
def fine (s : St) : Prop := s.c = true ∨ 1 ≤ s.n
/-- The list after a step. -/
def nx (L : List X) (s : St) : List X := if s.c then cut L s.a s.n else put L ⟨s.a, s.n, s.s⟩
/-- The value of a step. -/
def sv (s : St) : Value := .agg #[.bool s.c, .int .u8 s.a, .int .u8 s.n, .int .u8 s.s]

theorem fine_ok {s : St} (h : s.ok) (hf : fine s) (hc : s.c = false) : okx ⟨s.a, s.n, s.s⟩ := by
  unfold St.ok at h
  rcases hf with hf | hf
  · rw [hf] at hc; cases hc
  · unfold okx; dsimp only; omega
theorem byte_wth {s : St} (h : s.ok) : wth s.a s.n 65536 = true := by
  unfold St.ok at h
  simp only [wth, decide_eq_true_eq]; omega
theorem nx_vn {L : List X} {s : St} (hv : vld L) (h : s.ok) (hf : fine s) : vld (nx L s) ∧ nf (nx L s) := by
  unfold nx
  by_cases hc : s.c = true
  · rw [if_pos hc]; exact cut_vn hv (by unfold St.ok at h; omega)
  · rw [if_neg hc]; exact put_vn hv (fine_ok h hf (by simpa using hc))

set_option maxHeartbeats 1000000 in
set_option maxRecDepth 100000 in
theorem apply_any (v : Value) (L : List X) (s : St) (w : World) (hs : Sl w v L) (hv : vld L) (hn : nf L) (hok : s.ok) (hf : fine s) : Calls Try.prog 18 #[v, sv s] w (RetC w (nx L s) (mid L s.a s.n)) := by
  obtain ⟨W, hW, bW, k0⟩ : ∃ W, W = w.alloc (.cells #[.bool s.c, .int .u8 s.a, .int .u8 s.n, .int .u8 s.s] 29) ∧ Below w.heap.size w W ∧ Blk W w.heap.size #[.bool s.c, .int .u8 s.a, .int .u8 s.n, .int .u8 s.s] 29 := ⟨_, rfl, (Below.refl _ w).alloc (Nat.le_refl _) _, Blk.new _ _ _⟩
  have hwt := byte_wth hok
  obtain ⟨c, a, n, s'⟩ := s
  have hok' := hok
  unfold St.ok at hok'
  obtain ⟨o1, o2, o3, o4, o5, o6⟩ := hok'
  unfold sv
  dsimp only at *
  have n0 : W.cell? ⟨w.heap.size, 0, none⟩ = some (.bool c) := k0.cell 0
  have n1 : W.cell? ⟨w.heap.size, 1, none⟩ = some (.int .u8 a) := k0.cell 1
  have n2 : W.cell? ⟨w.heap.size, 2, none⟩ = some (.int .u8 n) := k0.cell 2
  have n3 : W.cell? ⟨w.heap.size, 3, none⟩ = some (.int .u8 s') := k0.cell 3
  cases c with
  | true =>
    have RC := Lib.hid (refcut_any v L a n W (hs.below bW) hv hn hwt)
    obtain ⟨ao, cap, rfl⟩ := sl_shape hs
    clear hs hv hn hok hf hwt
    go_enter Try.func18, Try.ntmps18
    go_wp2_with fail
    rw [← hW]
    clear hW
    go_wp2_with fail
    refine RC.out.mono ?_
    rintro e w1 ⟨v1, v2, rfl, h1, h2, hb⟩
    have H := Lib.hid (And.intro h1 h2); clear h1 h2
    go_wp2_with fail
    go_ret3
    exact ⟨v1, v2, rfl, H.out.1, H.out.2, bW.trans (hb.mono bW.size)⟩
  | false =>
    have EX := Lib.hid (extent_any ⟨false, a, n, s'⟩ hok W)
    have RC := Lib.hid (fun w' (hw : Below W.heap.size W w') => refput_any v L ⟨a, n, s'⟩ w' ((hs.below bW).below hw) hv hn (fine_ok hok hf rfl))
    dsimp only at EX RC
    obtain ⟨ao, cap, rfl⟩ := sl_shape hs
    clear hs hv hn hok hf hwt
    go_enter Try.func18, Try.ntmps18
    go_wp2_with fail
    rw [← hW]
    clear hW
    go_wp2_with fail
    refine EX.out.mono ?_
    rintro e w1 ⟨rfl, hb1⟩
    go_wp2_with fail
    refine (RC.out w1 hb1).mono ?_
    rintro e w2 ⟨v1, v2, rfl, h1, h2, hb⟩
    have H := Lib.hid (And.intro h1 h2); clear h1 h2
    go_wp2_with fail
    go_ret3
    have c1 := bW.trans (hb1.mono bW.size)
    exact ⟨v1, v2, rfl, H.out.1, H.out.2, c1.trans (hb.mono c1.size)⟩

set_option maxHeartbeats 1000000 in
set_option maxRecDepth 100000 in
theorem apply_bad (v : Value) (L : List X) (s : St) (w : World) (hs : Sl w v L) (hv : vld L) (hok : s.ok) (hf : ¬ fine s) : Calls Try.prog 18 #[v, sv s] w (RetCE w) := by
  obtain ⟨W, hW, bW, k0⟩ : ∃ W, W = w.alloc (.cells #[.bool s.c, .int .u8 s.a, .int .u8 s.n, .int .u8 s.s] 29) ∧ Below w.heap.size w W ∧ Blk W w.heap.size #[.bool s.c, .int .u8 s.a, .int .u8 s.n, .int .u8 s.s] 29 := ⟨_, rfl, (Below.refl _ w).alloc (Nat.le_refl _) _, Blk.new _ _ _⟩
  obtain ⟨c, a, n, s'⟩ := s
  unfold fine at hf
  obtain rfl : c = false := by simpa using fun h => hf (.inl h)
  have hnx : ¬ okx ⟨a, n, s'⟩ := by unfold okx; intro h; exact hf (.inr h.2.1)
  unfold sv
  dsimp only at *
  have n0 : W.cell? ⟨w.heap.size, 0, none⟩ = some (.bool false) := k0.cell 0
  have n1 : W.cell? ⟨w.heap.size, 1, none⟩ = some (.int .u8 a) := k0.cell 1
  have n2 : W.cell? ⟨w.heap.size, 2, none⟩ = some (.int .u8 n) := k0.cell 2
  have n3 : W.cell? ⟨w.heap.size, 3, none⟩ = some (.int .u8 s') := k0.cell 3
  have EX := Lib.hid (extent_any ⟨false, a, n, s'⟩ hok W)
  have RC := Lib.hid (fun w' (hw : Below W.heap.size W w') => refput_bad v L ⟨a, n, s'⟩ w' ((hs.below bW).below hw) hv hnx)
  dsimp only at EX RC
  obtain ⟨ao, cap, rfl⟩ := sl_shape hs
  clear hs hv hok hf hnx
  go_enter Try.func18, Try.ntmps18
  go_wp2_with fail
  rw [← hW]
  clear hW
  go_wp2_with fail
  refine EX.out.mono ?_
  rintro e w1 ⟨rfl, hb1⟩
  go_wp2_with fail
  refine (RC.out w1 hb1).mono ?_
  rintro e w2 ⟨rfl, hb⟩
  go_wp2_with fail
  go_ret3
  have c1 := bW.trans (hb1.mono bW.size)
  exact ⟨rfl, c1.trans (hb.mono c1.size)⟩

end Go.Proofs.Ytdfdnimledcfbaa
