/- What the small functions of the reference return. Conditions: the numbers are of 64 bits. -/
import Derived.Test.YtdfdnimledcfbaaSteps
namespace Go.Proofs.Ytdfdnimledcfbaa
open Go.RowKit
open Go.Deep (BT)

set_option maxHeartbeats 1000000 in
theorem extent_any (s : St) (hs : s.ok) (w : World) : Calls Try.prog 46 #[.agg #[.bool s.c, .int .u8 s.a, .int .u8 s.n, .int .u8 s.s]] w fun e w' => e = .returned (.agg #[.int .i64 s.a, .int .i64 s.n, .int .i64 s.s]) ∧ Below w.heap.size w w' := by
  have BB := Lib.hid (fun o o' => (((Below.refl _ w).alloc (Nat.le_refl _) o).alloc (by simp) o' : Below w.heap.size w ((w.alloc o).alloc o')))
  unfold St.ok at hs
  obtain ⟨o1, o2, o3, o4, o5, o6⟩ := hs
  obtain ⟨c, a, n, s⟩ := s
  dsimp only at *
  go_enter Try.func46, Try.ntmps46
  go_wp2
  refine bodyPost_ret (v := .agg #[.int .i64 a, .int .i64 n, .int .i64 s]) (by simp [results, Try.results46, go_sem]) rfl ?_
  exact ⟨rfl, BB.out _ _⟩

set_option maxHeartbeats 2000000 in
theorem range57_any (t n : Int) (w : World) : Calls Try.prog 57 #[.int .i64 t, .int .i64 n] w fun e w' => e = .returned (.bool (wth t n 65536)) ∧ w = w' := by
  by_cases h1 : 0 ≤ t
  · by_cases h2 : 0 ≤ n
    · by_cases h3 : t ≤ 65536
      · by_cases h4 : n ≤ 65536
        · by_cases h5 : t + n ≤ 65536
          · have HF : Hid (true = wth t n 65536) := (show true = wth t n 65536 from (by symm; simp only [wth, decide_eq_true_eq]; omega))
            go_enter Try.func57, Try.ntmps57
            go_wp2
            go_ret
            exact ⟨ret_bool HF.out, rfl⟩
          · have HF : Hid (false = wth t n 65536) := (show false = wth t n 65536 from (by symm; simp only [wth, decide_eq_false_iff_not]; omega))
            go_enter Try.func57, Try.ntmps57
            go_wp2
            go_ret
            exact ⟨ret_bool HF.out, rfl⟩
        · have HF : Hid (false = wth t n 65536) := (show false = wth t n 65536 from (by symm; simp only [wth, decide_eq_false_iff_not]; omega))
          go_enter Try.func57, Try.ntmps57
          go_wp2
          go_ret
          exact ⟨ret_bool HF.out, rfl⟩
      · have HF : Hid (false = wth t n 65536) := (show false = wth t n 65536 from (by symm; simp only [wth, decide_eq_false_iff_not]; omega))
        go_enter Try.func57, Try.ntmps57
        go_wp2
        go_ret
        exact ⟨ret_bool HF.out, rfl⟩
    · have HF : Hid (false = wth t n 65536) := (show false = wth t n 65536 from (by symm; simp only [wth, decide_eq_false_iff_not]; omega))
      go_enter Try.func57, Try.ntmps57
      go_wp2
      go_ret
      exact ⟨ret_bool HF.out, rfl⟩
  · have HF : Hid (false = wth t n 65536) := (show false = wth t n 65536 from (by symm; simp only [wth, decide_eq_false_iff_not]; omega))
    go_enter Try.func57, Try.ntmps57
    go_wp2
    go_ret
    exact ⟨ret_bool HF.out, rfl⟩

set_option maxHeartbeats 4000000 in
theorem one_any (x : X) (w : World) : Calls Try.prog 49 #[.agg #[.int .i64 x.a, .int .i64 x.n, .int .i64 x.s]] w fun e w' => e = .returned (.bool (okb x)) ∧ Below w.heap.size w w' := by
  have BB := Lib.hid (fun o => ((Below.refl _ w).alloc (Nat.le_refl _) o : Below w.heap.size w (w.alloc o)))
  obtain ⟨xa, xn, xs⟩ := x
  dsimp only
  by_cases h1 : 0 ≤ xa
  · by_cases h2 : 0 ≤ xs
    · by_cases h3 : 1 ≤ xn
      · by_cases h4 : xa ≤ 65536
        · by_cases h5 : xs ≤ 65536
          · by_cases h6 : xn ≤ 65536
            · by_cases h7 : xa + xn ≤ 65536
              · by_cases h8 : xs + xn ≤ 65536
                · have HF : Hid (true = okb ⟨xa, xn, xs⟩) := (show true = okb ⟨xa, xn, xs⟩ from (by symm; rw [okb_true]; unfold okx; dsimp only; omega))
                  go_enter Try.func49, Try.ntmps49
                  go_wp2
                  go_ret
                  exact ⟨ret_bool HF.out, BB.out _⟩
                · have HF : Hid (false = okb ⟨xa, xn, xs⟩) := (show false = okb ⟨xa, xn, xs⟩ from (by symm; rw [okb_false]; unfold okx; dsimp only; omega))
                  go_enter Try.func49, Try.ntmps49
                  go_wp2
                  go_ret
                  exact ⟨ret_bool HF.out, BB.out _⟩
              · have HF : Hid (false = okb ⟨xa, xn, xs⟩) := (show false = okb ⟨xa, xn, xs⟩ from (by symm; rw [okb_false]; unfold okx; dsimp only; omega))
                go_enter Try.func49, Try.ntmps49
                go_wp2
                go_ret
                exact ⟨ret_bool HF.out, BB.out _⟩
            · have HF : Hid (false = okb ⟨xa, xn, xs⟩) := (show false = okb ⟨xa, xn, xs⟩ from (by symm; rw [okb_false]; unfold okx; dsimp only; omega))
              go_enter Try.func49, Try.ntmps49
              go_wp2
              go_ret
              exact ⟨ret_bool HF.out, BB.out _⟩
          · have HF : Hid (false = okb ⟨xa, xn, xs⟩) := (show false = okb ⟨xa, xn, xs⟩ from (by symm; rw [okb_false]; unfold okx; dsimp only; omega))
            go_enter Try.func49, Try.ntmps49
            go_wp2
            go_ret
            exact ⟨ret_bool HF.out, BB.out _⟩
        · have HF : Hid (false = okb ⟨xa, xn, xs⟩) := (show false = okb ⟨xa, xn, xs⟩ from (by symm; rw [okb_false]; unfold okx; dsimp only; omega))
          go_enter Try.func49, Try.ntmps49
          go_wp2
          go_ret
          exact ⟨ret_bool HF.out, BB.out _⟩
      · have HF : Hid (false = okb ⟨xa, xn, xs⟩) := (show false = okb ⟨xa, xn, xs⟩ from (by symm; rw [okb_false]; unfold okx; dsimp only; omega))
        go_enter Try.func49, Try.ntmps49
        go_wp2
        go_ret
        exact ⟨ret_bool HF.out, BB.out _⟩
    · have HF : Hid (false = okb ⟨xa, xn, xs⟩) := (show false = okb ⟨xa, xn, xs⟩ from (by symm; rw [okb_false]; unfold okx; dsimp only; omega))
      go_enter Try.func49, Try.ntmps49
      go_wp2
      go_ret
      exact ⟨ret_bool HF.out, BB.out _⟩
  · have HF : Hid (false = okb ⟨xa, xn, xs⟩) := (show false = okb ⟨xa, xn, xs⟩ from (by symm; rw [okb_false]; unfold okx; dsimp only; omega))
    go_enter Try.func49, Try.ntmps49
    go_wp2
    go_ret
    exact ⟨ret_bool HF.out, BB.out _⟩

/-- The part of an extent between two blocks. -/
def prt (x : X) (f t : Int) : X := ⟨max x.a f, min (x.a + x.n) t - max x.a f, x.s + max x.a f - x.a⟩

set_option maxHeartbeats 2000000 in
set_option maxRecDepth 100000 in
theorem part_any (x : X) (f t : Int) (hx : okx x) (hf : 0 ≤ f ∧ f ≤ 1000000) (ht : 0 ≤ t ∧ t ≤ 1000000) (w : World) :
    Calls Try.prog 61 #[.agg #[.int .i64 x.a, .int .i64 x.n, .int .i64 x.s], .int .i64 f, .int .i64 t] w fun e w' => e = .returned (.tuple #[.agg #[.int .i64 (prt x f t).a, .int .i64 (prt x f t).n, .int .i64 (prt x f t).s], .bool (decide (max x.a f < min (x.a + x.n) t))]) ∧ Below w.heap.size w w' := by
  unfold okx at hx
  obtain ⟨h1, h2, h3, h4, h5⟩ := hx
  obtain ⟨hf1, hf2⟩ := hf
  obtain ⟨ht1, ht2⟩ := ht
  obtain ⟨xa, xn, xs⟩ := x
  dsimp only [prt] at *
  obtain ⟨W, hW, bW, k0, k1⟩ : ∃ W, W = (w.alloc (.cells #[.int .i64 xa, .int .i64 xn, .int .i64 xs] 31)).alloc (.cells #[.int .i64 0, .int .i64 0, .int .i64 0] 31) ∧ Below w.heap.size w W ∧ Blk W w.heap.size #[.int .i64 xa, .int .i64 xn, .int .i64 xs] 31 ∧ Blk W (w.heap.size + 1) #[.int .i64 0, .int .i64 0, .int .i64 0] 31 := by
    refine ⟨_, rfl, ((Below.refl _ w).alloc (Nat.le_refl _) _).alloc (by simp) _, (Blk.new w _ _).alloc _, ?_⟩
    have := Blk.new (w.alloc (.cells #[.int .i64 xa, .int .i64 xn, .int .i64 xs] 31)) #[.int .i64 0, .int .i64 0, .int .i64 0] 31
    rw [World.size_alloc] at this
    exact this
  have n0 := k0.cell 0
  have n1 := k0.cell 1
  have n2 := k0.cell 2
  rw [c30] at n0
  rw [c31] at n1
  rw [c32] at n2
  have m0 := k1.cell 0
  have m1 := k1.cell 1
  have m2 := k1.cell 2
  rw [c30] at m0
  rw [c31] at m1
  rw [c32] at m2
  have f0 := k1.frozen 0
  have f1 := k1.frozen 1
  have f2 := k1.frozen 2
  have q1 : IntKind.i64.wrap (xa + xn) = xa + xn := IntWalk.i64_in _ (by omega)
  rcases Int.lt_or_le xa f with ha | ha
  · rcases Int.lt_or_le t (xa + xn) with hb | hb
    · have ea : max xa f = f := by omega
      have eb : min (xa + xn) t = t := by omega
      rw [ea, eb]
      clear ea eb
      go_enter Try.func61, Try.ntmps61
      go_wp2_with fail
      rw [← hW]
      clear hW
      go_quiet (fail)
      clear q1
      have bq : Below w.heap.size w (W.drewN nq) := ⟨bW.os, bW.tape, bW.output, bW.size, bW.block⟩
      go_wp2_with fail
      refine bodyPost_ret (v := .tuple #[.agg #[.int .i64 (f), .int .i64 (t - f), .int .i64 (xs + f - xa)], .bool (decide (f < t))]) (by simp [results, Try.results61, go_sem, m0, m1, m2]) rfl ?_
      exact ⟨rfl, ((bq.setCell (by dsimp only; omega) _).setCell (by dsimp only; omega) _).setCell (by dsimp only; omega) _⟩
    · have ea : max xa f = f := by omega
      have eb : min (xa + xn) t = xa + xn := by omega
      rw [ea, eb]
      clear ea eb
      go_enter Try.func61, Try.ntmps61
      go_wp2_with fail
      rw [← hW]
      clear hW
      go_quiet (fail)
      clear q1
      have bq : Below w.heap.size w (W.drewN nq) := ⟨bW.os, bW.tape, bW.output, bW.size, bW.block⟩
      go_wp2_with fail
      refine bodyPost_ret (v := .tuple #[.agg #[.int .i64 (f), .int .i64 (xa + xn - f), .int .i64 (xs + f - xa)], .bool (decide (f < xa + xn))]) (by simp [results, Try.results61, go_sem, m0, m1, m2]) rfl ?_
      exact ⟨rfl, ((bq.setCell (by dsimp only; omega) _).setCell (by dsimp only; omega) _).setCell (by dsimp only; omega) _⟩
  · rcases Int.lt_or_le t (xa + xn) with hb | hb
    · have ea : max xa f = xa := by omega
      have eb : min (xa + xn) t = t := by omega
      rw [ea, eb]
      clear ea eb
      go_enter Try.func61, Try.ntmps61
      go_wp2_with fail
      rw [← hW]
      clear hW
      go_quiet (fail)
      clear q1
      have bq : Below w.heap.size w (W.drewN nq) := ⟨bW.os, bW.tape, bW.output, bW.size, bW.block⟩
      go_wp2_with fail
      refine bodyPost_ret (v := .tuple #[.agg #[.int .i64 (xa), .int .i64 (t - xa), .int .i64 (xs + xa - xa)], .bool (decide (xa < t))]) (by simp [results, Try.results61, go_sem, m0, m1, m2]) rfl ?_
      exact ⟨rfl, ((bq.setCell (by dsimp only; omega) _).setCell (by dsimp only; omega) _).setCell (by dsimp only; omega) _⟩
    · have ea : max xa f = xa := by omega
      have eb : min (xa + xn) t = xa + xn := by omega
      rw [ea, eb]
      clear ea eb
      go_enter Try.func61, Try.ntmps61
      go_wp2_with fail
      rw [← hW]
      clear hW
      go_quiet (fail)
      clear q1
      have bq : Below w.heap.size w (W.drewN nq) := ⟨bW.os, bW.tape, bW.output, bW.size, bW.block⟩
      go_wp2_with fail
      refine bodyPost_ret (v := .tuple #[.agg #[.int .i64 (xa), .int .i64 (xa + xn - xa), .int .i64 (xs + xa - xa)], .bool (decide (xa < xa + xn))]) (by simp [results, Try.results61, go_sem, m0, m1, m2]) rfl ?_
      exact ⟨rfl, ((bq.setCell (by dsimp only; omega) _).setCell (by dsimp only; omega) _).setCell (by dsimp only; omega) _⟩
end Go.Proofs.Ytdfdnimledcfbaa
