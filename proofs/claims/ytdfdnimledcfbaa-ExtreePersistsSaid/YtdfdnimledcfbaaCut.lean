/- What Cut, New, Len, Blocks, Depth and balanced return. Conditions: the tree's list is valid and in normal form. -/
import Derived.Test.YtdfdnimledcfbaaPut2
namespace Go.Proofs.Ytdfdnimledcfbaa
open Go.RowKit
open Go.Deep (BT)

set_option maxHeartbeats 1000000 in
theorem proper33_any (t n : Int) (w : World) : Calls Try.prog 33 #[.int .i64 t, .int .i64 n] w fun e w' => e = .returned (.bool (wth t n 65536)) ∧ w = w' := by
  by_cases h1 : 0 ≤ t
  · by_cases h2 : 0 ≤ n
    · by_cases h3 : t ≤ 65536
      · by_cases h4 : n ≤ 65536 - t
        · have HF : Hid (true = wth t n 65536) := by show true = wth t n 65536; simp [wth, h1, h2, h3, h4]
          go_enter Try.func33, Try.ntmps33
          go_wp2
          go_ret
          exact ⟨ret_bool HF.out, rfl⟩
        · have HF : Hid (false = wth t n 65536) := by show false = wth t n 65536; simp [wth, h4]
          go_enter Try.func33, Try.ntmps33
          go_wp2
          go_ret
          exact ⟨ret_bool HF.out, rfl⟩
      · have HF : Hid (false = wth t n 65536) := by show false = wth t n 65536; simp [wth, h3]
        go_enter Try.func33, Try.ntmps33
        go_wp2
        go_ret
        exact ⟨ret_bool HF.out, rfl⟩
    · have HF : Hid (false = wth t n 65536) := by show false = wth t n 65536; simp [wth, h2]
      go_enter Try.func33, Try.ntmps33
      go_wp2
      go_ret
      exact ⟨ret_bool HF.out, rfl⟩
  · have HF : Hid (false = wth t n 65536) := by show false = wth t n 65536; simp [wth, h1]
    go_enter Try.func33, Try.ntmps33
    go_wp2
    go_ret
    exact ⟨ret_bool HF.out, rfl⟩

/-- The world in which Cut begins. -/
theorem cut_world (w : World) (p : Option Addr) : ∃ W, W = ((w.alloc (.cells #[.pointer p] 26)).alloc (.cells #[.pointer none] 26)) ∧
    Below w.heap.size w W ∧ Blk W w.heap.size #[.pointer p] 26 ∧ Blk W (w.heap.size + 1) #[.pointer none] 26 := by
  refine ⟨_, rfl, ((Below.refl _ w).alloc (Nat.le_refl _) _).alloc (by simp) _, (Blk.new w _ _).alloc _, ?_⟩
  have := Blk.new (w.alloc (.cells #[.pointer p] 26)) #[.pointer none] 26
  rw [World.size_alloc] at this
  exact this

set_option maxHeartbeats 1000000 in
set_option maxRecDepth 100000 in
theorem cut_bad (p : Option Addr) (t n : Int) (w : World) (h : wth t n 65536 = false) : Calls Try.prog 13 #[tv p, .int .i64 t, .int .i64 n] w (RetE w) := by
  have H := Lib.hid h; clear h
  obtain ⟨W, hW, bW, k0, k1⟩ := cut_world w p
  unfold tv
  go_enter Try.func13, Try.ntmps13
  go_wp2_with fail
  rw [← hW]
  clear hW
  refine (proper33_any t n _).mono ?_
  rintro e w1 ⟨rfl, rfl⟩
  rw [H.out]
  have n0 := k1.cell 0
  have f0 := k1.frozen 0
  rw [c1] at n0
  go_wp2_with fail
  refine bodyPost_ret (v := .tuple #[.agg #[.pointer none], .slice none 0 0, .int .i64 1]) (by simp [results, Try.results13, go_sem, n0]) rfl ?_
  exact ⟨rfl, bW.setCell (by dsimp only; omega) _⟩

theorem mid_zero {l : List X} {t : Int} (h : vld l) : mid l t 0 = [] := by
  unfold mid
  rw [Int.add_zero]
  exact (hdL_behind (fun x hx => by obtain ⟨z, hz, g⟩ := tlL_mem hx h; omega)).1

set_option maxHeartbeats 1000000 in
set_option maxRecDepth 100000 in
theorem cut_zero (p : Option Addr) (T : BT X) (t : Int) (w : World) (hT : At w p T) (av : avl T) (hv : vld (li T)) (hn : nf (li T)) (h : wth t 0 65536 = true) :
    Calls Try.prog 13 #[tv p, .int .i64 t, .int .i64 0] w (RetP w (cut (li T) t 0) (mid (li T) t 0)) := by
  have H := Lib.hid h; clear h
  have HT := Lib.hid (And.intro hT (And.intro av (And.intro (cut_none (t := t) hv hn) (mid_zero (t := t) hv)))); clear hT av hv hn
  obtain ⟨W, hW, bW, k0, k1⟩ := cut_world w p
  unfold tv
  go_enter Try.func13, Try.ntmps13
  go_wp2_with fail
  rw [← hW]
  clear hW
  refine (proper33_any t 0 _).mono ?_
  rintro e w1 ⟨rfl, rfl⟩
  rw [H.out]
  have m0 := k0.cell 0
  have n0 := k1.cell 0
  have f0 := k1.frozen 0
  rw [c1] at n0 m0
  go_wp2_with fail
  refine bodyPost_ret (v := .tuple #[.agg #[.pointer p], .slice none 0 0, .int .i64 0]) (by simp [results, Try.results13, go_sem, n0]) rfl ?_
  refine ⟨p, T, _, rfl, ?_, HT.out.2.1, HT.out.2.2.1.symm, ?_, bW.setCell (by dsimp only; omega) _⟩
  · exact IsT.turn (N := w.heap.size + 1) (W := W) (n := W.heap.size) (k1.cell 3) (fun k hk => by rw [Below.heap_setCell _ _ _ _ hk]) (by simp) (HT.out.1.below bW)
  · rw [HT.out.2.2.2]; exact Row.nil _ _

set_option maxHeartbeats 2000000 in
set_option maxRecDepth 100000 in
theorem cut_pos (p : Option Addr) (T : BT X) (t n : Int) (w : World) (hT : At w p T) (av : avl T) (hv : vld (li T)) (hn : nf (li T)) (h : wth t n 65536 = true) (hpos : 0 < n) :
    Calls Try.prog 13 #[tv p, .int .i64 t, .int .i64 n] w (RetP w (cut (li T) t n) (mid (li T) t n)) := by
  have hb : 0 ≤ t ∧ 0 ≤ n ∧ t ≤ 65536 ∧ n ≤ 65536 - t := by simpa [wth] using h
  obtain ⟨b1, b2, b3, b4⟩ := hb
  have H := Lib.hid h; clear h
  have HT := Lib.hid (And.intro hT (And.intro av (And.intro hv hn))); clear hT av hv hn
  have hz : (n == 0) = false := by simp; omega
  obtain ⟨W, hW, bW, k0, k1⟩ := cut_world w p
  unfold tv
  go_enter Try.func13, Try.ntmps13
  go_wp2_with fail
  rw [← hW]
  clear hW
  refine (proper33_any t n _).mono ?_
  rintro e w1 ⟨rfl, rfl⟩
  rw [H.out]
  have m0 := k0.cell 0
  rw [c1] at m0
  go_wp2_with fail
  refine (split_any T p t _ (HT.out.1.below bW) HT.out.2.2.1 HT.out.2.1).mono ?_
  rintro e w2 ⟨pa, pr, TA, TR, rfl, ha, hr, va, vr, la, lr, hb2⟩
  have q1 := k1.keep hb2
  have HA := Lib.hid (And.intro ha (And.intro va la)); clear ha va la
  have HR := Lib.hid (split_any TR pr (t + n) _ hr (by rw [lr]; exact vld_tlL HT.out.2.2.1) vr)
  have LR := Lib.hid lr; clear lr hr vr m0 k0 k1
  go_wp2_with fail
  refine HR.out.mono ?_
  rintro e w3 ⟨pm, pb, TM, TB, rfl, hm, hb', vm, vb, lm, lb, hb3⟩
  have q1 := q1.keep hb3
  have LB : Hid (li TA ++ li TB = cut (li T) t n) := (show li TA ++ li TB = cut (li T) t n from by rw [HA.out.2.2, lb, LR.out, tlL_tlL (by omega), cut_far HT.out.2.2.1 HT.out.2.2.2 hpos])
  have LM : Hid (li TM = mid (li T) t n) := (show li TM = mid (li T) t n from by rw [lm, LR.out]; rfl)
  have CC := Lib.hid (concat_any pa pb TA TB w3 (HA.out.1.below hb3) hb' (by rw [LB.out]; exact (cut_vn HT.out.2.2.1 b2).1.sml) HA.out.2.1 vb)
  have HM := Lib.hid (And.intro hm (show (li TM).length ≤ 1000000 by rw [LM.out]; have := (mid_vn (t := t) (n := n) HT.out.2.2.1 HT.out.2.2.2).1.bounds; omega))
  clear hm hb' vm vb lm lb
  go_wp2_with fail
  refine CC.out.mono ?_
  rintro e w4 ⟨pj, TJ, rfl, hj, vj, lj, hb4⟩
  have HJ := Lib.hid (And.intro hj (And.intro vj lj)); clear hj vj lj
  have q1 := q1.keep hb4
  go_wp2_with fail
  refine (list_any pm TM w4 (HM.out.1.below hb4) HM.out.2).mono ?_
  rintro e w5 ⟨v, rfl, hrow, hb5⟩
  have q2 := q1.keep hb5
  have n0 := q2.cell 0
  have f0 := q2.frozen 0
  rw [c1] at n0
  have RW := Lib.hid hrow; clear hrow
  go_wp2_with fail
  have c2 := bW.trans (hb2.mono bW.size)
  have c3 := c2.trans (hb3.mono c2.size)
  have c4 := c3.trans (hb4.mono c3.size)
  have c5 := c4.trans (hb5.mono c4.size)
  refine bodyPost_ret (v := .tuple #[.agg #[.pointer pj], v, .int .i64 0]) (by simp [results, Try.results13, go_sem, n0]) rfl ?_
  refine ⟨pj, TJ, v, rfl, ?_, HJ.out.2.1, ?_, ?_, c5.setCell (by dsimp only; omega) _⟩
  · exact IsT.turn (N := w.heap.size + 1) (W := w5) (n := w5.heap.size) (q2.cell 3) (fun k hk => by rw [Below.heap_setCell _ _ _ _ hk]) (by simp) (HJ.out.1.below hb5)
  · rw [HJ.out.2.2, LB.out]
  · have h1 := RW.out
    rw [LM.out] at h1
    exact (Row.mono (ownsRow_setCell_below (a := ⟨w.heap.size + 1, 0, none⟩) h1 q1.lt _) c4.size)

theorem cut_any (p : Option Addr) (T : BT X) (t n : Int) (w : World) (hT : At w p T) (av : avl T) (hv : vld (li T)) (hn : nf (li T)) (h : wth t n 65536 = true) :
    Calls Try.prog 13 #[tv p, .int .i64 t, .int .i64 n] w (RetP w (cut (li T) t n) (mid (li T) t n)) := by
  have hb : 0 ≤ t ∧ 0 ≤ n ∧ t ≤ 65536 ∧ n ≤ 65536 - t := by simpa [wth] using h
  by_cases hz : n = 0
  · subst hz; exact cut_zero p T t w hT av hv hn h
  · exact cut_pos p T t n w hT av hv hn h (by omega)

set_option maxHeartbeats 1000000 in
theorem new_any (w : World) : Calls Try.prog 12 #[] w fun e w' => e = .returned (.agg #[.pointer none]) ∧ Below w.heap.size w w' := by
  have BB := Lib.hid (fun o => ((Below.refl _ w).alloc (Nat.le_refl _) o : Below w.heap.size w (w.alloc o)))
  go_enter Try.func12, Try.ntmps12
  go_wp2
  refine bodyPost_ret (v := .agg #[.pointer none]) (by simp [results, Try.results12, go_sem]) rfl ?_
  exact ⟨rfl, BB.out _⟩

set_option maxHeartbeats 1000000 in
theorem len_any (p : Option Addr) (T : BT X) (w : World) (hT : At w p T) : Calls Try.prog 16 #[.agg #[.pointer p]] w fun e w' => e = .returned (.int .i64 ((li T).length : Int)) ∧ Below w.heap.size w w' := by
  have BB := Lib.hid (fun o => ((Below.refl _ w).alloc (Nat.le_refl _) o : Below w.heap.size w (w.alloc o)))
  have HT := Lib.hid hT; clear hT
  go_enter Try.func16, Try.ntmps16
  go_wp2_with fail
  refine (size_any p T _ _ (HT.out.below (BB.out _))).mono ?_
  rintro e w1 ⟨rfl, rfl⟩
  go_wp2_with fail
  go_ret
  exact ⟨rfl, BB.out _⟩

set_option maxHeartbeats 1000000 in
theorem blocks_any (p : Option Addr) (T : BT X) (w : World) (hT : At w p T) : Calls Try.prog 17 #[.agg #[.pointer p]] w fun e w' => e = .returned (.int .i64 (su (li T))) ∧ Below w.heap.size w w' := by
  have BB := Lib.hid (fun o => ((Below.refl _ w).alloc (Nat.le_refl _) o : Below w.heap.size w (w.alloc o)))
  have HT := Lib.hid hT; clear hT
  go_enter Try.func17, Try.ntmps17
  go_wp2_with fail
  refine (mapped_any p T _ _ (HT.out.below (BB.out _))).mono ?_
  rintro e w1 ⟨rfl, rfl⟩
  go_wp2_with fail
  go_ret
  exact ⟨rfl, BB.out _⟩

set_option maxHeartbeats 1000000 in
theorem depth_any (p : Option Addr) (T : BT X) (w : World) (hT : At w p T) : Calls Try.prog 32 #[.agg #[.pointer p]] w fun e w' => e = .returned (.int .i64 (dp T : Int)) ∧ Below w.heap.size w w' := by
  have BB := Lib.hid (fun o => ((Below.refl _ w).alloc (Nat.le_refl _) o : Below w.heap.size w (w.alloc o)))
  have HT := Lib.hid hT; clear hT
  go_enter Try.func32, Try.ntmps32
  go_wp2_with fail
  refine (deep_any p T _ _ (HT.out.below (BB.out _))).mono ?_
  rintro e w1 ⟨rfl, rfl⟩
  go_wp2_with fail
  go_ret
  exact ⟨rfl, BB.out _⟩

end Go.Proofs.Ytdfdnimledcfbaa
