/- What awake returns: true. Conditions: none. -/
import Derived.Test.YtdfdnimledcfbaaBalanced
namespace Go.Proofs.Ytdfdnimledcfbaa
open Go.RowKit
open Go.Deep (BT)

theorem aw1 : put [] ⟨0, 4, 10⟩ = [⟨0, 4, 10⟩] := by rfl
theorem aw2 : put [⟨0, 4, 10⟩] ⟨4, 2, 14⟩ = [⟨0, 6, 10⟩] := by rfl
theorem aw3 : cut [⟨0, 6, 10⟩] 2 2 = [⟨0, 2, 10⟩, ⟨4, 2, 14⟩] := by rfl
theorem aw4 : mid [⟨0, 6, 10⟩] 2 2 = [⟨2, 2, 12⟩] := by rfl

theorem dp_one {T : BT X} {x : X} (h : li T = [x]) : dp T = 1 := by
  have h1 := dp_le T
  rw [h] at h1
  have h2 := dp_len T
  rw [h] at h2
  simp at h1 h2
  omega

/-- A slice of one element. -/
theorem sl_single {W : World} {v : Value} {x : X} (h : Sl W v [x]) : ∃ b o cap, v = .slice (some ⟨b, o, none⟩) 1 cap ∧ W.cell? ⟨b, o, none⟩ = some (.int .i64 x.a) ∧ W.cell? ⟨b, o + 1, none⟩ = some (.int .i64 x.n) ∧ W.cell? ⟨b, o + 2, none⟩ = some (.int .i64 x.s) := by
  rcases h with ⟨_, h⟩ | ⟨b, o, cap, h1, h2, h3, h4⟩
  · cases h
  · exact ⟨b, o, cap, h1, h4 0 x rfl⟩

set_option maxHeartbeats 1000000 in
set_option maxRecDepth 100000 in
theorem awake_any (w : World) : Calls Try.prog 11 #[] w fun e w' => e = .returned (.bool true) ∧ Below w.heap.size w w' := by
  have v1 : vld [⟨0, 4, 10⟩] := vld_one.2 (by unfold okx; decide)
  have v2 : vld [⟨0, 6, 10⟩] := vld_one.2 (by unfold okx; decide)
  have P1 := Lib.hid (fun w' => put_any none .nil ⟨0, 4, 10⟩ w' rfl trivial vld.nil List.Pairwise.nil (by unfold okx; decide))
  have P2 := Lib.hid (fun w' p T (hT : At w' p T) (ha : avl T) (hl : li T = [⟨0, 4, 10⟩]) => put_any p T ⟨4, 2, 14⟩ w' hT ha (by rw [hl]; exact v1) (by rw [hl]; exact nf_short (by simp)) (by unfold okx; decide))
  have P3 := Lib.hid (fun w' p T (hT : At w' p T) (ha : avl T) (hl : li T = [⟨0, 6, 10⟩]) => cut_any p T 2 2 w' hT ha (by rw [hl]; exact v2) (by rw [hl]; exact nf_short (by simp)) (by decide))
  unfold tv ag at P1 P2
  unfold tv at P3
  dsimp only at P1 P2 P3
  clear v1 v2
  go_enter Try.func11, Try.ntmps11
  go_wp2_with fail
  refine (new_any _).mono ?_
  rintro e w1 ⟨rfl, hb1⟩
  go_wp2_with fail
  refine (P1.out _).mono ?_
  rintro e w2 ⟨pa, TA, va, rfl, ha, aa, la, ra, hb2⟩
  rw [show li BT.nil = [] from rfl, aw1] at la
  have HA := Lib.hid (And.intro ha (And.intro aa la)); clear ha aa la ra
  go_wp2_with fail
  have al2 := Lib.hid ((Below.refl _ w2).alloc (Nat.le_refl _) (.cells #[.pointer pa] 26))
  refine (P2.out _ pa TA (HA.out.1.below al2.out) HA.out.2.1 HA.out.2.2).mono ?_
  rintro e w3 ⟨pb, TB, vb, rfl, hb, ab, lb, rb, hb3⟩
  rw [HA.out.2.2, aw2] at lb
  have HB := Lib.hid (And.intro hb (And.intro ab lb)); clear hb ab lb rb
  have al3 := Lib.hid ((Below.refl _ w3).alloc (Nat.le_refl _) (.cells #[.pointer pb] 26))
  go_wp2_with fail
  refine (P3.out _ pb TB (HB.out.1.below al3.out) HB.out.2.1 HB.out.2.2).mono ?_
  rintro e w4 ⟨pc, TC, vc, rfl, hc, ac, lc, rc, hb4⟩
  rw [HB.out.2.2, aw3] at lc
  rw [HB.out.2.2, aw4] at rc
  have kb := (Blk.new w3 #[.pointer pb] 26).keep hb4
  have al4 := Lib.hid ((Below.refl _ w4).alloc (Nat.le_refl _) (.cells #[.pointer pc] 26))
  have kb := kb.keep al4.out
  have kc := Blk.new w4 #[.pointer pc] 26
  obtain ⟨g, o, cap, rfl, i0, i1, i2⟩ := sl_single rc.sl
  have HC := Lib.hid (And.intro hc (And.intro ac lc)); clear hc ac lc rc
  have n0 := kb.cell 0
  rw [c1] at n0
  dsimp only at i0 i1 i2
  have hg := lt_of_cell i0
  go_wp2_with fail
  refine (len_any pb TB _ ((HB.out.1.below al3.out).below (hb4.trans (al4.out.mono hb4.size)))).mono ?_
  rintro e w5 ⟨rfl, hb5⟩
  rw [HB.out.2.2]
  have kb := kb.keep hb5
  have n0 := kb.cell 0
  rw [c1] at n0
  go_wp2_with fail
  refine (depth_any pb TB _ (((HB.out.1.below al3.out).below (hb4.trans (al4.out.mono hb4.size))).below hb5)).mono ?_
  rintro e w6 ⟨rfl, hb6⟩
  rw [dp_one HB.out.2.2]
  have kc := (kc.keep hb5).keep hb6
  have m0 := kc.cell 0
  rw [c1] at m0
  go_wp2_with fail
  refine (len_any pc TC _ (((HC.out.1.below al4.out).below hb5).below hb6)).mono ?_
  rintro e w7 ⟨rfl, hb7⟩
  rw [HC.out.2.2]
  have b7 := (al4.out.trans ((hb5.trans ((hb6.trans (hb7.mono hb6.size)).mono hb5.size)).mono al4.out.size))
  have j0 := (b7.cell (p := ⟨g, o, none⟩) hg).trans i0
  have j1 := (b7.cell (p := ⟨g, o + 1, none⟩) hg).trans i1
  have j2 := (b7.cell (p := ⟨g, o + 2, none⟩) hg).trans i2
  go_wp2_with fail
  go_ret
  refine ⟨rfl, ?_⟩
  have c2 := hb1.trans (hb2.mono hb1.size)
  have c3 := c2.trans (al2.out.mono c2.size)
  have c4 := c3.trans (hb3.mono c3.size)
  have c5 := c4.trans (al3.out.mono c4.size)
  have c6 := c5.trans (hb4.mono c5.size)
  exact c6.trans (b7.mono c6.size)

end Go.Proofs.Ytdfdnimledcfbaa
