/- ExtreeFind returns true for every input. Conditions: none. -/
import Derived.Test.YtdfdnimledcfbaaFind
namespace Go.Proofs.Ytdfdnimledcfbaa
open Go.RowKit
open Go.Deep (BT)

/-- The part of a list in a range; nothing where the range is not a range. -/
def rg (L : List X) (t n : Int) : List X := if wth t n 65536 = true then mid L t n else []
/-- A slice of a list is returned. -/
def RetW (w : World) (M : List X) (e : Ending) (w' : World) : Prop := ∃ va vl vc, e = .returned (.slice va vl vc) ∧ Sl w' (.slice va vl vc) M ∧ Below w.heap.size w w'

theorem rg_len {L : List X} (hv : vld L) (hn : nf L) (t n : Int) : (rg L t n).length ≤ 1000000 := by
  unfold rg
  split
  · have := (mid_vn (t := t) (n := n) hv hn).1.bounds.1; omega
  · simp

set_option maxHeartbeats 2000000 in
set_option maxRecDepth 100000 in
theorem treerange_any (p : Option Addr) (T : BT X) (t n : Int) (w : World) (hT : At w p T) (av : avl T) (hv : vld (li T)) (hn : nf (li T)) : Calls Try.prog 29 #[.agg #[.pointer p], .int .i64 t, .int .i64 n] w (RetW w (rg (li T) t n)) := by
  obtain ⟨W, hW, bW⟩ : ∃ W, W = w.alloc (.cells #[.pointer p] 26) ∧ Below w.heap.size w W := ⟨_, rfl, (Below.refl _ w).alloc (Nat.le_refl _) _⟩
  cases hw : wth t n 65536 with
  | true =>
    have CU := Lib.hid (cut_any p T t n W (hT.below bW) av hv hn hw)
    have RG : Hid (rg (li T) t n = mid (li T) t n) := Lib.hid (by simp [rg, hw])
    unfold tv at CU
    clear hT av hv hn hw
    go_enter Try.func29, Try.ntmps29
    go_wp2_with fail
    rw [← hW]
    refine CU.out.mono ?_
    rintro e w1 ⟨q, T', vv, rfl, hT', av', hl', hr', hb1⟩
    have H := Lib.hid hr'.sl
    obtain ⟨va, vc, rfl⟩ := sl_shape hr'.sl
    clear hT' av' hl' hr'
    go_wp2_with fail
    go_ret
    have b2 := (Below.refl _ w1).alloc (Nat.le_refl _) (.cells #[.pointer q] 26)
    have b1 := bW.trans (hb1.mono bW.size)
    exact ⟨va, _, vc, rfl, by rw [RG.out]; exact H.out.below b2, b1.trans (b2.mono b1.size)⟩
  | false =>
    have CU := Lib.hid (cut_bad p t n W hw)
    have RG : Hid (rg (li T) t n = []) := Lib.hid (by simp [rg, hw])
    unfold tv at CU
    clear hT av hv hn hw
    go_enter Try.func29, Try.ntmps29
    go_wp2_with fail
    rw [← hW]
    refine CU.out.mono ?_
    rintro e w1 ⟨rfl, hb1⟩
    go_wp2_with fail
    go_ret
    have b2 := (Below.refl _ w1).alloc (Nat.le_refl _) (.cells #[.pointer none] 26)
    have b1 := bW.trans (hb1.mono bW.size)
    exact ⟨none, 0, 0, rfl, by rw [RG.out]; exact .inl ⟨⟨_, _, rfl⟩, rfl⟩, b1.trans (b2.mono b1.size)⟩

set_option maxHeartbeats 2000000 in
set_option maxRecDepth 100000 in
theorem refrange_any (v : Value) (L : List X) (t n : Int) (w : World) (hs : Sl w v L) (hv : vld L) (hn : nf L) : Calls Try.prog 30 #[v, .int .i64 t, .int .i64 n] w (RetW w (rg L t n)) := by
  cases hw : wth t n 65536 with
  | true =>
    have CU := Lib.hid (refcut_any v L t n w hs hv hn hw)
    have RG : Hid (rg L t n = mid L t n) := Lib.hid (by simp [rg, hw])
    obtain ⟨ao, cap, rfl⟩ := sl_shape hs
    clear hs hv hn hw
    go_enter Try.func30, Try.ntmps30
    go_wp2_with fail
    refine CU.out.mono ?_
    rintro e w1 ⟨v1, v2, rfl, h1, h2, hb1⟩
    have H := Lib.hid h2
    obtain ⟨va, vc, rfl⟩ := sl_shape h2
    clear h1 h2
    go_wp2_with fail
    go_ret
    exact ⟨va, _, vc, rfl, by rw [RG.out]; exact H.out, hb1⟩
  | false =>
    have CU := Lib.hid (refcut_bad v L t n w hs hv hw)
    have RG : Hid (rg L t n = []) := Lib.hid (by simp [rg, hw])
    obtain ⟨ao, cap, rfl⟩ := sl_shape hs
    clear hs hv hn hw
    go_enter Try.func30, Try.ntmps30
    go_wp2_with fail
    refine CU.out.mono ?_
    rintro e w1 ⟨rfl, hb1⟩
    go_wp2_with fail
    go_ret
    exact ⟨none, 0, 0, rfl, by rw [RG.out]; exact .inl ⟨⟨_, _, rfl⟩, rfl⟩, hb1⟩

set_option maxHeartbeats 2000000 in
set_option maxRecDepth 100000 in
theorem find_walk (v : Value) (S : List St) (t n : Int) (w : World) (hS : SS w v S) (hm : S.length ≤ 9223372036854775807) : Calls Try.prog 9 #[v, .int .i64 t, .int .i64 n] w fun e w' => e = .returned (.bool true) ∧ Below w.heap.size w w' := by
  have HS := Lib.hid hS
  obtain ⟨ao, cap, rfl⟩ := hS.shape
  clear hS
  by_cases hlen : 40 < S.length
  · go_enter Try.func9, Try.ntmps9
    go_wp2_with fail
    refine (awake_any _).mono ?_
    rintro e w1 ⟨rfl, hb1⟩
    go_wp2_with fail
    go_ret
    exact ⟨rfl, hb1⟩
  · go_enter Try.func9, Try.ntmps9
    go_wp2_with fail
    refine (awake_any _).mono ?_
    rintro e w1 ⟨rfl, hb1⟩
    have LB := Lib.hid (lawbuild_any _ S w1 (HS.out.below hb1) (by omega))
    go_wp2_with fail
    refine LB.out.mono ?_
    rintro e w2 ⟨q, T, u, rfl, hT, av, hv, hn, hu, hl, hb2⟩
    have HX := Lib.hid (And.intro hT (And.intro av (And.intro hv (And.intro hn hu))))
    obtain ⟨ua, uc, rfl⟩ := sl_shape hu
    have c2 := hb1.trans (hb2.mono hb1.size)
    clear hT av hv hn hu hl LB
    obtain ⟨W3, hW3, b23, k3⟩ : ∃ W3, W3 = w2.alloc (.cells #[.pointer q] 26) ∧ Below w2.heap.size w2 W3 ∧ Blk W3 w2.heap.size #[.pointer q] 26 := ⟨_, rfl, (Below.refl _ w2).alloc (Nat.le_refl _) _, Blk.new _ _ _⟩
    go_wp2_with fail
    rw [← hW3]
    clear hW3
    refine (treefind_any q T t W3 (HX.out.1.below b23) HX.out.2.2.1).mono ?_
    rintro e w4 ⟨rfl, hb4⟩
    go_wp2_with fail
    have b24 : Below w2.heap.size w2 w4 := b23.trans (hb4.mono b23.size)
    refine (reffind_any _ _ t w4 (HX.out.2.2.2.2.below b24) HX.out.2.2.1).mono ?_
    rintro e w5 ⟨rfl, hb5⟩
    have b25 : Below w2.heap.size w2 w5 := b24.trans (hb5.mono b24.size)
    have m5 : w5.cell? ⟨w2.heap.size, 0, none⟩ = some (.pointer q) := ((k3.keep hb4).keep hb5).cell 0
    generalize (fd t (li T)) = r
    obtain ⟨ri, rb⟩ := r
    go_wp2_with fail
    refine (treerange_any q T t n w5 (HX.out.1.below b25) HX.out.2.1 HX.out.2.2.1 HX.out.2.2.2.1).mono ?_
    rintro e w6 ⟨a6, l6, c6, rfl, h6, hb6⟩
    have b26 : Below w2.heap.size w2 w6 := b25.trans (hb6.mono b25.size)
    clear m5
    have H6 := Lib.hid h6; clear h6
    go_wp2_with fail
    refine (refrange_any _ _ t n w6 (HX.out.2.2.2.2.below b26) HX.out.2.2.1 HX.out.2.2.2.1).mono ?_
    rintro e w7 ⟨a7, l7, c7, rfl, h7, hb7⟩
    have H7 := Lib.hid h7; clear h7
    go_wp2_with fail
    refine (same_any _ _ _ w7 (H6.out.below hb7) H7.out (rg_len HX.out.2.2.1 HX.out.2.2.2.1 t n)).mono ?_
    rintro e w8 ⟨rfl, hb8⟩
    go_wp2_with fail
    go_ret
    have b27 := b26.trans (hb7.mono b26.size)
    have b28 := b27.trans (hb8.mono b27.size)
    exact ⟨rfl, c2.trans (b28.mono c2.size)⟩

end Go.Proofs.Ytdfdnimledcfbaa
