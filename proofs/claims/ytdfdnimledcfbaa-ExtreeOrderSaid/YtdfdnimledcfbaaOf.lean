/- The package's own Join, and a tree out of a list. Conditions: the list has at most 1000000 extents. -/
import Derived.Test.YtdfdnimledcfbaaPush
namespace Go.Proofs.Ytdfdnimledcfbaa
open Go.RowKit
open Go.Deep (BT)

set_option maxHeartbeats 1000000 in
theorem extjoin_bad (v : Value) (L : List X) (w : World) (hs : Sl w v L) (hm : L.length ≤ 1000000) (hv : ¬ vld L) : Calls Try.prog 50 #[v] w fun e w' => e = .returned (.tuple #[.slice none 0 0, .int .i64 1]) ∧ Below w.heap.size w w' := by
  have RV := Lib.hid (extvalid_any v L w hs hm)
  obtain ⟨ao, cap, rfl⟩ := sl_shape hs
  clear hs
  go_enter Try.func50, Try.ntmps50
  go_wp2_with fail
  refine RV.out.mono ?_
  rintro e w1 ⟨b, rfl, hb, hb1⟩
  obtain rfl : b = false := by
    cases b with
    | false => rfl
    | true => exact absurd (hb.1 rfl) hv
  clear hb
  go_wp2_with fail
  go_ret2
  exact ⟨rfl, hb1⟩

set_option maxHeartbeats 2000000 in
set_option maxRecDepth 100000 in
theorem extjoin_any (v : Value) (L : List X) (w : World) (hs : Sl w v L) (hv : vld L) : Calls Try.prog 50 #[v] w (RetQ w (jn L)) := by
  have hm : L.length ≤ 65536 := hv.bounds.1
  have RV := Lib.hid (extvalid_any v L w hs (by omega))
  have HV := Lib.hid hv
  have HS := Lib.hid hs
  obtain ⟨ao, cap, rfl⟩ := sl_shape hs
  clear hs hv
  go_enter Try.func50, Try.ntmps50
  go_wp2_with fail
  refine RV.out.mono ?_
  rintro e w1 ⟨b, rfl, hb, hb1⟩
  obtain rfl : b = true := hb.2 HV.out
  clear hb
  go_wp2_with fail
  go_loopw [4, 12] (fun out i wr => ∃ (k : Nat) (u : Value), k ≤ L.length ∧ i = .int .i64 k ∧ out = u ∧ Row wr w.heap.size u (jo L k) ∧ Below w.heap.size w wr) (fun _ i _ => L.length - (intOf i).toNat)
  case atStart => exact ⟨0, _, Nat.zero_le _, rfl, rfl, Row.nil _ _, hb1⟩
  case round =>
    obtain ⟨k, u, hk, rfl, hu0, hr, hbel⟩ := hrel
    have hu0' := hu0.symm
    subst hu0'
    clear hu0
    have HR := Lib.hid hr
    obtain ⟨ua, uc, rfl⟩ := sl_shape hr.sl
    clear hr
    by_cases hlt : k < L.length
    · obtain ⟨b1, o1, x, rfl, hx, e0, e1, e2⟩ := (HS.out.below hbel).at hlt
      have hox : okx x := HV.out.1 x (List.mem_of_getElem? hx)
      have HX := Lib.hid (And.intro (jo_next hx) (jo_vn HV.out k))
      have AL := Lib.hid ((Below.refl _ wr).alloc (Nat.le_refl _) (.cells #[.int .i64 x.a, .int .i64 x.n, .int .i64 x.s] 31))
      have PU := Lib.hid (push_one w.heap.size _ _ x _ (HR.out.keep AL.out) (by have := hbel.size; simp; omega) hox HX.out.2.1.1 HX.out.2.1.bounds.1)
      have BA := Lib.hid (hbel.trans (AL.out.mono hbel.size))
      clear hx hox
      obtain ⟨xa, xn, xs⟩ := x
      dsimp only at e0 e1 e2 PU
      have hk1 : (0 : Int) ≤ (k : Int) := by omega
      have hk2 : (k : Int) < (L.length : Int) := by omega
      go_wp2_with fail
      refine PU.out.mono ?_
      rintro e w3 ⟨v', rfl, hr', hb3⟩
      have HW := Lib.hid (And.intro hr' (BA.out.trans hb3)); clear hr' hb3
      go_wp2_with fail
      go_roundw
      case rel => exact ⟨k + 1, _, by omega, by go_num, rfl, by rw [HX.out.1]; exact HW.out.1, HW.out.2⟩
      case measure => simp [intOf]; omega
    · go_wp2_with fail
      go_ret2
      have hr := HR.out
      rw [jo_full (by omega)] at hr
      exact ⟨_, rfl, by rw [jo_full (by omega)]; exact hr, hbel⟩

theorem take_one {L : List X} {k : Nat} {x : X} (h : L[k]? = some x) : L.take (k + 1) = L.take k ++ [x] := by
  rw [List.take_add_one, h]; rfl

set_option maxHeartbeats 1000000 in
theorem of_bad (v : Value) (L : List X) (w : World) (hs : Sl w v L) (hm : L.length ≤ 1000000) (hv : ¬ vld L) : Calls Try.prog 31 #[v] w fun e w' => e = .returned (.tuple #[.agg #[.pointer none], .int .i64 1]) ∧ Below w.heap.size w w' := by
  obtain ⟨W, hW, bW, k0⟩ : ∃ W, W = w.alloc (.cells #[.pointer none] 26) ∧ Below w.heap.size w W ∧ Blk W w.heap.size #[.pointer none] 26 := ⟨_, rfl, (Below.refl _ w).alloc (Nat.le_refl _) _, Blk.new _ _ _⟩
  have JB := Lib.hid (extjoin_bad v L W (hs.below bW) hm hv)
  obtain ⟨ao, cap, rfl⟩ := sl_shape hs
  clear hs hv
  go_enter Try.func31, Try.ntmps31
  go_wp2_with fail
  rw [← hW]
  clear hW
  refine JB.out.mono ?_
  rintro e w1 ⟨rfl, hb1⟩
  have k1 := k0.keep hb1
  have m0 := k1.cell 0
  have f0 := k1.frozen 0
  rw [c1] at m0
  go_wp2_with fail
  have k2 := k1.set 0 (.pointer none)
  have r2 := k2.cell 0
  rw [show (#[Value.pointer none].setIfInBounds 0 (Value.pointer none))[0]? = some (Value.pointer none) from rfl] at r2
  refine bodyPost_ret (v := .tuple #[.agg #[.pointer none], .int .i64 1]) (by simp [results, Try.results31, go_sem, r2]) rfl ?_
  exact ⟨rfl, (bW.trans (hb1.mono bW.size)).setCell (p := ⟨w.heap.size, 0, none⟩) (Nat.le_refl _) _⟩

set_option maxHeartbeats 2000000 in
set_option maxRecDepth 100000 in
theorem of_any (v : Value) (L : List X) (w : World) (hs : Sl w v L) (hv : vld L) : Calls Try.prog 31 #[v] w fun e w' => ∃ q T, e = .returned (.tuple #[.agg #[.pointer q], .int .i64 0]) ∧ At w' q T ∧ avl T ∧ li T = jn L ∧ Below w.heap.size w w' := by
  obtain ⟨W, hW, bW, k0⟩ : ∃ W, W = w.alloc (.cells #[.pointer none] 26) ∧ Below w.heap.size w W ∧ Blk W w.heap.size #[.pointer none] 26 := ⟨_, rfl, (Below.refl _ w).alloc (Nat.le_refl _) _, Blk.new _ _ _⟩
  have JB := Lib.hid (extjoin_any v L W (hs.below bW) hv)
  have JV := Lib.hid (jn_vn hv)
  obtain ⟨ao, cap, rfl⟩ := sl_shape hs
  clear hs hv
  go_enter Try.func31, Try.ntmps31
  go_wp2_with fail
  rw [← hW]
  clear hW
  refine JB.out.mono ?_
  rintro e w1 ⟨v1, rfl, hr1, hb1⟩
  have k1 := k0.keep hb1
  have S1 := Lib.hid hr1.sl
  obtain ⟨a1, c1', rfl⟩ := sl_shape hr1.sl
  have b1 : Below w.heap.size w w1 := bW.trans (hb1.mono bW.size)
  have hj := JV.out.1.bounds.1
  clear hr1 JB k0
  generalize hM : jn L = M at *
  have HM := Lib.hid hM; clear hM
  have hsz := b1.size
  have hk1 := k1.lt
  have AL := Lib.hid ((Below.refl _ w1).alloc (Nat.le_refl _) (.cells #[.pointer none] 26))
  have K1 := Lib.hid k1; clear k1
  go_wp2_with fail
  go_loopw [19] (fun i wr => ∃ (k : Nat) (p : Option Addr) (T : BT X), k ≤ M.length ∧ i = .int .i64 k ∧ Blk wr w1.heap.size #[.pointer p] 26 ∧ At wr p T ∧ avl T ∧ li T = M.take k ∧ Sl wr (.slice a1 M.length c1') M ∧ Blk wr w.heap.size #[.pointer none] 26 ∧ Below w.heap.size w wr) (fun i _ => M.length - (intOf i).toNat)
  case atStart => exact ⟨0, none, .nil, Nat.zero_le _, rfl, Blk.new _ _ _, rfl, trivial, rfl, S1.out.below AL.out, K1.out.keep AL.out, b1.trans (AL.out.mono hsz)⟩
  case round =>
    obtain ⟨k, p, T, hk, rfl, kb, hT, av, hl, hs, kr, hB⟩ := hrel
    by_cases hlt : k < M.length
    · obtain ⟨b2, o2, x, rfl, hx, e0, e1, e2⟩ := hs.at hlt
      have AX := Lib.hid ((Below.refl _ wr).alloc (Nat.le_refl _) (.cells #[.int .i64 x.a, .int .i64 x.n, .int .i64 x.s] 31))
      have hl2 : li T ++ x :: li .nil = M.take (k + 1) := by rw [hl, take_one hx]; rfl
      have sm : sml (li T ++ x :: li .nil) := by rw [hl2]; exact (vld_prefix (k := k + 1) JV.out.1).sml
      have JN := Lib.hid (join_any p none x T .nil _ (hT.below AX.out) rfl sm av trivial)
      have HX := Lib.hid (And.intro hl2 (And.intro (hs.below AX.out) (And.intro (kr.keep AX.out) (And.intro (hB.trans (AX.out.mono hB.size)) (kb.keep AX.out)))))
      have n0 := kb.cell 0
      rw [c1] at n0
      have hkb := kb.lt
      clear hx hT av hl hl2 sm hs kr kb
      obtain ⟨xa, xn, xs⟩ := x
      unfold ag at JN
      dsimp only at e0 e1 e2 JN
      have i1 : (0 : Int) ≤ (k : Int) := by omega
      have i2 : (k : Int) < (M.length : Int) := by omega
      go_wp2_with fail
      refine JN.out.mono ?_
      rintro e w3 ⟨q, T', rfl, hT', av', hl', hb3⟩
      have HT' := Lib.hid (And.intro hT' (And.intro av' hl')); clear hT' av' hl'
      have k3 := HX.out.2.2.2.2.keep hb3
      have m3 := k3.cell 0
      have f3 := k3.frozen 0
      rw [c1] at m3
      clear n0 e0 e1 e2
      go_wp2_with fail
      have b03 := HX.out.2.2.2.1.trans (hb3.mono HX.out.2.2.2.1.size)
      have kr3 := HX.out.2.2.1.keep hb3
      go_roundw
      case rel => exact ⟨k + 1, q, T', by omega, by go_num, k3.set 0 _, IsT.turn (N := w1.heap.size) (W := w3) (n := w3.heap.size) (k3.cell 3) (fun k hk => by rw [Below.heap_setCell _ _ _ _ hk]) (by simp) HT'.out.1, HT'.out.2.1, by rw [HT'.out.2.2]; exact HX.out.1, (HX.out.2.1.below hb3).turn k3, kr3.other (b' := w1.heap.size) (by omega) 0 _, b03.setCell (p := ⟨w1.heap.size, 0, none⟩) hsz _⟩
      case measure => simp [intOf]; omega
    · have hkl : k = M.length := by omega
      subst hkl
      have m0 := kb.cell 0
      have r0 := kr.cell 0
      have f0 := kr.frozen 0
      rw [c1] at m0 r0
      have HX := Lib.hid (And.intro hT (And.intro av (And.intro hl (And.intro kr hB)))); clear hT av hl kr hs kb
      go_wp2_with fail
      obtain ⟨hT, av, hl, kr, hB⟩ := HX.out
      have k2 := kr.set 0 (.pointer p)
      have r2 := k2.cell 0
      rw [show (#[Value.pointer none].setIfInBounds 0 (Value.pointer p))[0]? = some (Value.pointer p) from rfl] at r2
      refine bodyPost_ret (v := .tuple #[.agg #[.pointer p], .int .i64 0]) (by simp [results, Try.results31, go_sem, r2]) rfl ?_
      exact ⟨p, T, rfl, IsT.turn (N := w.heap.size) (W := wr) (n := wr.heap.size) (kr.cell 3) (fun k hk => by rw [Below.heap_setCell _ _ _ _ hk]) (by simp) hT, av, by rw [HM.out]; simpa using hl, hB.setCell (p := ⟨w.heap.size, 0, none⟩) (Nat.le_refl _) _⟩

end Go.Proofs.Ytdfdnimledcfbaa
