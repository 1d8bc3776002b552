/- ExtreeBalanced returns true for every script and factor. Conditions: none. -/
import Derived.Test.YtdfdnimledcfbaaSteps
namespace Go.Proofs.Ytdfdnimledcfbaa
open Go.RowKit
open Go.Deep (BT)

set_option maxHeartbeats 1000000 in
set_option maxRecDepth 100000 in
theorem ballaw_walk (v : Value) (S : List St) (sp : Int) (hsp : 0 ≤ sp ∧ sp ≤ 255) (w : World) (hS : SS w v S) (hm : S.length ≤ 9223372036854775807) : Calls Try.prog 3 #[v, .int .u8 sp] w fun e w' => e = .returned (.bool true) ∧ Below w.heap.size w w' := by
  obtain ⟨hs1, hs2⟩ := hsp
  have HS := Lib.hid hS
  obtain ⟨ao, cap, rfl⟩ := hS.shape
  clear hS
  by_cases hlen : 300 < S.length
  · go_enter Try.func3, Try.ntmps3
    go_wp2_with fail
    refine (awake_any _).mono ?_
    rintro e w1 ⟨rfl, hb1⟩
    go_wp2_with fail
    go_ret
    exact ⟨rfl, hb1⟩
  · go_enter Try.func3, Try.ntmps3
    go_wp2_with fail
    refine (awake_any _).mono ?_
    rintro e w1 ⟨rfl, hb1⟩
    go_wp2_with fail
    refine (new_any _).mono ?_
    rintro e w2 ⟨rfl, hb2⟩
    go_wp2_with fail
    have al2 := Lib.hid ((Below.refl _ w2).alloc (Nat.le_refl _) (.cells #[.pointer none] 26))
    have c2 := hb1.trans (hb2.mono hb1.size)
    have c3 := Lib.hid (c2.trans (al2.out.mono c2.size))
    have hsz := c2.size
    go_loopw [6] (fun i wr => ∃ (j : Nat) (p : Option Addr) (T : BT X), j ≤ S.length ∧ i = .int .i64 j ∧ Blk wr w2.heap.size #[.pointer p] 26 ∧ At wr p T ∧ avl T ∧ vld (li T) ∧ nf (li T) ∧ Below w.heap.size w wr) (fun i _ => S.length - (intOf i).toNat)
    case atStart => exact ⟨0, none, .nil, Nat.zero_le _, rfl, Blk.new _ _ _, rfl, trivial, vld.nil, List.Pairwise.nil, c3.out⟩
    case round =>
      obtain ⟨j, p, T, hj, rfl, kb, hT, av, hv, hn, hB⟩ := hrel
      by_cases hlt : j < S.length
      · obtain ⟨b, o, cap', s, hsh, hsj, hok, hbl, e0, e1, e2, e3⟩ := (HS.out.below hB).at hlt
        obtain ⟨rfl, rfl⟩ : ao = some ⟨b, o, none⟩ ∧ cap = cap' := by simpa using hsh
        unfold St.ok at hok
        obtain ⟨o1, o2, o3, o4, o5, o6⟩ := hok
        obtain ⟨sc, sa, sn, ss⟩ := s
        dsimp only at o1 o2 o3 o4 o5 o6 e0 e1 e2 e3
        have m1 : 0 ≤ sa * (1 + sp) := Int.mul_nonneg o1 (by omega)
        have m2 : sa * (1 + sp) ≤ 255 * 256 := Int.mul_le_mul o2 (by omega) (by omega) (by omega)
        have HX := Lib.hid (And.intro hT (And.intro av (And.intro hv hn))); clear hT av hv hn hsh hsj
        have n0 := kb.cell 0
        rw [c1] at n0
        have hkb := kb.lt
        have AL := Lib.hid (((Below.refl _ wr).alloc (Nat.le_refl _) (.cells #[.bool sc, .int .u8 sa, .int .u8 sn, .int .u8 ss] 29)).alloc (by simp) (.cells #[.int .i64 (sa * (1 + sp)), .int .i64 (1 + sn % 4), .int .i64 ss] 31))
        by_cases hov : 65536 < sa * (1 + sp) + (1 + sn % 4)
        · omega
        · have kb2 := kb.keep AL.out
          cases sc with
          | true =>
            have wt : wth (sa * (1 + sp)) (1 + sn % 4) 65536 = true := by simp only [wth, decide_eq_true_eq]; omega
            have VN := Lib.hid (cut_vn (t := sa * (1 + sp)) (n := 1 + sn % 4) HX.out.2.2.1 (by omega))
            have PU := Lib.hid (cut_any p T (sa * (1 + sp)) (1 + sn % 4) _ (HX.out.1.below AL.out) HX.out.2.1 HX.out.2.2.1 HX.out.2.2.2 wt)
            unfold tv at PU
            clear wt
            go_wp2_with fail
            refine PU.out.mono ?_
            rintro e w3 ⟨q, T', vv, rfl, hT', av', hl', hr', hb3⟩
            have hlen' : (li T').length ≤ 65536 := by rw [hl']; exact VN.out.1.bounds.1
            have HT' := Lib.hid (And.intro hT' (And.intro av' (And.intro hl' hlen'))); clear hT' av' hl' hlen' hr'
            have kb := kb2.keep hb3
            have n0 := kb.cell 0
            have f0 := kb.frozen 0
            rw [c1] at n0
            go_wp2_with fail
            have kb := kb.set 0 (.pointer q)
            have m0 := kb.cell 0
            rw [show (#[Value.pointer p].setIfInBounds 0 (Value.pointer q))[0]? = some (Value.pointer q) from rfl] at m0
            have tt : At (w3.setCell ⟨w2.heap.size, 0, none⟩ (.pointer q)) q T' :=
              IsT.turn (N := w2.heap.size) (W := w3) (n := w3.heap.size) ((kb2.keep hb3).cell 3) (fun k hk => by rw [Below.heap_setCell _ _ _ _ hk]) (by simp) HT'.out.1
            refine (balanced_any q T' _ tt HT'.out.2.1 HT'.out.2.2.2).mono ?_
            rintro e w4 ⟨rfl, hb4⟩
            go_wp2_with fail
            have d3 := (hB.trans ((AL.out).mono hB.size))
            have d4 := (d3.trans (hb3.mono d3.size)).setCell (p := ⟨w2.heap.size, 0, none⟩) hsz (.pointer q)
            go_roundw
            case rel => exact ⟨j + 1, q, T', by omega, by go_num, kb.keep hb4, tt.below hb4, HT'.out.2.1, by rw [HT'.out.2.2.1]; exact VN.out.1, by rw [HT'.out.2.2.1]; exact VN.out.2, d4.trans (hb4.mono d4.size)⟩
            case measure => simp [intOf]; omega
          | false =>
            have ox : okx ⟨sa * (1 + sp), 1 + sn % 4, ss⟩ := by unfold okx; dsimp only; omega
            have VN := Lib.hid (put_vn HX.out.2.2.1 ox)
            have PU := Lib.hid (put_any p T ⟨sa * (1 + sp), 1 + sn % 4, ss⟩ _ (HX.out.1.below AL.out) HX.out.2.1 HX.out.2.2.1 HX.out.2.2.2 ox)
            unfold tv ag at PU
            dsimp only at PU
            clear ox
            go_wp2_with fail
            refine PU.out.mono ?_
            rintro e w3 ⟨q, T', vv, rfl, hT', av', hl', hr', hb3⟩
            have hlen' : (li T').length ≤ 65536 := by rw [hl']; exact VN.out.1.bounds.1
            have HT' := Lib.hid (And.intro hT' (And.intro av' (And.intro hl' hlen'))); clear hT' av' hl' hlen' hr'
            have kb := kb2.keep hb3
            have n0 := kb.cell 0
            have f0 := kb.frozen 0
            rw [c1] at n0
            go_wp2_with fail
            have kb := kb.set 0 (.pointer q)
            have m0 := kb.cell 0
            rw [show (#[Value.pointer p].setIfInBounds 0 (Value.pointer q))[0]? = some (Value.pointer q) from rfl] at m0
            have tt : At (w3.setCell ⟨w2.heap.size, 0, none⟩ (.pointer q)) q T' :=
              IsT.turn (N := w2.heap.size) (W := w3) (n := w3.heap.size) ((kb2.keep hb3).cell 3) (fun k hk => by rw [Below.heap_setCell _ _ _ _ hk]) (by simp) HT'.out.1
            refine (balanced_any q T' _ tt HT'.out.2.1 HT'.out.2.2.2).mono ?_
            rintro e w4 ⟨rfl, hb4⟩
            go_wp2_with fail
            have d3 := (hB.trans ((AL.out).mono hB.size))
            have d4 := (d3.trans (hb3.mono d3.size)).setCell (p := ⟨w2.heap.size, 0, none⟩) hsz (.pointer q)
            go_roundw
            case rel => exact ⟨j + 1, q, T', by omega, by go_num, kb.keep hb4, tt.below hb4, HT'.out.2.1, by rw [HT'.out.2.2.1]; exact VN.out.1, by rw [HT'.out.2.2.1]; exact VN.out.2, d4.trans (hb4.mono d4.size)⟩
            case measure => simp [intOf]; omega
      · go_wp2_with fail
        go_ret
        exact ⟨rfl, hB⟩

end Go.Proofs.Ytdfdnimledcfbaa
