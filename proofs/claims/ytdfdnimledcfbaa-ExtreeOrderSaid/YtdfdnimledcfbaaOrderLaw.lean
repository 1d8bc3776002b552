/- ExtreeOrder returns true for every list, rotation and direction. Conditions: none. -/
import Derived.Test.YtdfdnimledcfbaaOrder
import Derived.Test.YtdfdnimledcfbaaScriptLaw
namespace Go.Proofs.Ytdfdnimledcfbaa
open Go.RowKit
open Go.Deep (BT)

set_option maxHeartbeats 2000000 in
set_option maxRecDepth 100000 in
theorem order_walk (v : Value) (L : List X) (sp : Int) (rev : Bool) (hsp : 0 ≤ sp ∧ sp ≤ 255) (w : World) (hs : Sl w v L) (hm : L.length ≤ 9223372036854775807) : Calls Try.prog 7 #[v, .int .u8 sp, .bool rev] w fun e w' => e = .returned (.bool true) ∧ Below w.heap.size w w' := by
  have HS := Lib.hid hs
  obtain ⟨ao, cap, rfl⟩ := sl_shape hs
  clear hs
  obtain ⟨sn, rfl⟩ : ∃ sn : Nat, sp = (sn : Int) := ⟨sp.toNat, by omega⟩
  obtain ⟨hsp0, hsp1⟩ := hsp
  by_cases hlen : 40 < L.length
  · go_enter Try.func7, Try.ntmps7
    go_wp2_with fail
    refine (awake_any _).mono ?_
    rintro e w1 ⟨rfl, hb1⟩
    go_wp2_with fail
    go_ret
    exact ⟨rfl, hb1⟩
  · go_enter Try.func7, Try.ntmps7
    go_wp2_with fail
    refine (awake_any _).mono ?_
    rintro e w1 ⟨rfl, hb1⟩
    go_wp2_with fail
    refine (refvalid_any _ L _ (HS.out.below hb1) (by omega)).mono ?_
    rintro e w2 ⟨bv, rfl, hbv, hb2⟩
    have c2 := hb1.trans (hb2.mono hb1.size)
    cases bv with
    | false =>
      go_wp2_with fail
      go_ret
      exact ⟨rfl, c2⟩
    | true =>
      have HV := Lib.hid (hbv.1 rfl)
      clear hbv
      go_wp2_with fail
      refine (jn_any _ L w2 (HS.out.below c2) HV.out).mono ?_
      rintro e w3 ⟨v3, rfl, hr3, hb3⟩
      have H3 := Lib.hid hr3.sl
      obtain ⟨a3, k3, rfl⟩ := sl_shape hr3.sl
      clear hr3
      have c3 := c2.trans (hb3.mono c2.size)
      go_wp2_with fail
      refine (new_any _).mono ?_
      rintro e w4 ⟨rfl, hb4⟩
      go_wp2_with fail
      have al4 := Lib.hid ((Below.refl _ w4).alloc (Nat.le_refl _) (.cells #[.pointer none] 26))
      have c4 := c3.trans (hb4.mono c3.size)
      have c5 := Lib.hid (c4.trans (al4.out.mono c4.size))
      have H5 := Lib.hid ((H3.out.below hb4).below al4.out)
      have hsz := c4.size
      clear H3
      go_loopw [10] (fun i wr => ∃ (j : Nat) (p : Option Addr) (T : BT X), j ≤ L.length ∧ i = .int .i64 j ∧ Blk wr w4.heap.size #[.pointer p] 26 ∧ At wr p T ∧ avl T ∧ vld (li T) ∧ nf (li T) ∧ held L (oix L.length sn rev) j (li T) ∧ Sl wr (.slice a3 (jn L).length k3) (jn L) ∧ Below w.heap.size w wr) (fun i _ => L.length - (intOf i).toNat)
      case atStart => exact ⟨0, none, .nil, Nat.zero_le _, rfl, Blk.new _ _ _, rfl, trivial, vld.nil, List.Pairwise.nil, held_zero _ _, H5.out, c5.out⟩
      case round =>
        obtain ⟨j, p, T, hj, rfl, kb, hT, av, hv, hn, hh, hu, hB⟩ := hrel
        by_cases hlt : j < L.length
        · have hix := oix_lt (sp := sn) (k := j) (rev := rev) (show 0 < L.length by omega)
          obtain ⟨b, o, x, rfl, hx, e0, e1, e2⟩ := (HS.out.below hB).at hix
          have hox : okx x := HV.out.1 x (List.mem_of_getElem? hx)
          have hmid := mid_none hv hn (held_free HV.out hh hx (fun i hi => oix_inj hi hlt))
          have hnx := held_next HV.out hv hh hx
          have hbl := lt_of_cell e0
          have n0 : wr.cell? ⟨w4.heap.size, 0, none⟩ = some (.pointer p) := kb.cell 0
          have hkb := kb.lt
          have hj1 : (0 : Int) ≤ (j : Int) := by omega
          have hj2 : (j : Int) < (L.length : Int) := by omega
          have ST := Lib.hid (fun w' (hw : Below wr.heap.size wr w') => (put_any p T x w' (hT.below hw) av hv hn hox).mono fun e w3 h => retG hw h)
          have VN := Lib.hid (put_vn hv hox)
          have KB := Lib.hid kb
          rw [hmid] at ST
          unfold tv ag at ST
          have HH := Lib.hid hnx
          have HU := Lib.hid hu
          clear hT av hv hn hh hu hox hmid hnx kb
          obtain ⟨xa, xn, xs⟩ := x
          dsimp only at e0 e1 e2 ST
          have hnz : ¬ ((L.length : Int) = 0) := by omega
          have hrm : ((j : Int) + (sn : Int)).tmod (L.length : Int) = (((j + sn) % L.length : Nat) : Int) := by
            rw [Int.tmod_eq_emod_of_nonneg (by omega)]
            have : (j : Int) + (sn : Int) = ((j + sn : Nat) : Int) := by omega
            rw [this]; simp
          have hq := Nat.mod_lt (j + sn) (show 0 < L.length by omega)
          obtain ⟨q, hqd⟩ : ∃ q : Nat, q = (j + sn) % L.length := ⟨_, rfl⟩
          rw [← hqd] at hrm hq
          have hqi : (q : Int) < (L.length : Int) := by omega
          obtain ⟨m, hmd⟩ : ∃ m : Nat, m = oix L.length sn rev j := ⟨_, rfl⟩
          rw [← hmd] at e0 e1 e2 hix
          have hmi : (m : Int) < (L.length : Int) := by omega
          have hm0 : (0 : Int) ≤ (m : Int) := by omega
          have KS : Hid (∀ w', Below wr.heap.size wr w' → (Below wr.heap.size wr w' ∧ w'.cell? ⟨w4.heap.size, 0, none⟩ = some (.pointer p) ∧ w'.cell? ⟨b, o + m * 3, none⟩ = some (.int .i64 xa) ∧ w'.cell? ⟨b, o + m * 3 + 1, none⟩ = some (.int .i64 xn) ∧ w'.cell? ⟨b, o + m * 3 + 2, none⟩ = some (.int .i64 xs))) :=
            fun w' h => ⟨h, (h.cell (p := ⟨w4.heap.size, 0, none⟩) hkb).trans n0, (h.cell (p := ⟨b, o + m * 3, none⟩) hbl).trans e0, (h.cell (p := ⟨b, o + m * 3 + 1, none⟩) hbl).trans e1, (h.cell (p := ⟨b, o + m * 3 + 2, none⟩) hbl).trans e2⟩
          have QD := Lib.hid hqd
          have MD := Lib.hid hmd
          have HX := Lib.hid hx
          clear hqd hmd hx
          go_upto_if 44 with fail
          go_cut [11] from 31 to 67 (fun x11 wx => x11 = .int .i64 m ∧ wx = wr)
          case first =>
            cases rev with
            | false =>
              go_wp2_with fail
              go_meet
              refine ⟨?_, rfl⟩
              have hqm : q = m := by rw [QD.out, MD.out]; simp [oix]
              rw [hqm]
            | true =>
              go_wp2_with fail
              go_meet
              refine ⟨?_, rfl⟩
              have hqm : m = L.length - 1 - q := by rw [QD.out, MD.out]; simp [oix]
              rw [show (L.length : Int) - 1 - (q : Int) = (m : Int) by omega]
          case rest =>
            obtain ⟨rfl, hwc⟩ := hcut
            have hwc' := hwc.symm
            subst hwc'
            clear hwc
            clear hrm hqi hq QD HX
            go_upto_region 13 with fail
            go_cut [12, 13, 14] from 31 to 67 (fun x6 x7 x8 wx => ∃ (N : Nat) (q : Option Addr) (T' : BT X) (va : Option Addr) (vc : Nat), x6 = .pointer (some ⟨N, 0, none⟩) ∧ x7 = .slice va 0 vc ∧ x8 = .int .i64 0 ∧ wr.heap.size ≤ N ∧ Blk wx N #[.pointer q] 26 ∧ At wx q T' ∧ avl T' ∧ li T' = put (li T) ⟨xa, xn, xs⟩ ∧ Below wr.heap.size wr wx)
            case first =>
              have KN : Hid (Blk (wr.alloc (.cells #[.pointer none] 26)).drew wr.heap.size #[.pointer none] 26) := Lib.hid (Blk.new wr _ 26)
              have AL0 : Hid (Below wr.heap.size wr (wr.alloc (.cells #[.pointer none] 26))) := Lib.hid ((Below.refl _ wr).alloc (Nat.le_refl _) _)
              go_region_held3 (fun w' => Below wr.heap.size wr w' ∧ w'.cell? ⟨w4.heap.size, 0, none⟩ = some (.pointer p) ∧ w'.cell? ⟨b, o + m * 3, none⟩ = some (.int .i64 xa) ∧ w'.cell? ⟨b, o + m * 3 + 1, none⟩ = some (.int .i64 xn) ∧ w'.cell? ⟨b, o + m * 3 + 2, none⟩ = some (.int .i64 xs))
                ((refine KS.out _ ?_; first | exact (Below.refl _ _).drew | exact AL0.out.drew | exact AL0.out | exact hb3 | exact hb3.alloc hb3.size _ | exact (hb3.alloc hb3.size _).setCell (p := ⟨_, 0, none⟩) hb3.size _ | exact hb3.setCell (p := ⟨wr.heap.size, 0, none⟩) (Nat.le_refl _) _))
                (first | (go_at_call 14; refine Calls.mono (ST.out _ (by first | exact (Below.refl _ _).drew | exact AL0.out.drew)) ?_; rintro e w3 ⟨q, T', va, vl, vc, rfl, HT', hb3, HK⟩; (try (have m0 := (HK.out wr.heap.size #[.pointer none] 26 KN.out).cell 0; have f0 := (HK.out wr.heap.size #[.pointer none] 26 KN.out).frozen 0; rw [c1] at m0))))
              · go_wp2_with fail
                go_meet
                have al3 := (Below.refl _ w3).alloc (Nat.le_refl _) (.cells #[.pointer q] 26)
                obtain ⟨_, _, hz⟩ := sl_shape HT'.out.2.2.2
                obtain rfl : vl = 0 := by simp only [Value.slice.injEq] at hz; exact hz.2.1
                exact ⟨w3.heap.size, q, T', va, vc, rfl, rfl, rfl, hb3.size, Blk.new _ _ 26, HT'.out.1.below al3, HT'.out.2.1, HT'.out.2.2.1, hb3.alloc hb3.size _⟩
              · go_wp2_with fail
                go_meet
                have kn := HK.out wr.heap.size #[.pointer none] 26 KN.out
                obtain ⟨_, _, hz⟩ := sl_shape HT'.out.2.2.2
                obtain rfl : vl = 0 := by simp only [Value.slice.injEq] at hz; exact hz.2.1
                exact ⟨wr.heap.size, q, T', va, vc, rfl, rfl, rfl, Nat.le_refl _, kn.set 0 _, IsT.turn (N := wr.heap.size) (W := w3) (n := w3.heap.size) (kn.cell 3) (fun k hk => by rw [Below.heap_setCell _ _ _ _ hk]) (by simp) HT'.out.1, HT'.out.2.1, HT'.out.2.2.1, hb3.setCell (p := ⟨wr.heap.size, 0, none⟩) (Nat.le_refl _) _⟩
            case rest =>
              obtain ⟨N, q, T', va, vc, rfl, rfl, rfl, hN, kN, hT', av', hl', hbc⟩ := hcut
              have hN2 : N ≠ w4.heap.size := by omega
              obtain ⟨_, n0', e0', e1', e2'⟩ := KS.out wc hbc
              have kB := KB.out.keep hbc
              have m0 := kN.cell 0
              have m1 := kB.cell 0
              have f1 := kB.frozen 0
              rw [c1] at m0 m1
              have HT' := Lib.hid (And.intro hT' (And.intro av' hl'))
              clear hT' av' hl' KS KB ST n0 e0 e1 e2 n0' e0' e1' e2'
              go_wp2_with fail
              go_roundw
              case rel =>
                have kB7 := kB.set 0 (.pointer q)
                have tt : At (wc.setCell ⟨w4.heap.size, 0, none⟩ (.pointer q)) q T' :=
                  IsT.turn (N := w4.heap.size) (W := wc) (n := wc.heap.size) (kB.cell 3) (fun k hk => by rw [Below.heap_setCell _ _ _ _ hk]) (by simp) HT'.out.1
                have s7 := (HU.out.below hbc).turn (y := .pointer q) kB
                have b07 := (hB.trans (hbc.mono hB.size)).setCell (p := ⟨w4.heap.size, 0, none⟩) hsz (.pointer q)
                have hh' := HH.out
                have vn := VN.out
                rw [← HT'.out.2.2] at hh' vn
                exact ⟨j + 1, q, T', by omega, by go_num, kB7, tt, HT'.out.2.1, vn.1, vn.2, hh', s7, b07⟩
              case measure => simp [intOf]; omega
        · have hjL : j = L.length := by omega
          subst hjL
          have hM := held_all HV.out hv hn hh (fun m hm => oix_sur hm)
          have hjl := jn_len L
          have n0 : wr.cell? ⟨w4.heap.size, 0, none⟩ = some (.pointer p) := kb.cell 0
          have HH := Lib.hid (And.intro hT (And.intro hM hu))
          have hlT : (li T).length ≤ 2000 := by rw [hM]; omega
          clear hT hM hu hh hv hn av
          go_wp2_with fail
          refine (all_any p T wr HH.out.1 hlT).mono ?_
          rintro e w8 ⟨v8, rfl, h8, hb8⟩
          have SM := Lib.hid (same_any _ _ _ w8 (by rw [HH.out.2.1] at h8; exact h8) (HH.out.2.2.below hb8) (by omega))
          obtain ⟨a8, c8, rfl⟩ := sl_shape h8
          clear h8
          go_wp2_with fail
          refine SM.out.mono ?_
          rintro e w9 ⟨rfl, hb9⟩
          go_wp2_with fail
          go_ret
          have b8 := hB.trans (hb8.mono hB.size)
          exact ⟨rfl, b8.trans (hb9.mono b8.size)⟩

end Go.Proofs.Ytdfdnimledcfbaa
