/- What the reference's Valid and Same return. Conditions: the slices read as lists. -/
import Derived.Test.YtdfdnimledcfbaaRef1
namespace Go.Proofs.Ytdfdnimledcfbaa
open Go.RowKit
open Go.Deep (BT)

theorem one_is (x : X) (b : Bool) (h : okb x = b) (w : World) : Calls Try.prog 49 #[.agg #[.int .i64 x.a, .int .i64 x.n, .int .i64 x.s]] w fun e w' => e = .returned (.bool b) ∧ Below w.heap.size w w' :=
  (one_any x w).mono fun _ _ ⟨h1, h2⟩ => ⟨by rw [h1, h], h2⟩

set_option maxHeartbeats 2000000 in
set_option maxRecDepth 100000 in
theorem refvalid_any (v : Value) (L : List X) (w : World) (hs : Sl w v L) (hm : L.length ≤ 1000000) : Calls Try.prog 24 #[v] w (RetV w L) := by
  rcases hs with ⟨⟨ao, cap, rfl⟩, rfl⟩ | ⟨b, o, cap, rfl, hc1, hc2, hc⟩
  · go_enter Try.func24, Try.ntmps24
    go_wp2
    go_loopw [3] (fun i wr => i = .int .i64 0 ∧ wr = w) (fun i _ => 0)
    case atStart => exact ⟨rfl, rfl⟩
    case round =>
      obtain ⟨rfl, rfl⟩ := hrel
      go_wp2_with fail
      go_ret
      exact ⟨true, rfl, by simp [vld.nil], Below.refl _ _⟩
  · have HC := Lib.hid hc; clear hc
    go_enter Try.func24, Try.ntmps24
    go_wp2
    go_loopw [3] (fun i wr => ∃ k : Nat, k ≤ L.length ∧ i = .int .i64 k ∧ Below w.heap.size w wr ∧ vld (L.take k)) (fun i _ => L.length - (intOf i).toNat)
    case atStart => exact ⟨0, Nat.zero_le _, rfl, Below.refl _ _, by simp [vld.nil]⟩
    case round =>
      obtain ⟨k, hk, rfl, hb, hvk⟩ := hrel
      by_cases hlt : k < L.length
      · obtain ⟨⟨xa, xn, xs⟩, hx⟩ : ∃ x, L[k]? = some x := ⟨_, List.getElem?_eq_getElem hlt⟩
        obtain ⟨e0, e1, e2⟩ := HC.out k _ hx
        have hbl := lt_of_cell e0
        dsimp only at e0 e1 e2
        have hbW : b < wr.heap.size := by have := hb.size; omega
        have y0 : ∀ u : Gr wr, u.w.cell? ⟨b, o + k * 3, none⟩ = some (.int .i64 xa) := fun u => (u.b.cell (p := ⟨b, _, none⟩) hbW).trans ((hb.cell (p := ⟨b, _, none⟩) hbl).trans e0)
        have y1 : ∀ u : Gr wr, u.w.cell? ⟨b, o + k * 3 + 1, none⟩ = some (.int .i64 xn) := fun u => (u.b.cell (p := ⟨b, _, none⟩) hbW).trans ((hb.cell (p := ⟨b, _, none⟩) hbl).trans e1)
        have y2 : ∀ u : Gr wr, u.w.cell? ⟨b, o + k * 3 + 2, none⟩ = some (.int .i64 xs) := fun u => (u.b.cell (p := ⟨b, _, none⟩) hbW).trans ((hb.cell (p := ⟨b, _, none⟩) hbl).trans e2)
        have HX := Lib.hid (And.intro hx hvk)
        clear hx e0 e1 e2 hvk
        have hk1 : (0 : Int) ≤ (k : Int) := by omega
        have hk2 : (k : Int) < (L.length : Int) := by omega
        have BW := Lib.hid (fun u : Gr wr => (hb.trans (u.b.mono hb.size) : Below w.heap.size w u.w))
        go_wp2_with fail
        cases hok : okb ⟨xa, xn, xs⟩ with
        | false =>
          have PR := Lib.hid (one_is ⟨xa, xn, xs⟩ false hok)
          dsimp only at PR
          have OK := Lib.hid hok; clear hok
          refine region_grow (by kernel_rfl) (by kernel_rfl) ?_
          repeat (first | go_big_quiet_skip | ((with_reducible refine wpQuiet_step (fun K hK => ?_)); go_simp; first | (refine hK _ ?_; clear hK K) | (apply Exists.intro; refine ⟨fun _ => ?_, hK _ ?_⟩; (first | (with_reducible exact grow_of (PR.out _))); clear hK K)))
          with_reducible refine wpQuiet_nil ?_
          intro u
          have bu := BW.out u
          go_wp2_with fail
          go_ret
          refine ⟨false, rfl, ?_, bu⟩
          simp only [Bool.false_eq_true, false_iff]
          intro hv
          exact absurd (hv.1 _ (List.mem_of_getElem? HX.out.1)) (okb_false.1 OK.out)
        | true =>
          have PR := Lib.hid (one_is ⟨xa, xn, xs⟩ true hok)
          dsimp only at PR
          have OK := Lib.hid hok; clear hok
          rcases Nat.eq_zero_or_pos k with hz | hpos
          · have hd : decide (0 < k) = false := by simp; omega
            have HZ := Lib.hid hz; clear hz
            refine region_grow (by kernel_rfl) (by kernel_rfl) ?_
            repeat (first | go_big_quiet_skip | ((with_reducible refine wpQuiet_step (fun K hK => ?_)); go_simp; first | (refine hK _ ?_; clear hK K) | (apply Exists.intro; refine ⟨fun _ => ?_, hK _ ?_⟩; (first | (with_reducible exact grow_of (PR.out _))); clear hK K)))
            with_reducible refine wpQuiet_nil ?_
            intro u
            have bu := BW.out u
            go_wp2_with fail
            go_roundw
            case rel => exact ⟨k + 1, by omega, by go_num, bu, vld_next HX.out.1 HX.out.2 (.inl HZ.out) (okb_true.1 OK.out)⟩
            case measure => simp [intOf]; omega
          · obtain ⟨⟨ya, yn, ys⟩, hy⟩ : ∃ y, L[k - 1]? = some y := ⟨_, List.getElem?_eq_getElem (by omega)⟩
            have hoy : okx ⟨ya, yn, ys⟩ := HX.out.2.1 _ (List.mem_of_getElem? (i := k - 1) (by rw [List.getElem?_take, if_pos (by omega)]; exact hy))
            obtain ⟨e0, e1, e2⟩ := HC.out (k - 1) _ hy
            dsimp only at e0 e1 e2
            have z0 : ∀ u : Gr wr, u.w.cell? ⟨b, o + (k - 1) * 3, none⟩ = some (.int .i64 ya) := fun u => (u.b.cell (p := ⟨b, _, none⟩) hbW).trans ((hb.cell (p := ⟨b, _, none⟩) hbl).trans e0)
            have z1 : ∀ u : Gr wr, u.w.cell? ⟨b, o + (k - 1) * 3 + 1, none⟩ = some (.int .i64 yn) := fun u => (u.b.cell (p := ⟨b, _, none⟩) hbW).trans ((hb.cell (p := ⟨b, _, none⟩) hbl).trans e1)
            have HY := Lib.hid (And.intro hy hoy)
            unfold okx at hoy
            obtain ⟨q1, q2, q3, q4, q5⟩ := hoy
            dsimp only at q1 q2 q3 q4 q5
            clear e0 e1 e2 hy
            have hd : decide ((0 : Int) < (k : Int)) = true := by simp; omega
            have hi1 : IntKind.i64.wrap ((k : Int) - 1) = (k : Int) - 1 := IntWalk.i64_in _ (by omega)
            have hi2 : (1 : Int) ≤ (k : Int) := by omega
            have hi5 : 1 ≤ k := by omega
            have hi3 : (k : Int) - 1 < (L.length : Int) := by omega
            have hi4 : ((k : Int) - 1).toNat = k - 1 := by omega
            have hi6 : IntKind.i64.wrap (ya + yn) = ya + yn := IntWalk.i64_in _ (by omega)
            refine region_grow (by kernel_rfl) (by kernel_rfl) ?_
            repeat (first | go_big_quiet_skip | ((with_reducible refine wpQuiet_step (fun K hK => ?_)); go_simp; first | (refine hK _ ?_; clear hK K) | (apply Exists.intro; refine ⟨fun _ => ?_, hK _ ?_⟩; (first | (with_reducible exact grow_of (PR.out _))); clear hK K)))
            with_reducible refine wpQuiet_nil ?_
            intro u
            have bu := BW.out u
            clear hi1 hi2 hi3 hi4 hi6
            go_wp2_with fail
            · go_ret
              refine ⟨false, rfl, ?_, bu⟩
              simp only [Bool.false_eq_true, false_iff]
              exact vld_stop HX.out.1 HY.out.1 hpos (by assumption)
            · go_roundw
              case rel => exact ⟨k + 1, by omega, by go_num, bu, vld_next HX.out.1 HX.out.2 (.inr ⟨_, HY.out.1, hpos, by dsimp only; omega⟩) (okb_true.1 OK.out)⟩
              case measure => simp [intOf]; omega
      · go_wp2_with fail
        go_ret
        have : L.take k = L := List.take_of_length_le (by omega)
        exact ⟨true, rfl, by simpa [this] using hvk, hb⟩

set_option maxHeartbeats 2000000 in
set_option maxRecDepth 100000 in
theorem same_any (va vb : Value) (L : List X) (w : World) (ha : Sl w va L) (hb : Sl w vb L) (hm : L.length ≤ 1000000) : Calls Try.prog 20 #[va, vb] w fun e w' => e = .returned (.bool true) ∧ Below w.heap.size w w' := by
  have HA := Lib.hid ha
  have HB := Lib.hid hb
  obtain ⟨aa, ca, rfl⟩ := sl_shape ha
  obtain ⟨ab, cb, rfl⟩ := sl_shape hb
  clear ha hb
  go_enter Try.func20, Try.ntmps20
  go_wp2
  go_loopw [5] (fun i wr => ∃ k : Nat, k ≤ L.length ∧ i = .int .i64 k ∧ Below w.heap.size w wr) (fun i _ => L.length - (intOf i).toNat)
  case atStart => exact ⟨0, Nat.zero_le _, rfl, Below.refl _ _⟩
  case round =>
    obtain ⟨k, hk, rfl, hbel⟩ := hrel
    by_cases hlt : k < L.length
    · obtain ⟨b1, o1, x, rfl, hx, e0, e1, e2⟩ := (HA.out.below hbel).at hlt
      obtain ⟨b2, o2, x', rfl, hx', f0, f1, f2⟩ := (HB.out.below hbel).at hlt
      obtain rfl : x = x' := Option.some.inj (hx.symm.trans hx')
      obtain ⟨xa, xn, xs⟩ := x
      dsimp only at e0 e1 e2 f0 f1 f2
      clear hx hx'
      have hk1 : (0 : Int) ≤ (k : Int) := by omega
      have hk2 : (k : Int) < (L.length : Int) := by omega
      go_wp2_with fail
      go_quiet (fail)
      have bq : Below w.heap.size w (wr.drewN nq) := ⟨hbel.os, hbel.tape, hbel.output, hbel.size, hbel.block⟩
      go_wp2_with fail
      go_roundw
      case rel => exact ⟨k + 1, by omega, by go_num, bq⟩
      case measure => simp [intOf]; omega
    · go_wp2_with fail
      go_ret
      exact ⟨rfl, hbel⟩

end Go.Proofs.Ytdfdnimledcfbaa
