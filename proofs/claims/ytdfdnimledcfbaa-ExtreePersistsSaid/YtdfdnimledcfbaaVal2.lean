/- What extent.Valid returns: whether the list is valid. Conditions: the slice reads as a list that is not too long. -/
import Derived.Test.YtdfdnimledcfbaaValid
import Derived.Test.YtdfdnimledcfbaaGrow
namespace Go.Proofs.Ytdfdnimledcfbaa
open Go.RowKit
open Go.Deep (BT)

theorem vld_prefix {L : List X} {k : Nat} (h : vld L) : vld (L.take k) := by
  rw [← List.take_append_drop k L] at h
  exact (vld_append.1 h).1

/-- One extent more. -/
theorem vld_next {L : List X} {k : Nat} {x : X} (hx : L[k]? = some x) (hv : vld (L.take k)) (hk : k = 0 ∨ ∃ y, L[k - 1]? = some y ∧ 1 ≤ k ∧ y.a + y.n ≤ x.a) (ho : okx x) : vld (L.take (k + 1)) := by
  have hlt : k < L.length := (List.getElem?_eq_some_iff.1 hx).1
  have e : L.take (k + 1) = L.take k ++ [x] := by
    rw [List.take_succ_eq_append_getElem hlt, (List.getElem?_eq_some_iff.1 hx).2]
  rw [e]
  refine vld_append.2 ⟨hv, vld_cons.2 ⟨ho, vld.nil, by simp⟩, fun p hp q hq => ?_⟩
  simp only [List.mem_singleton] at hq
  subst hq
  rcases hk with rfl | ⟨y, hy, h1, h2⟩
  · simp at hp
  · have hlt' : k - 1 < L.length := by omega
    have e' : L.take k = L.take (k - 1) ++ [y] := by
      have := List.take_succ_eq_append_getElem hlt'
      rw [show k - 1 + 1 = k by omega, (List.getElem?_eq_some_iff.1 hy).2] at this
      exact this
    rw [e'] at hp hv
    obtain ⟨_, v2, v3⟩ := vld_append.1 hv
    have hoy := v2.1 y (by simp)
    rcases List.mem_append.1 hp with hp | hp
    · have := v3 p hp y (by simp); unfold okx at hoy; omega
    · simp only [List.mem_singleton] at hp; subst hp; omega

theorem vld_stop {L : List X} {k : Nat} {x y : X} (hx : L[k]? = some x) (hy : L[k - 1]? = some y) (hk : 1 ≤ k) (h : x.a < y.a + y.n) : ¬ vld L := by
  intro hv
  have h1 : k - 1 < L.length := (List.getElem?_eq_some_iff.1 hy).1
  have h2 : k < L.length := (List.getElem?_eq_some_iff.1 hx).1
  have := List.pairwise_iff_getElem.1 hv.2 (k - 1) k h1 h2 (by omega)
  rw [(List.getElem?_eq_some_iff.1 hx).2, (List.getElem?_eq_some_iff.1 hy).2] at this
  omega

/-- A bool is returned: whether the list is valid. -/
def RetV (w : World) (L : List X) (e : Ending) (w' : World) : Prop := ∃ b : Bool, e = .returned (.bool b) ∧ (b = true ↔ vld L) ∧ Below w.heap.size w w'

theorem proper_is (x : X) (b : Bool) (h : okb x = b) (w : World) : Calls Try.prog 53 #[.agg #[.int .i64 x.a, .int .i64 x.n, .int .i64 x.s]] w fun e w' => e = .returned (.bool b) ∧ Below w.heap.size w w' :=
  (proper_any x w).mono fun _ _ ⟨h1, h2⟩ => ⟨by rw [h1, h], h2⟩

set_option maxHeartbeats 1000000 in
set_option maxRecDepth 100000 in
theorem extvalid_any (v : Value) (L : List X) (w : World) (hs : Sl w v L) (hm : L.length ≤ 1000000) : Calls Try.prog 37 #[v] w (RetV w L) := by
  rcases hs with ⟨⟨ao, cap, rfl⟩, rfl⟩ | ⟨b, o, cap, rfl, hc1, hc2, hc⟩
  · go_enter Try.func37, Try.ntmps37
    go_wp2
    go_loopw [7] (fun i wr => i = .int .i64 0 ∧ wr = w) (fun i _ => 0)
    case atStart => exact ⟨rfl, rfl⟩
    case round =>
      obtain ⟨rfl, rfl⟩ := hrel
      go_wp2_with fail
      go_ret
      exact ⟨true, rfl, by simp [vld.nil], Below.refl _ _⟩
  · have HC := Lib.hid hc; clear hc
    go_enter Try.func37, Try.ntmps37
    go_wp2
    go_loopw [7] (fun i wr => ∃ k : Nat, k ≤ L.length ∧ i = .int .i64 k ∧ Below w.heap.size w wr ∧ vld (L.take k)) (fun i _ => L.length - (intOf i).toNat)
    case atStart => exact ⟨0, Nat.zero_le _, rfl, Below.refl _ _, by simp [vld.nil]⟩
    case round =>
      obtain ⟨k, hk, rfl, hb, hvk⟩ := hrel
      by_cases hlt : k < L.length
      · obtain ⟨⟨xa, xn, xs⟩, hx⟩ : ∃ x, L[k]? = some x := ⟨_, List.getElem?_eq_getElem hlt⟩
        obtain ⟨e0, e1, e2⟩ := HC.out k _ hx
        have hbl := lt_of_cell e0
        dsimp only at e0 e1 e2
        have c0 := (hb.cell (p := ⟨b, _, none⟩) hbl).trans e0
        have c1 := (hb.cell (p := ⟨b, _, none⟩) hbl).trans e1
        have c2 := (hb.cell (p := ⟨b, _, none⟩) hbl).trans e2
        have HX := Lib.hid (And.intro hx hvk)
        clear hx e0 e1 e2 hvk
        go_wp2_with fail
        obtain ⟨W, hW, bW, sW, x0, x1, x2⟩ := box_world wr ⟨xa, xn, xs⟩ 0
        replace hW : W = wr.alloc (.cells #[.int .i64 xa, .int .i64 xn, .int .i64 xs] 31) := hW
        dsimp only at x0 x1 x2
        rw [← hW]
        clear hW
        have hnW : wr.heap.size < W.heap.size := by omega
        have y0 : ∀ u : Gr W, u.w.cell? ⟨wr.heap.size, 0, none⟩ = some (.int .i64 xa) := fun u => (u.b.cell (p := ⟨wr.heap.size, 0, none⟩) hnW).trans x0
        have y1 : ∀ u : Gr W, u.w.cell? ⟨wr.heap.size, 1, none⟩ = some (.int .i64 xn) := fun u => (u.b.cell (p := ⟨wr.heap.size, 1, none⟩) hnW).trans x1
        have y2 : ∀ u : Gr W, u.w.cell? ⟨wr.heap.size, 2, none⟩ = some (.int .i64 xs) := fun u => (u.b.cell (p := ⟨wr.heap.size, 2, none⟩) hnW).trans x2
        have BW := Lib.hid (fun u : Gr W => (hb.trans ((bW.trans (u.b.mono (by omega))).mono hb.size) : Below w.heap.size w u.w))
        cases hok : okb ⟨xa, xn, xs⟩ with
        | false =>
          have PR := Lib.hid (proper_is ⟨xa, xn, xs⟩ false hok)
          dsimp only at PR
          have OK := Lib.hid hok; clear hok
          refine region_grow (by kernel_rfl) (by kernel_rfl) ?_
          repeat (first | go_big_quiet_skip | ((with_reducible refine wpQuiet_step (fun K hK => ?_)); go_simp; first | (refine hK _ ?_; clear hK K) | (apply Exists.intro; refine ⟨fun _ => ?_, hK _ ?_⟩; (first | (with_reducible exact grow_of (PR.out _))); clear hK K)))
          with_reducible refine wpQuiet_nil ?_
          intro u
          have bu := BW.out u
          go_wp2_with fail
          go_ret
          refine ⟨false, rfl, ?_, bu⟩
          simp only [Bool.false_eq_true, false_iff]
          intro hv
          exact absurd (hv.1 _ (List.mem_of_getElem? HX.out.1)) (okb_false.1 OK.out)
        | true =>
          have PR := Lib.hid (proper_is ⟨xa, xn, xs⟩ true hok)
          dsimp only at PR
          have OK := Lib.hid hok; clear hok
          rcases Nat.eq_zero_or_pos k with hz | hpos
          · have hd : decide (0 < k) = false := by simp; omega
            have HZ := Lib.hid hz; clear hz
            refine region_grow (by kernel_rfl) (by kernel_rfl) ?_
            repeat (first | go_big_quiet_skip | ((with_reducible refine wpQuiet_step (fun K hK => ?_)); go_simp; first | (refine hK _ ?_; clear hK K) | (apply Exists.intro; refine ⟨fun _ => ?_, hK _ ?_⟩; (first | (with_reducible exact grow_of (PR.out _))); clear hK K)))
            with_reducible refine wpQuiet_nil ?_
            intro u
            have bu := BW.out u
            go_wp2_with fail
            go_roundw
            case rel => exact ⟨k + 1, by omega, by go_num, bu, vld_next HX.out.1 HX.out.2 (.inl HZ.out) (okb_true.1 OK.out)⟩
            case measure => simp [intOf]; omega
          · obtain ⟨⟨ya, yn, ys⟩, hy⟩ : ∃ y, L[k - 1]? = some y := ⟨_, List.getElem?_eq_getElem (by omega)⟩
            have hoy : okx ⟨ya, yn, ys⟩ := HX.out.2.1 _ (List.mem_of_getElem? (i := k - 1) (by rw [List.getElem?_take, if_pos (by omega)]; exact hy))
            obtain ⟨e0, e1, e2⟩ := HC.out (k - 1) _ hy
            dsimp only at e0 e1 e2
            have bA := hb.trans (bW.mono hb.size)
            have hbW : b < W.heap.size := by have := hb.size; omega
            have z0 : ∀ u : Gr W, u.w.cell? ⟨b, o + (k - 1) * 3, none⟩ = some (.int .i64 ya) := fun u => (u.b.cell (p := ⟨b, _, none⟩) hbW).trans ((bA.cell (p := ⟨b, _, none⟩) hbl).trans e0)
            have z1 : ∀ u : Gr W, u.w.cell? ⟨b, o + (k - 1) * 3 + 1, none⟩ = some (.int .i64 yn) := fun u => (u.b.cell (p := ⟨b, _, none⟩) hbW).trans ((bA.cell (p := ⟨b, _, none⟩) hbl).trans e1)
            have z2 : ∀ u : Gr W, u.w.cell? ⟨b, o + (k - 1) * 3 + 2, none⟩ = some (.int .i64 ys) := fun u => (u.b.cell (p := ⟨b, _, none⟩) hbW).trans ((bA.cell (p := ⟨b, _, none⟩) hbl).trans e2)
            have EN := Lib.hid (end_any ⟨ya, yn, ys⟩ hoy)
            unfold ag at EN
            dsimp only at EN
            have HY := Lib.hid (And.intro hy hoy)
            clear e0 e1 e2 hy hoy
            have hd : decide ((0 : Int) < (k : Int)) = true := by simp; omega
            have hi1 : IntKind.i64.wrap ((k : Int) - 1) = (k : Int) - 1 := IntWalk.i64_in _ (by omega)
            have hi2 : (1 : Int) ≤ (k : Int) := by omega
            have hi5 : 1 ≤ k := by omega
            have hi3 : (k : Int) - 1 < (L.length : Int) := by omega
            have hi4 : ((k : Int) - 1).toNat = k - 1 := by omega
            refine region_grow (by kernel_rfl) (by kernel_rfl) ?_
            repeat (first | go_big_quiet_skip | ((with_reducible refine wpQuiet_step (fun K hK => ?_)); go_simp; first | (refine hK _ ?_; clear hK K) | (apply Exists.intro; refine ⟨fun _ => ?_, hK _ ?_⟩; (first | (go_at_call 53; with_reducible exact grow_of (PR.out _)) | (go_at_call 54; with_reducible exact grow_of (EN.out _))); clear hK K)))
            with_reducible refine wpQuiet_nil ?_
            intro u
            have bu := BW.out u
            clear hi1 hi2 hi3 hi4
            go_wp2_with fail
            · go_ret
              refine ⟨false, rfl, ?_, bu⟩
              simp only [Bool.false_eq_true, false_iff]
              exact vld_stop HX.out.1 HY.out.1 hpos (by assumption)
            · go_roundw
              case rel => exact ⟨k + 1, by omega, by go_num, bu, vld_next HX.out.1 HX.out.2 (.inr ⟨_, HY.out.1, hpos, by dsimp only; omega⟩) (okb_true.1 OK.out)⟩
              case measure => simp [intOf]; omega
      · go_wp2_with fail
        go_ret
        have : L.take k = L := List.take_of_length_le (by omega)
        exact ⟨true, rfl, by simpa [this] using hvk, hb⟩

end Go.Proofs.Ytdfdnimledcfbaa
