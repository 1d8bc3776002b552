/- What the reference's Join returns: the normal form of a valid list, in a new slice, or an error. Conditions: the slice reads as a list. -/
import Derived.Test.YtdfdnimledcfbaaParts
namespace Go.Proofs.Ytdfdnimledcfbaa
open Go.RowKit
open Go.Deep (BT)

/-- A new slice and no error. -/
def RetQ (w : World) (L : List X) (e : Ending) (w' : World) : Prop := ∃ v, e = .returned (.tuple #[v, .int .i64 0]) ∧ Row w' w.heap.size v L ∧ Below w.heap.size w w'

set_option maxHeartbeats 1000000 in
theorem join_bad (v : Value) (L : List X) (w : World) (hs : Sl w v L) (hm : L.length ≤ 1000000) (hv : ¬ vld L) : Calls Try.prog 25 #[v] w fun e w' => e = .returned (.tuple #[.slice none 0 0, .int .i64 1]) ∧ Below w.heap.size w w' := by
  have RV := Lib.hid (refvalid_any v L w hs hm)
  obtain ⟨ao, cap, rfl⟩ := sl_shape hs
  clear hs
  go_enter Try.func25, Try.ntmps25
  go_wp2_with fail
  refine RV.out.mono ?_
  rintro e w1 ⟨b, rfl, hb, hb1⟩
  obtain rfl : b = false := by
    cases b with
    | false => rfl
    | true => exact absurd (hb.1 rfl) hv
  clear hb
  go_wp2_with fail
  go_ret2
  exact ⟨rfl, hb1⟩

/-- What has been joined so far. -/
def jo (L : List X) (k : Nat) : List X := (L.take k).foldl psh []

theorem jo_next {L : List X} {k : Nat} {x : X} (hx : L[k]? = some x) : jo L (k + 1) = psh (jo L k) x := by
  have hlt : k < L.length := (List.getElem?_eq_some_iff.1 hx).1
  unfold jo
  rw [List.take_succ_eq_append_getElem hlt, (List.getElem?_eq_some_iff.1 hx).2, List.foldl_append]
  rfl

theorem jo_vn {L : List X} (h : vld L) (k : Nat) : vld (jo L k) ∧ nf (jo L k) := by
  have := jn_vn (vld_prefix (k := k) h)
  exact ⟨this.1, this.2.1⟩

theorem psh_len (o : List X) (x : X) : (psh o x).length ≤ o.length + 1 := by
  rcases List.eq_nil_or_concat o with rfl | ⟨o', y, rfl⟩
  · simp [psh]
  · rw [List.concat_eq_append, psh_snoc]; split <;> simp

theorem jo_full {L : List X} {k : Nat} (h : L.length ≤ k) : jo L k = jn L := by
  unfold jo jn
  rw [List.take_of_length_le h]

theorem Row.last {W : World} {base : Nat} {v : Value} {O : List X} {y : X} (h : Row W base v (O ++ [y])) : ∃ g cap cur, v = .slice (some ⟨g, 0, none⟩) (O.length + 1) cap ∧ base ≤ g ∧ Blk W g cur 31 ∧ O.length + 1 ≤ cap ∧ cap ≤ maxLen ∧ cur.size = cap * 3 ∧ cur.toList.take ((O.length + 1) * 3) = cs (O ++ [y]) ∧
    W.cell? ⟨g, O.length * 3, none⟩ = some (.int .i64 y.a) ∧ W.cell? ⟨g, O.length * 3 + 1, none⟩ = some (.int .i64 y.n) ∧ W.cell? ⟨g, O.length * 3 + 2, none⟩ = some (.int .i64 y.s) := by
  have hs := h.sl
  rcases h.2 with ⟨rfl, h2⟩ | ⟨g, cap, cur, e1, e2, e3, e4, e5, e6, e7⟩
  · simp at h2
  · rcases hs with ⟨_, h3⟩ | ⟨b, o, cap', f1, f2, f3, f4⟩
    · simp at h3
    · rw [e1] at f1
      simp only [Value.slice.injEq, Option.some.injEq, Addr.mk.injEq] at f1
      obtain ⟨⟨rfl, rfl, _⟩, _, rfl⟩ := f1
      have := f4 O.length y (by simp)
      simp only [Nat.zero_add] at this
      simp only [List.length_append, List.length_cons, List.length_nil, Nat.zero_add] at e1 e4 e7
      exact ⟨g, cap, cur, e1, e2, e3, e4, e5, e6, e7, this⟩

theorem Row.as {W : World} {base : Nat} {v : Value} {O : List X} {y : X} (h : Row W base v (O ++ [y])) : W.ownsRow base 31 3 v (O.length + 1) (cs (O ++ [y])) := by
  unfold Row at h
  simpa using h
theorem Row.append' {w' : World} {base : Nat} {v' : Value} {O : List X} {y x : X} (h : w'.ownsRow base 31 3 v' (O.length + 1 + 1) (cs (O ++ [y]) ++ cs [x])) : Row w' base v' (O ++ [y] ++ [x]) := by
  unfold Row
  rw [cs_append]
  simpa using h

theorem cs_set (O : List X) (y : X) (n : Int) : (cs (O ++ [y])).set (O.length * 3 + 1) (.int .i64 n) = cs (O ++ [⟨y.a, n, y.s⟩]) := by
  induction O with
  | nil => rfl
  | cons z O ih =>
    have e : (z :: O).length * 3 + 1 = (O.length * 3 + 1) + 3 := by simp only [List.length_cons]; omega
    rw [e]
    simp only [List.cons_append, cs, List.set_cons_succ, ih]

theorem Row.bump {W : World} {base g cap : Nat} {O : List X} {ya yn xn ys : Int} (h : W.ownsRow base 31 3 (.slice (some ⟨g, 0, none⟩) (O.length + 1) cap) (O.length + 1) ((cs (O ++ [⟨ya, yn, ys⟩])).set (O.length * 3 + 1) (.int .i64 (yn + xn)))) :
    Row W base (.slice (some ⟨g, 0, none⟩) (O.length + 1) cap) (O ++ [⟨ya, yn + xn, ys⟩]) := by
  rw [cs_set] at h
  unfold Row
  simpa using h

set_option maxHeartbeats 2000000 in
set_option maxRecDepth 100000 in
theorem jn_any (v : Value) (L : List X) (w : World) (hs : Sl w v L) (hv : vld L) : Calls Try.prog 25 #[v] w (RetQ w (jn L)) := by
  obtain ⟨i0, hi, hz0, hz1, hz2⟩ := info_parts Try.info31
  have hm : L.length ≤ 65536 := hv.bounds.1
  have RV := Lib.hid (refvalid_any v L w hs (by omega))
  have HS := Lib.hid hs
  obtain ⟨ao, cap, rfl⟩ := sl_shape hs
  have HV := Lib.hid hv
  clear hs hv
  go_enter Try.func25, Try.ntmps25
  go_wp2_with fail
  refine RV.out.mono ?_
  rintro e w1 ⟨b, rfl, hb, hb1⟩
  obtain rfl : b = true := hb.2 HV.out
  clear hb
  go_wp2_with fail
  go_loopw [4, 5] (fun out i wr => ∃ k : Nat, k ≤ L.length ∧ i = .int .i64 k ∧ Row wr w.heap.size out (jo L k) ∧ Below w.heap.size w wr) (fun _ i _ => L.length - (intOf i).toNat)
  case atStart => exact ⟨0, Nat.zero_le _, rfl, Row.nil _ _, hb1⟩
  case round =>
    obtain ⟨k, hk, rfl, hr, hbel⟩ := hrel
    by_cases hlt : k < L.length
    · obtain ⟨b1, o1, x, rfl, hx, e0, e1, e2⟩ := (HS.out.below hbel).at hlt
      have hb1 := lt_of_cell e0
      have hox : okx x := HV.out.1 x (List.mem_of_getElem? hx)
      have HX := Lib.hid (And.intro (jo_next hx) (jo_vn HV.out k))
      unfold okx at hox
      obtain ⟨q1, q2, q3, q4, q5⟩ := hox
      clear hx
      obtain ⟨xa, xn, xs⟩ := x
      dsimp only at e0 e1 e2 q1 q2 q3 q4 q5
      have hk1 : (0 : Int) ≤ (k : Int) := by omega
      have hk2 : (k : Int) < (L.length : Int) := by omega
      have hlen := HX.out.2.1.bounds.1
      rcases List.eq_nil_or_concat (jo L k) with hO | ⟨O, y, hO⟩
      · rw [hO] at hr
        have HO := Lib.hid hO; clear hO
        have HR := Lib.hid hr
        obtain ⟨ao', cap', rfl⟩ := sl_shape hr.sl
        clear hr
        dsimp only [List.length_nil]
        go_wp2_with fail
        go_quiet (fail)
        have EX : Hid (jo L (k + 1) = [] ++ [⟨xa, xn, xs⟩]) := (show jo L (k + 1) = [] ++ [⟨xa, xn, xs⟩] by rw [HX.out.1, HO.out]; rfl)
        obtain ⟨Wq, hq, bq⟩ : ∃ Wq, Wq = wr.drewN nq ∧ Below wr.heap.size wr Wq := ⟨_, rfl, ⟨rfl, rfl, rfl, Nat.le_refl _, fun _ _ => rfl⟩⟩
        rw [← hq]
        clear hq
        have d0 := (bq.cell (p := ⟨b1, _, none⟩) hb1).trans e0
        have d1 := (bq.cell (p := ⟨b1, _, none⟩) hb1).trans e1
        have d2 := (bq.cell (p := ⟨b1, _, none⟩) hb1).trans e2
        clear e0 e1 e2
        have R2 := Lib.hid (HR.out.keep bq)
        have C1 := Lib.hid (news3 Wq ⟨xa, xn, xs⟩)
        have b2 := hbel.trans (bq.mono hbel.size)
        go_wp2_with (at_builtin; refine wpList_append_own _ rfl _ _ 33 rfl w.heap.size 31 i0 _ 3 24 Try.underlying33 hi hz0 hz1 hz2 rfl (by decide) _ _ _ rfl (R2.out.alloc _) ⟨Wq.heap.size, 0, none⟩ 1 1 (cs [⟨xa, xn, xs⟩]) rfl rfl C1.out (one3 _) ?c3a ?c4a ?c5a ?_)
        case c3a => unfold maxLen; simp
        case c5a => have := b2.size; simp; omega
        intro v' w4 hown' hgrow _
        have hrow := Row.append hown'
        have b4 := (b2.alloc b2.size (.cells #[.int .i64 xa, .int .i64 xn, .int .i64 xs] 31)).grown hgrow (by have := b2.size; simp; omega) (Row.ge R2.out)
        rw [← EX.out] at hrow
        have HW := Lib.hid (And.intro hrow b4)
        clear hown' hgrow hrow b4
        go_wp2_with fail
        go_roundw
        case rel => exact ⟨k + 1, by omega, by go_num, HW.out.1, HW.out.2⟩
        case measure => simp [intOf]; omega
      · rw [List.concat_eq_append] at hO
        rw [hO] at hr hlen
        simp only [List.length_append, List.length_cons, List.length_nil, Nat.zero_add] at hlen
        have HO := Lib.hid hO; clear hO
        obtain ⟨g, cap', cur, rfl, hg, hB, hc1, hc2, hc3, hc4, f0, f1, f2⟩ := hr.last
        have HR := Lib.hid (And.intro hr (And.intro hB (And.intro hc3 hc4))); clear hr hB hc3 hc4
        have hoy : okx y := HX.out.2.1.1 y (by rw [HO.out]; simp)
        unfold okx at hoy
        obtain ⟨p1, p2, p3, p4, p5⟩ := hoy
        obtain ⟨ya, yn, ys⟩ := y
        dsimp only at f0 f1 f2 p1 p2 p3 p4 p5
        have i1 : (0 : Int) ≤ (O.length : Int) := by omega
        have i2 : (O.length : Int) < (O.length : Int) + 1 := by omega
        have w1' : IntKind.i64.wrap (ya + yn) = ya + yn := IntWalk.i64_in _ (by omega)
        have w2' : IntKind.i64.wrap (ys + yn) = ys + yn := IntWalk.i64_in _ (by omega)
        by_cases ha : xa = ya + yn
        · have t1 : (xa == ya + yn) = true := by simpa using ha
          by_cases hs' : xs = ys + yn
          · have t2 : (xs == ys + yn) = true := by simpa using hs'
            have EX : Hid (jo L (k + 1) = O ++ [⟨ya, yn + xn, ys⟩]) := (show jo L (k + 1) = O ++ [⟨ya, yn + xn, ys⟩] by rw [HX.out.1, HO.out, psh_snoc, if_pos ⟨ha.symm, hs'.symm⟩])
            clear ha hs'
            go_wp2_with fail
            go_quiet (fail)
            clear t1 t2 w1' w2'
            obtain ⟨Wq, hq, bq⟩ : ∃ Wq, Wq = wr.drewN nq ∧ Below wr.heap.size wr Wq := ⟨_, rfl, ⟨rfl, rfl, rfl, Nat.le_refl _, fun _ _ => rfl⟩⟩
            rw [← hq]
            clear hq
            have d1 := (bq.cell (p := ⟨b1, _, none⟩) hb1).trans e1
            have kB := HR.out.2.1.keep bq
            have g1 := (bq.cell (p := ⟨g, _, none⟩) HR.out.2.1.lt).trans f1
            have z1 := kB.frozen (O.length * 3 + 1)
            have b2 := hbel.trans (bq.mono hbel.size)
            have s1 : IntKind.i64.wrap (yn + xn) = yn + xn := IntWalk.i64_in _ (by omega)
            clear e0 e1 e2 f0 f1 f2
            go_wp2_with fail
            refine region_tail 13 (by kernel_rfl) (by kernel_rfl) ?_
            simp only [List.take_succ_cons, List.take_zero, List.drop_succ_cons, List.drop_zero]
            repeat still_step
            with_reducible refine wpStill_nil ?_
            clear s1
            go_wp2_with fail
            have ST := (Row.as (HR.out.1.keep (bq.drew))).stored (O.length * 3 + 1) (.int .i64 (yn + xn))
            go_roundw
            case rel => exact ⟨k + 1, by omega, by go_num, by rw [EX.out]; exact Row.bump ST.1, b2.drew.setCell hg _⟩
            case measure => simp [intOf]; omega
          · have t2 : (xs == ys + yn) = false := by simpa using hs'
            have EX : Hid (jo L (k + 1) = (O ++ [⟨ya, yn, ys⟩]) ++ [⟨xa, xn, xs⟩]) := (show jo L (k + 1) = (O ++ [⟨ya, yn, ys⟩]) ++ [⟨xa, xn, xs⟩] by rw [HX.out.1, HO.out, psh_snoc, if_neg (fun h => hs' h.2.symm)])
            clear ha hs'
            go_wp2_with fail
            go_quiet (fail)
            clear t1 t2 w1' w2'
            obtain ⟨Wq, hq, bq⟩ : ∃ Wq, Wq = wr.drewN nq ∧ Below wr.heap.size wr Wq := ⟨_, rfl, ⟨rfl, rfl, rfl, Nat.le_refl _, fun _ _ => rfl⟩⟩
            rw [← hq]
            clear hq
            have d0 := (bq.cell (p := ⟨b1, _, none⟩) hb1).trans e0
            have d1 := (bq.cell (p := ⟨b1, _, none⟩) hb1).trans e1
            have d2 := (bq.cell (p := ⟨b1, _, none⟩) hb1).trans e2
            clear e0 e1 e2
            have R2 := Lib.hid (Row.as (HR.out.1.keep bq))
            obtain ⟨mm, hmm⟩ : ∃ mm, mm = O.length + 1 := ⟨_, rfl⟩
            have hmb : mm ≤ 65536 := by omega
            rw [← hmm] at R2 ⊢
            have HMM := Lib.hid hmm; clear hmm
            have C1 := Lib.hid (news3 Wq ⟨xa, xn, xs⟩)
            have b2 := hbel.trans (bq.mono hbel.size)
            go_wp2_with (at_builtin; refine wpList_append_own _ rfl _ _ 33 rfl w.heap.size 31 i0 _ 3 24 Try.underlying33 hi hz0 hz1 hz2 rfl (by decide) _ _ _ rfl (R2.out.alloc _) ⟨Wq.heap.size, 0, none⟩ 1 1 (cs [⟨xa, xn, xs⟩]) rfl rfl C1.out (one3 _) ?c3b ?c4b ?c5b ?_)
            case c3b => unfold maxLen; omega
            case c4b => omega
            case c5b => have := b2.size; simp; omega
            intro v' w4 hown' hgrow _
            have hrow := Row.append' (by rw [HMM.out] at hown'; exact hown')
            have b4 := (b2.alloc b2.size (.cells #[.int .i64 xa, .int .i64 xn, .int .i64 xs] 31)).grown hgrow (by have := b2.size; simp; omega) (by intro q hq; simp [Value.ownBlock] at hq; omega)
            rw [← EX.out] at hrow
            have HW := Lib.hid (And.intro hrow b4)
            clear hown' hgrow hrow b4
            go_wp2_with fail
            go_roundw
            case rel => exact ⟨k + 1, by omega, by go_num, HW.out.1, HW.out.2⟩
            case measure => simp [intOf]; omega
        · have t1 : (xa == ya + yn) = false := by simpa using ha
          have EX : Hid (jo L (k + 1) = (O ++ [⟨ya, yn, ys⟩]) ++ [⟨xa, xn, xs⟩]) := (show jo L (k + 1) = (O ++ [⟨ya, yn, ys⟩]) ++ [⟨xa, xn, xs⟩] by rw [HX.out.1, HO.out, psh_snoc, if_neg (fun h => ha h.1.symm)])
          clear ha
          go_wp2_with fail
          go_quiet (fail)
          clear t1 w1' w2'
          obtain ⟨Wq, hq, bq⟩ : ∃ Wq, Wq = wr.drewN nq ∧ Below wr.heap.size wr Wq := ⟨_, rfl, ⟨rfl, rfl, rfl, Nat.le_refl _, fun _ _ => rfl⟩⟩
          rw [← hq]
          clear hq
          have d0 := (bq.cell (p := ⟨b1, _, none⟩) hb1).trans e0
          have d1 := (bq.cell (p := ⟨b1, _, none⟩) hb1).trans e1
          have d2 := (bq.cell (p := ⟨b1, _, none⟩) hb1).trans e2
          clear e0 e1 e2
          have R2 := Lib.hid (Row.as (HR.out.1.keep bq))
          obtain ⟨mm, hmm⟩ : ∃ mm, mm = O.length + 1 := ⟨_, rfl⟩
          have hmb : mm ≤ 65536 := by omega
          rw [← hmm] at R2 ⊢
          have HMM := Lib.hid hmm; clear hmm
          have C1 := Lib.hid (news3 Wq ⟨xa, xn, xs⟩)
          have b2 := hbel.trans (bq.mono hbel.size)
          go_wp2_with (at_builtin; refine wpList_append_own _ rfl _ _ 33 rfl w.heap.size 31 i0 _ 3 24 Try.underlying33 hi hz0 hz1 hz2 rfl (by decide) _ _ _ rfl (R2.out.alloc _) ⟨Wq.heap.size, 0, none⟩ 1 1 (cs [⟨xa, xn, xs⟩]) rfl rfl C1.out (one3 _) ?c3c ?c4c ?c5c ?_)
          case c3c => unfold maxLen; omega
          case c4c => omega
          case c5c => have := b2.size; simp; omega
          intro v' w4 hown' hgrow _
          have hrow := Row.append' (by rw [HMM.out] at hown'; exact hown')
          have b4 := (b2.alloc b2.size (.cells #[.int .i64 xa, .int .i64 xn, .int .i64 xs] 31)).grown hgrow (by have := b2.size; simp; omega) (by intro q hq; simp [Value.ownBlock] at hq; omega)
          rw [← EX.out] at hrow
          have HW := Lib.hid (And.intro hrow b4)
          clear hown' hgrow hrow b4
          go_wp2_with fail
          go_roundw
          case rel => exact ⟨k + 1, by omega, by go_num, HW.out.1, HW.out.2⟩
          case measure => simp [intOf]; omega
    · go_wp2_with fail
      go_ret2
      rw [jo_full (by omega)] at hr
      exact ⟨_, rfl, hr, hbel⟩

end Go.Proofs.Ytdfdnimledcfbaa
