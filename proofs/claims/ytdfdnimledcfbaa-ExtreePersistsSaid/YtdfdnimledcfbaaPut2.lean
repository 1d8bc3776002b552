/- What Put returns for a valid extent. Conditions: the tree's list is valid and in normal form. -/
import Derived.Test.YtdfdnimledcfbaaPut
namespace Go.Proofs.Ytdfdnimledcfbaa
open Go.RowKit
open Go.Deep (BT)

theorem c1 (v : Value) : (#[v] : Array Value)[0]? = some v := rfl
theorem c30 (a b c : Value) : (#[a, b, c] : Array Value)[0]? = some a := rfl
theorem c31 (a b c : Value) : (#[a, b, c] : Array Value)[1]? = some b := rfl
theorem c32 (a b c : Value) : (#[a, b, c] : Array Value)[2]? = some c := rfl

theorem Row.mono {W : World} {base base' : Nat} {v : Value} {L : List X} (h : Row W base v L) (hb : base' ≤ base) : Row W base' v L := by
  obtain ⟨h1, h2⟩ := h
  refine ⟨h1, ?_⟩
  rcases h2 with h2 | ⟨g, cap, cur, e1, e2, e3⟩
  · exact .inl h2
  · exact .inr ⟨g, cap, cur, e1, Nat.le_trans hb e2, e3⟩

theorem at_none {W : World} {T : BT X} (h : At W none T) : T = .nil := by
  cases T with
  | nil => rfl
  | node _ _ _ _ _ => obtain ⟨b, _, _, hp, _⟩ := h; cases hp
theorem at_some {W : World} {a : Addr} {T : BT X} (h : At W (some a) T) : li T ≠ [] := by
  cases T with
  | nil => cases (show some a = none from h)
  | node _ _ _ _ _ => simp [li]
theorem at_some_last {W : World} {a : Addr} {T : BT X} (h : At W (some a) T) : ∃ y A, li T = A ++ [y] :=
  ⟨_, _, (List.dropLast_concat_getLast (at_some h)).symm⟩
theorem at_some_first {W : World} {a : Addr} {T : BT X} (h : At W (some a) T) : ∃ y A, li T = y :: A := by
  cases hl : li T with
  | nil => exact absurd hl (at_some h)
  | cons y A => exact ⟨y, A, rfl⟩

theorem tl_tl {t t' : Int} {x : X} (h : t ≤ t') : (tl t x).flatMap (tl t') = tl t' x := by
  unfold tl
  by_cases c1 : t ≤ x.a
  · simp [c1]
  · by_cases c2 : x.a + x.n ≤ t
    · have c3 : ¬ t' ≤ x.a := by omega
      have c4 : x.a + x.n ≤ t' := by omega
      simp [c1, c2, c3, c4]
    · have c3 : ¬ t' ≤ x.a := by omega
      simp only [if_neg c1, if_neg c2, if_neg c3, List.flatMap_cons, List.flatMap_nil, List.append_nil]
      by_cases c4 : t' ≤ t
      · have : t' = t := by omega
        subst this
        simp [c2]
      · rw [if_neg c4]
        by_cases c5 : x.a + x.n ≤ t'
        · rw [if_pos (by omega), if_pos c5]
        · rw [if_neg (by omega), if_neg c5]
          have : (⟨t', x.n - (t - x.a) - (t' - t), x.s + (t - x.a) + (t' - t)⟩ : X) = ⟨t', x.n - (t' - x.a), x.s + (t' - x.a)⟩ := X.ext rfl (by dsimp only; omega) (by dsimp only; omega)
          rw [this]

theorem tlL_tlL {t t' : Int} {l : List X} (h : t ≤ t') : tlL t' (tlL t l) = tlL t' l := by
  unfold tlL
  rw [List.flatMap_assoc]
  congr 1
  funext x
  exact tl_tl h

/-- Between two statements of Put: the trees ahead and behind, the extent so far, the box of the result. -/
def Mid (w : World) (pa pm pb : Option Addr) (x : X) (A M B : List X) (W : World) : Prop :=
  ∃ TA TM TB, At W pa TA ∧ At W pm TM ∧ At W pb TB ∧ avl TA ∧ avl TB ∧ li TA = A ∧ li TM = M ∧ li TB = B ∧
    Blk W (w.heap.size + 1) #[.int .i64 x.a, .int .i64 x.n, .int .i64 x.s] 31 ∧ Blk W (w.heap.size + 1 + 1) #[.pointer none] 26 ∧ Below w.heap.size w W

theorem Mid.keep {w W W' : World} {pa pm pb : Option Addr} {x : X} {A M B : List X} (h : Mid w pa pm pb x A M B W) (hb : Below W.heap.size W W') : Mid w pa pm pb x A M B W' := by
  obtain ⟨TA, TM, TB, g1, g2, g3, g4, g5, g6, g7, g8, g9, g10, g11⟩ := h
  exact ⟨TA, TM, TB, g1.below hb, g2.below hb, g3.below hb, g4, g5, g6, g7, g8, g9.keep hb, g10.keep hb, g11.trans (hb.mono g11.size)⟩

theorem okx_merge {x y : X} (hx : okx x) (hy : okx y) (h : adj x y) : okx ⟨x.a, x.n + y.n, x.s⟩ := by
  unfold okx adj at *; dsimp only; omega

/-- What the first test of Put leaves. -/
def Left1 (A : List X) (x : X) (A1 : List X) (x1 : X) : Prop := (∃ y, A = A1 ++ [y] ∧ adj y x ∧ x1 = ⟨y.a, y.n + x.n, y.s⟩) ∨ ((∀ y a', A = a' ++ [y] → ¬ adj y x) ∧ A1 = A ∧ x1 = x)
/-- What the second test of Put leaves. -/
def Left2 (B : List X) (x1 : X) (B1 : List X) (x2 : X) : Prop := (∃ y, B = y :: B1 ∧ adj x1 y ∧ x2 = ⟨x1.a, x1.n + y.n, x1.s⟩) ∨ ((∀ y b', B = y :: b' → ¬ adj x1 y) ∧ B1 = B ∧ x2 = x1)

set_option maxHeartbeats 4000000 in
set_option maxRecDepth 100000 in
theorem put_any (p : Option Addr) (T : BT X) (x : X) (w : World) (hT : At w p T) (av : avl T) (hv : vld (li T)) (hn : nf (li T)) (hx : okx x) :
    Calls Try.prog 14 #[tv p, ag x] w (RetP w (put (li T) x) (mid (li T) x.a x.n)) := by
  obtain ⟨W, hW, bW, k0, k1, k2, hsl⟩ := put_world w p x
  have SP1 := Lib.hid (fun w' (h : At w' p T) => split_any T p x.a w' h hv av)
  have hxb := hx
  unfold okx at hxb
  obtain ⟨hx1, hx2, hx3, hx4, hx5⟩ := hxb
  have HT := Lib.hid (And.intro hT (And.intro av (And.intro hv (And.intro hn hx)))); clear hT av hv hn hx
  obtain ⟨xa, xn, xs⟩ := x
  dsimp only at k1 hsl hW SP1 HT hx1 hx2 hx3 hx4 hx5 ⊢
  unfold tv ag
  go_enter Try.func14, Try.ntmps14
  go_wp2_with fail
  rw [← hW]
  clear hW
  refine (extvalid_any _ [⟨xa, xn, xs⟩] _ hsl (by simp)).mono ?_
  rintro e w1 ⟨b, rfl, hb, hb1⟩
  obtain rfl : b = true := hb.2 (vld_one.2 HT.out.2.2.2.2)
  clear hb hsl
  have q0 := k0.keep hb1
  have q1 := k1.keep hb1
  have q2 := k2.keep hb1
  have B1 := Lib.hid (bW.trans (hb1.mono bW.size))
  clear k0 k1 k2 hb1 bW
  have n0 := q0.cell 0
  have n1 := q1.cell 0
  rw [c1] at n0
  rw [c30] at n1
  go_wp2_with fail
  refine (SP1.out _ (HT.out.1.below B1.out)).mono ?_
  rintro e w2 ⟨pa, pr, TA, TR, rfl, ha, hr, va, vr, la, lr, hb2⟩
  have q1 := q1.keep hb2
  have q2 := q2.keep hb2
  have B2 := Lib.hid (B1.out.trans (hb2.mono B1.out.size))
  clear n0 n1 q0 hb2
  have n0 := q1.cell 0
  have n1 := q1.cell 1
  rw [c30] at n0
  rw [c31] at n1
  have HA := Lib.hid (And.intro ha (And.intro va la)); clear ha va la
  have HR := Lib.hid (split_any TR pr (xa + xn) _ hr (by rw [lr]; exact vld_tlL HT.out.2.2.1) vr)
  have LR := Lib.hid lr; clear lr hr vr
  go_wp2_with fail
  refine HR.out.mono ?_
  rintro e w3 ⟨pm, pb, TM, TB, rfl, hm, hb', vm, vb, lm, lb, hb3⟩
  have q1 := q1.keep hb3
  have q2 := q2.keep hb3
  have MID : Hid (Mid w pa pm pb ⟨xa, xn, xs⟩ (hdL xa (li T)) (hdL (xa + xn) (tlL xa (li T))) (tlL (xa + xn) (li T)) w3) :=
    (show Mid w pa pm pb ⟨xa, xn, xs⟩ (hdL xa (li T)) (hdL (xa + xn) (tlL xa (li T))) (tlL (xa + xn) (li T)) w3 from
      ⟨TA, TM, TB, HA.out.1.below hb3, hm, hb', HA.out.2.1, vb, HA.out.2.2, by rw [lm, LR.out], by rw [lb, LR.out, tlL_tlL (by omega)], q1, q2, B2.out.trans (hb3.mono B2.out.size)⟩)
  clear n0 n1 q1 q2 hb3 hm hb' vm vb lm lb HA HR LR B1 B2 SP1
  go_upto_if 39 with (fail)
  go_cut [7] (fun s7 wx => ∃ pa' x1 A1, s7 = .pointer pa' ∧ okx x1 ∧ Mid w pa' pm pb x1 A1 (hdL (xa + xn) (tlL xa (li T))) (tlL (xa + xn) (li T)) wx ∧ Left1 (hdL xa (li T)) ⟨xa, xn, xs⟩ A1 x1)
  case first =>
    cases pa with
    | none =>
      go_wp2_with fail
      go_meet
      refine ⟨none, ⟨xa, xn, xs⟩, hdL xa (li T), rfl, HT.out.2.2.2.2, MID.out, .inr ⟨fun y a' hh => ?_, rfl, rfl⟩⟩
      obtain ⟨TA', TM', TB', g1, g2, g3, g4, g5, g6, g7, g8, g9, g10, g11⟩ := MID.out
      rw [at_none g1] at g6
      rw [← g6] at hh
      simp [li] at hh
    | some ad =>
      obtain ⟨TA', TM', TB', g1, g2, g3, g4, g5, g6, g7, g8, g9, g10, g11⟩ := MID.out
      obtain ⟨y, A1, hA⟩ := at_some_last g1
      have vA : vld (li TA') := by rw [g6]; exact vld_hdL HT.out.2.2.1
      have LA := Lib.hid (last_any TA' y A1 (some ad) w3 g1 hA vA.sml g4)
      have oy : okx y := vA.1 y (by rw [hA]; simp)
      have HY := Lib.hid (And.intro oy (And.intro hA g6))
      have HM := Lib.hid (And.intro g2 (And.intro g3 (And.intro g5 (And.intro g7 g8))))
      clear g1 g2 g3 g4 g5 g6 g7 g8 hA vA
      unfold okx at oy
      obtain ⟨oy1, oy2, oy3, oy4, oy5⟩ := oy
      obtain ⟨ya, yn, ys⟩ := y
      dsimp only at oy1 oy2 oy3 oy4 oy5
      go_wp2_with fail
      refine LA.out.mono ?_
      rintro e w4 ⟨pl, TL, rfl, hl, vl, ll, hb4⟩
      unfold ag
      dsimp only
      have B4 := Lib.hid (g11.trans (hb4.mono g11.size))
      have q1 := (g9.keep hb4).alloc (.cells #[.int .i64 ya, .int .i64 yn, .int .i64 ys] 31)
      have q2 := (g10.keep hb4).alloc (.cells #[.int .i64 ya, .int .i64 yn, .int .i64 ys] 31)
      have q3 := Blk.new w4 #[.int .i64 ya, .int .i64 yn, .int .i64 ys] 31
      have n0 := q1.cell 0
      have n1 := q1.cell 1
      have n2 := q1.cell 2
      rw [c30] at n0
      rw [c31] at n1
      rw [c32] at n2
      go_wp2_with fail
      have HL := Lib.hid (And.intro hl (And.intro vl ll)); clear hl vl ll
      by_cases hadj : adj ⟨ya, yn, ys⟩ ⟨xa, xn, xs⟩
      · have FO := Lib.hid (follows_yes ⟨ya, yn, ys⟩ ⟨xa, xn, xs⟩ (by dsimp only; omega) hadj)
        dsimp only at FO
        have HJ := Lib.hid hadj; clear hadj
        refine (FO.out _).mono ?_
        rintro e w5 ⟨rfl, hb5⟩
        have r1 := q1.keep hb5
        have r2 := q2.keep hb5
        have r3 := q3.keep hb5
        clear n0 n1 n2 q1 q2 q3
        have n0 := r1.cell 0
        have n1 := r1.cell 1
        have n2 := r1.cell 2
        have m0 := r3.cell 0
        have m1 := r3.cell 1
        have m2 := r3.cell 2
        have f0 := r1.frozen 0
        have f1 := r1.frozen 1
        have f2 := r1.frozen 2
        rw [c30] at n0 m0
        rw [c31] at n1 m1
        rw [c32] at n2 m2
        go_wp2_with fail
        go_meet
        refine ⟨pl, ⟨ya, yn + xn, ys⟩, A1, rfl, okx_merge HY.out.1 HT.out.2.2.2.2 HJ.out, ?_, .inl ⟨⟨ya, yn, ys⟩, by rw [← HY.out.2.1]; exact HY.out.2.2.symm, HJ.out, rfl⟩⟩
        have b5 : Below w4.heap.size w4 w5 := ((Below.refl _ w4).alloc (Nat.le_refl _) _).trans (hb5.mono (by simp))
        have key : ∀ {p : Option Addr} {T : BT X}, At w5 p T → At (((w5.setCell ⟨w.heap.size + 1, 0, none⟩ (.int .i64 ya)).setCell ⟨w.heap.size + 1, 1, none⟩ (.int .i64 (yn + xn))).setCell ⟨w.heap.size + 1, 2, none⟩ (.int .i64 ys)) p T := fun {p T} h =>
          IsT.turn (N := w.heap.size + 1) (W := w5) (n := w5.heap.size) (r1.cell 3) (fun k hk => by rw [Below.heap_setCell _ _ _ _ hk, Below.heap_setCell _ _ _ _ hk, Below.heap_setCell _ _ _ _ hk]) (by simp) h
        refine ⟨TL, TM', TB', key (HL.out.1.below b5), key ((HM.out.1.below hb4).below b5), key ((HM.out.2.1.below hb4).below b5), HL.out.2.1, HM.out.2.2.1, HL.out.2.2, HM.out.2.2.2.1, HM.out.2.2.2.2, ?_, ?_, ?_⟩
        · exact ((r1.set 0 _).set 1 _).set 2 _
        · exact ((r2.other (by omega) 0 _).other (by omega) 1 _).other (by omega) 2 _
        · exact (((B4.out.trans (b5.mono B4.out.size)).setCell (by dsimp only; omega) _).setCell (by dsimp only; omega) _).setCell (by dsimp only; omega) _
      · have FO := Lib.hid (follows_no ⟨ya, yn, ys⟩ ⟨xa, xn, xs⟩ (by dsimp only; omega) hadj)
        dsimp only at FO
        have HJ := Lib.hid hadj; clear hadj
        refine (FO.out _).mono ?_
        rintro e w5 ⟨rfl, hb5⟩
        have r1 := q1.keep hb5
        have r2 := q2.keep hb5
        clear n0 n1 n2 q1 q2 q3
        go_wp2_with fail
        go_meet
        have b5 : Below w4.heap.size w4 w5 := ((Below.refl _ w4).alloc (Nat.le_refl _) _).trans (hb5.mono (by simp))
        refine ⟨some ad, ⟨xa, xn, xs⟩, hdL xa (li T), rfl, HT.out.2.2.2.2, ?_, .inr ⟨fun y' a' hh => ?_, rfl, rfl⟩⟩
        · exact MID.out.keep (hb4.trans (b5.mono hb4.size))
        · rw [← HY.out.2.2, HY.out.2.1] at hh
          have h2 := (List.append_inj' hh rfl).2
          simp only [List.cons.injEq, and_true] at h2
          rw [← h2]
          exact HJ.out
  case rest =>
    obtain ⟨pa', x1, A1, rfl, ox1, hM1, hL1⟩ := hcut
    have MID1 := Lib.hid hM1; clear hM1 MID
    have HL1 := Lib.hid hL1; clear hL1
    have OX := Lib.hid ox1
    unfold okx at ox1
    obtain ⟨oa1, oa2, oa3, oa4, oa5⟩ := ox1
    obtain ⟨za, zn, zs⟩ := x1
    dsimp only at oa1 oa2 oa3 oa4 oa5
    go_upto_if 60 with (fail)
    go_cut [10] (fun s10 wx => ∃ pb' x2 B1, s10 = .pointer pb' ∧ okx x2 ∧ Mid w pa' pm pb' x2 A1 (hdL (xa + xn) (tlL xa (li T))) B1 wx ∧ Left2 (tlL (xa + xn) (li T)) ⟨za, zn, zs⟩ B1 x2)
    case first =>
      cases pb with
      | none =>
        go_wp2_with fail
        go_meet
        refine ⟨none, ⟨za, zn, zs⟩, tlL (xa + xn) (li T), rfl, OX.out, MID1.out, .inr ⟨fun y b' hh => ?_, rfl, rfl⟩⟩
        obtain ⟨TA', TM', TB', g1, g2, g3, g4, g5, g6, g7, g8, g9, g10, g11⟩ := MID1.out
        rw [at_none g3] at g8
        rw [← g8] at hh
        simp [li] at hh
      | some ad =>
        obtain ⟨TA', TM', TB', g1, g2, g3, g4, g5, g6, g7, g8, g9, g10, g11⟩ := MID1.out
        obtain ⟨y, B1, hB⟩ := at_some_first g3
        have vB : vld (li TB') := by rw [g8]; exact vld_tlL HT.out.2.2.1
        have LB := Lib.hid (first_any TB' y B1 (some ad) wc g3 hB vB.sml g5)
        have oy : okx y := vB.1 y (by rw [hB]; simp)
        have HY := Lib.hid (And.intro oy (And.intro hB g8))
        have HM := Lib.hid (And.intro g1 (And.intro g2 (And.intro g4 (And.intro g6 g7))))
        clear g1 g2 g3 g4 g5 g6 g7 g8 hB vB
        unfold okx at oy
        obtain ⟨oy1, oy2, oy3, oy4, oy5⟩ := oy
        obtain ⟨ya, yn, ys⟩ := y
        dsimp only at oy1 oy2 oy3 oy4 oy5
        go_wp2_with fail
        refine LB.out.mono ?_
        rintro e w4 ⟨pl, TL, rfl, hl, vl, ll, hb4⟩
        unfold ag
        dsimp only
        have B4 := Lib.hid (g11.trans (hb4.mono g11.size))
        have q1 := (g9.keep hb4).alloc (.cells #[.int .i64 ya, .int .i64 yn, .int .i64 ys] 31)
        have q2 := (g10.keep hb4).alloc (.cells #[.int .i64 ya, .int .i64 yn, .int .i64 ys] 31)
        have q3 := Blk.new w4 #[.int .i64 ya, .int .i64 yn, .int .i64 ys] 31
        have n0 := q1.cell 0
        have n1 := q1.cell 1
        have n2 := q1.cell 2
        rw [c30] at n0
        rw [c31] at n1
        rw [c32] at n2
        go_wp2_with fail
        have HL := Lib.hid (And.intro hl (And.intro vl ll)); clear hl vl ll
        by_cases hadj : adj ⟨za, zn, zs⟩ ⟨ya, yn, ys⟩
        · have FO := Lib.hid (follows_yes ⟨za, zn, zs⟩ ⟨ya, yn, ys⟩ (by dsimp only; omega) hadj)
          dsimp only at FO
          have HJ := Lib.hid hadj; clear hadj
          refine (FO.out _).mono ?_
          rintro e w5 ⟨rfl, hb5⟩
          have r1 := q1.keep hb5
          have r2 := q2.keep hb5
          have r3 := q3.keep hb5
          clear n0 n1 n2 q1 q2 q3
          have n1 := r1.cell 1
          have m1 := r3.cell 1
          have f1 := r1.frozen 1
          rw [c31] at n1 m1
          go_wp2_with fail
          go_meet
          refine ⟨pl, ⟨za, zn + yn, zs⟩, B1, rfl, okx_merge OX.out HY.out.1 HJ.out, ?_, .inl ⟨⟨ya, yn, ys⟩, by rw [← HY.out.2.1]; exact HY.out.2.2.symm, HJ.out, rfl⟩⟩
          have b5 : Below w4.heap.size w4 w5 := ((Below.refl _ w4).alloc (Nat.le_refl _) _).trans (hb5.mono (by simp))
          have key : ∀ {p : Option Addr} {T : BT X}, At w5 p T → At (w5.setCell ⟨w.heap.size + 1, 1, none⟩ (.int .i64 (zn + yn))) p T := fun {p T} h =>
            IsT.turn (N := w.heap.size + 1) (W := w5) (n := w5.heap.size) (r1.cell 3) (fun k hk => by rw [Below.heap_setCell _ _ _ _ hk]) (by simp) h
          refine ⟨TA', TM', TL, key ((HM.out.1.below hb4).below b5), key ((HM.out.2.1.below hb4).below b5), key (HL.out.1.below b5), HM.out.2.2.1, HL.out.2.1, HM.out.2.2.2.1, HM.out.2.2.2.2, HL.out.2.2, ?_, ?_, ?_⟩
          · exact r1.set 1 _
          · exact r2.other (by omega) 1 _
          · exact (B4.out.trans (b5.mono B4.out.size)).setCell (by dsimp only; omega) _
        · have FO := Lib.hid (follows_no ⟨za, zn, zs⟩ ⟨ya, yn, ys⟩ (by dsimp only; omega) hadj)
          dsimp only at FO
          have HJ := Lib.hid hadj; clear hadj
          refine (FO.out _).mono ?_
          rintro e w5 ⟨rfl, hb5⟩
          clear n0 n1 n2 q1 q2 q3
          go_wp2_with fail
          go_meet
          have b5 : Below w4.heap.size w4 w5 := ((Below.refl _ w4).alloc (Nat.le_refl _) _).trans (hb5.mono (by simp))
          refine ⟨some ad, ⟨za, zn, zs⟩, tlL (xa + xn) (li T), rfl, OX.out, MID1.out.keep (hb4.trans (b5.mono hb4.size)), .inr ⟨fun y' b' hh => ?_, rfl, rfl⟩⟩
          rw [← HY.out.2.2, HY.out.2.1] at hh
          simp only [List.cons.injEq] at hh
          rw [← hh.1]
          exact HJ.out
    case rest =>
      obtain ⟨pb', x2, B1, rfl, ox2, hM2, hL2⟩ := hcut
      have FIN : Hid (put (li T) ⟨xa, xn, xs⟩ = A1 ++ x2 :: B1) := (show put (li T) ⟨xa, xn, xs⟩ = A1 ++ x2 :: B1 from
        put_by_hand HT.out.2.2.1 HT.out.2.2.2.1 HT.out.2.2.2.2 _ _ rfl rfl ⟨za, zn, zs⟩ x2 A1 B1 HL1.out hL2)
      obtain ⟨TA', TM', TB', g1, g2, g3, g4, g5, g6, g7, g8, g9, g10, g11⟩ := hM2
      have vP : vld (A1 ++ x2 :: B1) := by rw [← FIN.out]; exact (put_vn HT.out.2.2.1 HT.out.2.2.2.2).1
      have JN := Lib.hid (join_any pa' pb' x2 TA' TB' wc g1 g3 (by rw [g6, g8]; exact vP.sml) g4 g5)
      have hmid : (li TM').length ≤ 1000000 := by
        rw [g7]
        have := (vld_hdL (t := xa + xn) (vld_tlL (t := xa) HT.out.2.2.1)).bounds
        omega
      have HX := Lib.hid (And.intro g2 (And.intro hmid (And.intro g6 (And.intro g7 g8))))
      clear g1 g2 g3 g4 g5 g6 g7 g8 vP hmid hL2 MID1 HL1
      obtain ⟨ua, un, us⟩ := x2
      unfold ag at JN
      dsimp only at JN g9
      have n0 := g9.cell 0
      have n1 := g9.cell 1
      have n2 := g9.cell 2
      rw [c30] at n0
      rw [c31] at n1
      rw [c32] at n2
      go_wp2_with fail
      refine JN.out.mono ?_
      rintro e w6 ⟨pj, TJ, rfl, hj, vj, lj, hb6⟩
      have HJ := Lib.hid (And.intro hj (And.intro vj lj)); clear hj vj lj
      have q2 := g10.keep hb6
      go_wp2_with fail
      refine (list_any pm TM' w6 (HX.out.1.below hb6) HX.out.2.1).mono ?_
      rintro e w7 ⟨v, rfl, hrow, hb7⟩
      have q3 := q2.keep hb7
      have k0 := q3.cell 0
      have f0 := q3.frozen 0
      rw [c1] at k0
      have RW := Lib.hid hrow; clear hrow
      clear n0 n1 n2
      go_wp2_with fail
      have hB7 : Below w.heap.size w w7 := (g11.trans (hb6.mono g11.size)).trans (hb7.mono (Nat.le_trans g11.size hb6.size))
      refine bodyPost_ret (v := .tuple #[.agg #[.pointer pj], v, .int .i64 0]) (by simp [results, Try.results14, go_sem, k0]) rfl ?_
      refine ⟨pj, TJ, v, rfl, ?_, HJ.out.2.1, ?_, ?_, hB7.setCell (by dsimp only; omega) _⟩
      · exact IsT.turn (N := w.heap.size + 1 + 1) (W := w7) (n := w7.heap.size) (q3.cell 3) (fun k hk => by rw [Below.heap_setCell _ _ _ _ hk]) (by simp) (HJ.out.1.below hb7)
      · rw [HJ.out.2.2, FIN.out, HX.out.2.2.1, HX.out.2.2.2.2]
      · have h1 := RW.out
        rw [HX.out.2.2.2.1] at h1
        exact (Row.mono (ownsRow_setCell_below (a := ⟨w.heap.size + 1 + 1, 0, none⟩) h1 q2.lt _) (Nat.le_trans g11.size hb6.size))

end Go.Proofs.Ytdfdnimledcfbaa
