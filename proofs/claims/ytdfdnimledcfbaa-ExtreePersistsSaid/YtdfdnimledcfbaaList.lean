/- What list returns: the extents of a tree, in a new slice. Conditions: the tree is small. -/
import Derived.Test.YtdfdnimledcfbaaSlice
namespace Go.Proofs.Ytdfdnimledcfbaa
open Go.RowKit
open Go.Deep (BT)

/-- The box B holds a slice of the call's own that reads as L. -/
def Acc (n₀ B : Nat) (W : World) (L : List X) : Prop := ∃ v, Boxed W B 33 v ∧ Row W n₀ v L

/-- A bool is returned; the box holds a longer list; all below is as it was. -/
def RetA (n₀ B : Nat) (w : World) (L : List X) (e : Ending) (w' : World) : Prop := e = .returned (.bool true) ∧ Acc n₀ B w' L ∧ Below n₀ w w'

set_option maxHeartbeats 1000000 in
theorem list1_any (n₀ B : Nat) (w : World) (L : List X) (x : X) (hB : n₀ ≤ B) (hA : Acc n₀ B w L) (hl : L.length ≤ 1000000) :
    Calls Try.prog 52 #[ag x, .pointer (some ⟨B, 0, none⟩)] w (RetA n₀ B w (L ++ [x])) := by
  obtain ⟨i0, hi, hz0, hz1, hz2⟩ := info_parts Try.info31
  obtain ⟨v, hv, hr⟩ := hA
  have hlt := hv.lt
  have hc := hv.cell
  have hf := hv.frozen
  have N2 := Lib.hid (fun o o' => ((hr.alloc o).alloc o' : Row ((w.alloc o).alloc o') n₀ v L))
  have HV := Lib.hid (And.intro hv hr); clear hv hr
  obtain ⟨xa, xn, xs⟩ := x
  unfold ag
  dsimp only
  go_enter Try.func52, Try.ntmps52
  have C1 := Lib.hid (fun o => (by have := news3 (w.alloc o) ⟨xa, xn, xs⟩; simp only [World.size_alloc] at this; exact this : ∀ (j : Nat) (u : Value), (cs [⟨xa, xn, xs⟩])[j]? = some u → ((w.alloc o).alloc (.cells #[.int .i64 xa, .int .i64 xn, .int .i64 xs] 31)).cell? ((⟨w.heap.size + 1, 0, none⟩ : Addr).add j) = some u))
  go_wp2_with (at_builtin; refine wpList_append_own _ rfl _ _ 33 rfl n₀ 31 i0 _ 3 24 Try.underlying33 hi hz0 hz1 hz2 rfl (by decide) _ _ _ rfl (N2.out _ _) ⟨w.heap.size + 1, 0, none⟩ 1 1 (cs [⟨xa, xn, xs⟩]) rfl rfl (C1.out _) (one3 _) ?c3 ?c4 ?c5 ?_)
  case c3 => unfold maxLen; omega
  case c4 => omega
  case c5 => simp; omega
  intro v' w1 hown' hgrow _
  obtain ⟨g', cap', rfl⟩ := ownsRow_succ hown'
  obtain ⟨hv1, hv2, hr2, _, hb2⟩ := (HV.out.1.alloc _).appended (by decide) (HV.out.2.alloc _) (by simp; omega) hB hown' hgrow
  have hc1 := hv1.cell
  have hf1 := hv1.frozen
  have hb3 := ((Below.refl n₀ w).alloc (by omega) _).trans hb2
  have HX := Lib.hid (And.intro hv2 (And.intro hr2 hb3))
  clear hv1 hv2 hr2 hb2 hb3 hc hf hown' hgrow
  go_wp2_with fail
  go_ret
  obtain ⟨q1, q2, q3⟩ := HX.out
  refine ⟨rfl, ⟨_, q1, ?_⟩, q3⟩
  unfold Row
  rw [cs_append]
  simpa using q2

set_option maxHeartbeats 4000000 in
set_option maxRecDepth 100000 in
theorem walk_any (n₀ B : Nat) (hB : n₀ ≤ B) (T : BT X) : ∀ (p : Option Addr) (L : List X) (w : World), IsT n₀ w p T → Acc n₀ B w L → L.length + (li T).length ≤ 1000000 →
    Calls Try.prog 48 #[.pointer p, .func (.func 52) #[] #[.pointer (some ⟨B, 0, none⟩)]] w (RetA n₀ B w (L ++ li T)) := by
  induction T with
  | nil =>
    intro p L w hT hA _
    obtain rfl : p = none := hT
    go_enter Try.func48, Try.ntmps48
    go_wp2
    go_ret
    exact ⟨rfl, by simpa [li] using hA, Below.refl _ _⟩
  | node i j x l r ihl ihr =>
    intro p L w hT hA hL
    simp only [li, List.length_append, List.length_cons] at hL
    obtain ⟨b, p1, p2, rfl, hb, c0, c1, c2, c3, c4, c5, c6, c7, h3, h4⟩ := hT
    clear c5 c6 c7
    have I1 := Lib.hid (ihl p1 L w h3 hA (by omega))
    have I2 := Lib.hid (fun w' (hw : Below n₀ w w') (ha : Acc n₀ B w' (L ++ li l)) => list1_any n₀ B w' (L ++ li l) x hB ha (by simp; omega))
    have I3 := Lib.hid (fun w' (hw : Below n₀ w w') (ha : Acc n₀ B w' (L ++ li l ++ [x])) => ihr p2 (L ++ li l ++ [x]) w' (IsT.below hw (Nat.le_refl _) h4) ha (by simp; omega))
    clear ihl ihr h3 h4 hA hL
    obtain ⟨xa, xn, xs⟩ := x
    unfold ag at I2
    dsimp only at c0 c1 c2 I2
    go_enter Try.func48, Try.ntmps48
    go_wp2_with fail
    refine I1.out.mono ?_
    rintro e w1 ⟨rfl, ha1, hb1⟩
    have d0 := (hb1.cell (p := ⟨b, 0, none⟩) hb).trans c0
    have d1 := (hb1.cell (p := ⟨b, 1, none⟩) hb).trans c1
    have d2 := (hb1.cell (p := ⟨b, 2, none⟩) hb).trans c2
    go_wp2_with fail
    refine (I2.out w1 hb1 ha1).mono ?_
    rintro e w2 ⟨rfl, ha2, hb2⟩
    have hb2 := hb1.trans hb2
    have d4 := (hb2.cell (p := ⟨b, 4, none⟩) hb).trans c4
    go_wp2_with fail
    refine (I3.out w2 hb2 ha2).mono ?_
    rintro e w3 ⟨rfl, ha3, hb3⟩
    have hb3 := hb2.trans hb3
    go_wp2_with fail
    go_ret
    exact ⟨rfl, by simpa [li] using ha3, hb3⟩

/-- A new slice that reads as L is returned; all that was there is as it was. -/
def RetR (w : World) (L : List X) (e : Ending) (w' : World) : Prop := ∃ v, e = .returned v ∧ Row w' w.heap.size v L ∧ Below w.heap.size w w'

set_option maxHeartbeats 1000000 in
theorem list_any (p : Option Addr) (T : BT X) (w : World) (hT : At w p T) (hL : (li T).length ≤ 1000000) : Calls Try.prog 36 #[.pointer p] w (RetR w (li T)) := by
  have I1 := Lib.hid (walk_any w.heap.size w.heap.size (Nat.le_refl _) T p [] (w.alloc (.cells #[.slice none 0 0] 33)) (IsT.below ((Below.refl _ w).alloc (Nat.le_refl _) _) (Nat.le_refl _) hT) ⟨_, Boxed.new w 33 _, Row.nil _ _⟩ (by simpa using hL))
  go_enter Try.func36, Try.ntmps36
  go_wp2_with fail
  refine I1.out.mono ?_
  rintro e w1 ⟨rfl, ⟨v, hv, hr⟩, hb1⟩
  have hc := hv.cell
  go_wp2_with fail
  go_ret
  exact ⟨v, rfl, by simpa using hr, ((Below.refl _ w).alloc (Nat.le_refl _) _).trans hb1⟩

end Go.Proofs.Ytdfdnimledcfbaa
