/- The walk over a tree by its iterator, gathered into a slice. Conditions: the list is no longer than 2000. -/
import Derived.Test.YtdfdnimledcfbaaIter
namespace Go.Proofs.Ytdfdnimledcfbaa
open Go.RowKit Go.Shelf
open Go.Deep (BT)
attribute [local go_sem] Oper.semAt_some

set_option maxHeartbeats 1000000 in
theorem all1_in (n : Nat) (l Bt n₀ : Nat) (p0 : Option Addr) (T : BT X) (J Jx : List X → World → Prop)
    (hY : ∀ pre x W, J pre W → pre.length < (li T).length → YieldAt Fence.wide (n - 1) Try.prog l #[.agg #[.int .i64 x.a, .int .i64 x.n, .int .i64 x.s]] W fun e W' =>
      (e = .returned (.bool true) ∧ J (pre ++ [x]) W' ∧ Below n₀ W W') ∨ (e = .returned (.bool false) ∧ Jx (pre ++ [x]) W'))
    (W : World) (hBt : W.cell? ⟨Bt, 0, none⟩ = some (.pointer p0)) (hT : IsT n₀ W p0 T) (h0 : J [] W) :
    CallsIn Fence.wide n Try.prog 47 #[.func (.yield l) #[] #[], .pointer (some ⟨Bt, 0, none⟩)] W fun e W' => (∃ v, e = .returned v) ∧
      ((∃ ys, ys = li T ∧ J ys W') ∨ (∃ pre, pre <+: li T ∧ Jx pre W')) := by
  have hp := Lib.hid (callsIn_wide.1 (push_in Fence.wide rfl rfl trivial rfl l n₀ (li T).length J Jx (fun m pre x W hj hl => yieldAny rfl m (hY pre x W hj hl)) T 0 p0 [] W hT h0 (by simp)))
  clear hY hT h0
  refine callsIn_wide.2 ?_
  go_enter Try.func47, Try.ntmps47
  go_wp2_with fail
  refine hp.out.mono ?_
  rintro e W1 (⟨rfl, hJ1, _⟩ | ⟨rfl, q, hq, hx⟩) <;> go_wp2_with fail
  · go_end0
    exact ⟨⟨_, rfl⟩, .inl ⟨_, rfl, by simpa using hJ1⟩⟩
  · go_end0
    exact ⟨⟨_, rfl⟩, .inr ⟨q, hq, by simpa using hx⟩⟩

set_option maxHeartbeats 1000000 in
theorem all_in (p0 : Option Addr) (w : World) :
    Calls Try.prog 23 #[.agg #[.pointer p0]] w fun e w' => e = .returned (.func (.func 47) #[] #[.pointer (some ⟨w.heap.size, 0, none⟩)]) ∧ w' = w.alloc (.cells #[.pointer p0] 26) := by
  go_enter Try.func23, Try.ntmps23
  go_wp2
  go_ret
  exact ⟨rfl, rfl⟩

theorem all_stops (n : Nat) (Bt n₀ : Nat) (p0 : Option Addr) (T : BT X) (w : World) (hBt : Bt < w.heap.size) (hn₀ : n₀ ≤ w.heap.size)
    (hc : w.cell? ⟨Bt, 0, none⟩ = some (.pointer p0)) (hT : IsT n₀ w p0 T) :
    SeqStopsK Fence.wide n Try.prog 47 #[.pointer (some ⟨Bt, 0, none⟩)] (fun x : X => #[.agg #[.int .i64 x.a, .int .i64 x.n, .int .i64 x.s]]) (Below n₀) (fun ys => ys = li T) (fun pre => pre <+: li T) (li T).length w := fun l J Jx W hW _ _ hY h0 =>
  all1_in n l Bt n₀ p0 T J Jx hY W ((hW.cell (p := ⟨Bt, 0, none⟩) hBt).trans hc) (IsT.below (hW.mono hn₀) (Nat.le_refl _) hT) h0

theorem blk_own {β : Type} (B : Nat) (t : TypeId) (c : β → Array Value) : Own (fun s W => Blk W B (c s) t) := by
  intro s X Y row hs hg hrow
  have hlt : B < X.heap.size := (Array.getElem?_eq_some_iff.1 hs).1
  refine (hg.block B hlt fun e' => ?_).trans hs
  obtain ⟨o, ho, hc⟩ := hrow B e'.symm
  rw [show X.heap[B]? = _ from hs] at ho; cases ho; cases hc

theorem res21 (tmps : Array Value) (W : World) (B : Nat) (a : Option Addr) (l c : Nat) (h2 : tmps.getD 2 undef = .pointer (some ⟨B, 0, none⟩)) (hc : W.cell? ⟨B, 0, none⟩ = some (.slice a l c)) :
    (results Try.f21 tmps).run Try.prog W = .ok (.slice a l c) W := by
  have h : Try.f21.results = #[.cell 2 33] := rfl
  have h2' : tmps[2]?.getD undef = .pointer (some ⟨B, 0, none⟩) := by simpa using h2
  simp only [results, h]
  go_simp

set_option maxRecDepth 100000 in
set_option maxHeartbeats 2000000 in
theorem all_core (F : Fence) (n : Nat) (hn : 3 ≤ n) (hd : F.depth = none) (hfn : ∀ k, F.fn k) (hro : F.round = none) (hC : ∀ n f args w R, Calls Try.prog f args w R → CallsIn F n Try.prog f args w R)
    (hS : ∀ (n : Nat) (Bt n₀ : Nat) (p0 : Option Addr) (T : BT X) (w : World), Bt < w.heap.size → n₀ ≤ w.heap.size → w.cell? ⟨Bt, 0, none⟩ = some (.pointer p0) → IsT n₀ w p0 T →
      SeqStopsK F n Try.prog 47 #[.pointer (some ⟨Bt, 0, none⟩)] (fun x : X => #[.agg #[.int .i64 x.a, .int .i64 x.n, .int .i64 x.s]]) (Below n₀) (fun ys => ys = li T) (fun pre => pre <+: li T) (li T).length w)
    (p : Option Addr) (T : BT X) (w : World) (hT : At w p T) (hlen : (li T).length ≤ 2000) :
    CallsIn F n Try.prog 21 #[.agg #[.pointer p]] w fun e w' => ∃ v, e = .returned v ∧ Sl w' v (li T) ∧ Below w.heap.size w w' := by
  obtain ⟨i0, hi, hz0, hz1, hz2⟩ := info_parts Try.info31
  have hdd : ∀ k : Nat, (F.depth.isSome = true → 1 ≤ k) := fun k h => by rw [hd] at h; cases h
  refine callsIn_of_wp_marks Try.func21 rfl (hfn 21) ?_ hro
  simp only [Try.ntmps21, List.size_toArray, List.length_cons, List.length_nil, Nat.reduceAdd, Nat.reduceSub, Array.replicate_succ, Array.replicate_zero, List.push_toArray, List.append_toArray, List.nil_append, List.cons_append]
  have HC := Lib.hid hC; clear hC
  have HS := Lib.hid hS; clear hS
  gi_wp2_with fail
  obtain ⟨W0, hW0, hs0, hb0, bT, bR, bO⟩ : ∃ W0, W0 = ((w.alloc (Obj.cells #[Value.pointer p] 26)).alloc (Obj.cells #[Value.slice none 0 0] 33)).alloc (Obj.cells #[Value.slice none 0 0] 33) ∧ W0.heap.size = w.heap.size + 3 ∧ Below w.heap.size w W0 ∧ Boxed W0 w.heap.size 26 (.pointer p) ∧ Boxed W0 (w.heap.size + 1) 33 (.slice none 0 0) ∧ Boxed W0 (w.heap.size + 2) 33 (.slice none 0 0) := by
    refine ⟨_, rfl, by simp, (((Below.refl _ w).alloc (Nat.le_refl _) _).alloc (by simp) _).alloc (by simp; omega) _, ((Boxed.new w 26 _).alloc _).alloc _, ?_, ?_⟩
    · have := (Boxed.new (w.alloc (Obj.cells #[Value.pointer p] 26)) 33 (.slice none 0 0)).alloc (Obj.cells #[Value.slice none 0 0] 33)
      simpa using this
    · have := Boxed.new ((w.alloc (Obj.cells #[Value.pointer p] 26)).alloc (Obj.cells #[Value.slice none 0 0] 33)) 33 (.slice none 0 0)
      simpa using this
  rw [← hW0]
  clear hW0
  refine (HC.out _ _ _ _ _ (len_any p T W0 (hT.below hb0))).mono ?_
  rintro e W1 ⟨rfl, hb1⟩
  have bT1 : Boxed W1 w.heap.size 26 (.pointer p) := Blk.keep bT hb1
  have bR1 : Boxed W1 (w.heap.size + 1) 33 (.slice none 0 0) := Blk.keep bR hb1
  have bO1 : Boxed W1 (w.heap.size + 2) 33 (.slice none 0 0) := Blk.keep bO hb1
  have hB1 : Below w.heap.size w W1 := hb0.trans (hb1.mono (by omega))
  have hs1 : w.heap.size + 3 ≤ W1.heap.size := by have := hb1.size; omega
  have hT1 : At W1 p T := hT.below hB1
  clear bT bR bO hb1 hb0 hs0
  have HT := Lib.hid hT1; clear hT1
  have HT0 : Hid (IsT w.heap.size w p T) := Lib.hid hT; clear hT
  have HB := Lib.hid hB1; clear hB1
  have ct := bT1.cell
  have cr := bR1.cell
  have fr := bR1.frozen
  have co := bO1.cell
  have fo := bO1.frozen
  have BX := Lib.hid (And.intro bT1 (And.intro bR1 bO1))
  clear bT1 bR1 bO1
  by_cases hz : (li T).length = 0
  · have hz' : ((li T).length : Int) = 0 := by omega
    have hl0 : Hid (li T = []) := Lib.hid (List.length_eq_zero_iff.1 hz)
    clear hz hlen
    gi_wp2_with fail
    have hc2 : (W1.setCell ⟨w.heap.size + 1, 0, none⟩ (.slice none 0 0)).cell? ⟨w.heap.size + 1, 0, none⟩ = some (.slice none 0 0) := World.cell?_setCell_same' _ _ _ (by rw [cr]; rfl)
    refine ⟨_, res21 _ _ _ _ _ _ rfl hc2, ?_⟩
    refine ⟨_, rfl, ?_, ?_⟩
    · rw [hl0.out]; exact .inl ⟨⟨_, _, rfl⟩, rfl⟩
    · exact HB.out.setCell (p := ⟨w.heap.size + 1, 0, none⟩) (by simp) _
  · have hz' : ¬ ((li T).length : Int) = 0 := by omega
    gi_wp2_with fail
    refine (HC.out _ _ _ _ _ (all_in p W1)).mono ?_
    rintro e W2 ⟨rfl, hW2⟩
    have hs2 : W2.heap.size = W1.heap.size + 1 := by rw [hW2]; simp
    have h12 : Below W1.heap.size W1 W2 := by rw [hW2]; exact (Below.refl _ W1).alloc (Nat.le_refl _) _
    have bN : Boxed W2 W1.heap.size 26 (.pointer p) := by rw [hW2]; exact Boxed.new W1 26 _
    clear hW2 ct cr fr co fo
    obtain ⟨bT1, bR1, bO1⟩ := BX.out
    have bR2 : Boxed W2 (w.heap.size + 1) 33 (.slice none 0 0) := Blk.keep bR1 h12
    have bO2 : Boxed W2 (w.heap.size + 1 + 1) 33 (.slice none 0 0) := Blk.keep bO1 h12
    have hB2 : Below w.heap.size w W2 := HB.out.trans (h12.mono (by omega))
    have hT2 : IsT w.heap.size W2 p T := IsT.below hB2 (Nat.le_refl _) HT0.out
    clear bT1 bR1 bO1 BX HT HB HT0 HC
    gi_wp2_with fail
    have hS := HS.out
    clear HS
    have hs2' : w.heap.size ≤ W2.heap.size := by omega
    refine wpIn_rangeFunc_ownH hro (by omega) (gf := 47) (lb := #[.pointer (some ⟨W1.heap.size, 0, none⟩)]) rfl (hfn 47) (enters_of Try.func47 (by kernel_rfl) rfl)
      (hS (n - 1) W1.heap.size w.heap.size p T W2 (by omega) hs2' bN.cell hT2) belowK_t (belowK_b hs2') (Below.refl _ _) (fun _ => rfl)
      (fun pre W => ((∃ v, Boxed W (w.heap.size + 1 + 1) 33 v ∧ W.ownsRow w.heap.size 31 3 v pre.length (cs pre) ∧ True) ∧ Boxed W (w.heap.size + 1) 33 (.slice none 0 0)) ∧ Below w.heap.size w W)
      (fun _ _ _ => False)
      (OwnFrom.and (OwnFrom.and (Own.from (holdsRow_own w.heap.size (w.heap.size + 1 + 1) 33 31 3 (fun pre : List X => pre.length) cs (fun _ _ => True)) _) (Own.from (boxed_own (w.heap.size + 1) 33 (fun _ => Value.slice none 0 0)) _)) (ownFrom_below (Nat.le_refl _) hs2'))
      (fun _ _ _ _ _ hs _ _ => hs)
      ⟨⟨⟨_, bO2, World.ownsRow_nil _ _ _ _, trivial⟩, bR2⟩, hB2⟩
      (fun x a' W => ∃ Bx, Blk W Bx #[.int .i64 x.a, .int .i64 x.n, .int .i64 x.s] 31 ∧ a' = { tmps := #[Value.agg #[Value.pointer p], Value.pointer (some { block := w.heap.size, off := 0 }), Value.pointer (some { block := w.heap.size + 1, off := 0 }), Value.pointer (some { block := w.heap.size + 1 + 1, off := 0 }), Value.pointer (some ⟨Bx, 0, none⟩), Value.agg #[Value.pointer p], Value.int IntKind.i64 ((li T).length : Int), Value.bool false, undef, Value.agg #[Value.pointer p], Value.func (Fn.func 47) #[] #[Value.pointer (some { block := W1.heap.size, off := 0 })], .agg #[.int .i64 x.a, .int .i64 x.n, .int .i64 x.s], undef, undef, undef, undef, undef, undef, undef, undef, undef], defers := [] })
      (fun x a' _ X' Y row hs hg hr => by obtain ⟨Bx, h2, h3⟩ := hs; exact ⟨Bx, blk_own Bx 31 (fun (_ : Unit) => #[Value.int .i64 x.a, .int .i64 x.n, .int .i64 x.s]) () X' Y row h2 hg (fun r e => (hr r e).2), h3⟩)
      ?assign ?body ?done ?stop
    case assign =>
      rintro l pre ⟨xa, xn, xs⟩ W K ⟨⟨⟨v, hv, hrow, _⟩, hbR⟩, hB⟩ hK
      have HK := Lib.hid hK; clear hK
      have HI := Lib.hid (And.intro hv (And.intro hrow (And.intro hbR hB))); clear hv hrow hbR hB
      gi_wp2_with fail
      obtain ⟨hv, hrow, hbR, hB⟩ := HI.out
      exact HK.out _ _ ((KeepsOthers.alloc _ _).from _) ((Below.refl _ W).alloc hB.size _) ⟨⟨⟨v, hv.alloc _, hrow.alloc _, trivial⟩, hbR.alloc _⟩, hB.alloc hB.size _⟩ ⟨W.heap.size, Blk.new W _ 31, rfl⟩
    case body =>
      rintro l pre ⟨xa, xn, xs⟩ a' W hl ⟨r, hr⟩ ⟨⟨⟨v, hv, hrow, _⟩, hbR⟩, hB⟩ ⟨Bx, bX, rfl⟩ hlt
      dsimp only at bX
      have c0 := hv.cell
      have x0 : W.cell? ⟨Bx, 0, none⟩ = some (.int .i64 xa) := bX.cell 0
      have x1 : W.cell? ⟨Bx, 1, none⟩ = some (.int .i64 xn) := bX.cell 1
      have x2 : W.cell? ⟨Bx, 2, none⟩ = some (.int .i64 xs) := bX.cell 2
      have hsz := hB.size
      have N2 := Lib.hid (fun o => (hrow.alloc o))
      have C1 := Lib.hid (news3 W ⟨xa, xn, xs⟩)
      have HI := Lib.hid (And.intro hv (And.intro hrow (And.intro hbR hB))); clear hv hrow hbR hB bX hr
      gi_wp2_with (gi_at_builtin; refine wpListIn_append_own _ rfl _ _ 33 rfl w.heap.size 31 i0 _ 3 24 Try.underlying33 hi hz0 hz1 hz2 rfl (by decide) _ _ _ rfl (N2.out _) ⟨W.heap.size, 0, none⟩ 1 1 (cs [⟨xa, xn, xs⟩]) rfl rfl C1.out (one3 _) ?c3 ?c4 ?c5 ?_)
      case c3 => unfold maxLen; omega
      case c4 => omega
      case c5 => omega
      intro v' w1 hown' hgrow _
      obtain ⟨g', cap', rfl⟩ := ownsRow_succ hown'
      obtain ⟨hv, hrow, hbR, hB⟩ := HI.out
      obtain ⟨hv1, hv2, hr2, hk2, hb2⟩ := hv.appended (by decide) hrow hsz (by omega) hown' hgrow
      have hbR2 : Boxed (w1.setCell ⟨w.heap.size + 1 + 1, 0, none⟩ (.slice (some ⟨g', 0, none⟩) (pre.length + 1) cap')) (w.heap.size + 1) 33 (.slice none 0 0) := ((hbR.alloc _).kept hgrow (hbR.not_row (by decide) hrow)).other (by omega) _
      have hc1 := hv1.cell
      have hf1 := hv1.frozen
      have hc2 := hv2.cell
      have hlt' : ¬ (2000 : Int) < ((pre.length + 1 : Nat) : Int) := by omega
      have HX := Lib.hid (And.intro hv2 (And.intro hr2 (And.intro hk2 (And.intro hb2 hbR2))))
      have HY := Lib.hid hB
      clear hv1 hv2 hr2 hk2 hb2 hbR2 hv hrow hbR hB hown' hgrow HI N2 C1 c0 x0 x1 x2
      gi_wp2_with fail
      obtain ⟨hv2, hr2, hk2, hb2, hbR2⟩ := HX.out
      exact ⟨hk2.from _, hb2, ⟨⟨_, hv2, Row.append hr2⟩, hbR2⟩, HY.out.trans hb2⟩
    case done =>
      rintro D ys W hD rfl ⟨⟨⟨v, hv, hrow, _⟩, hbR⟩, hB⟩ hK
      have c0 := hv.cell
      have c1 := hbR.cell
      have f1 := hbR.frozen
      obtain ⟨ao, cap, rfl⟩ := sl_shape (Row.sl (L := li T) hrow)
      have HI := Lib.hid (And.intro hv (And.intro hrow (And.intro hbR (And.intro hB hK)))); clear hv hrow hbR hB hK
      gi_wp2_with fail
      obtain ⟨hv, hrow, hbR, hB, hK⟩ := HI.out
      have hne : D ≠ w.heap.size + 1 := by omega
      have hK' : (W.setCell ⟨w.heap.size + 1, 0, none⟩ (.slice ao (li T).length cap)).heap[D]? = some (.deferred (some [])) := (Below.heap_setCell _ _ _ D hne).trans hK
      have hb2 := hbR.set (.slice ao (li T).length cap)
      have hr2 := hrow.kept (grownBy_setCell' W (w.heap.size + 1) (.slice ao (li T).length cap)) (.inr (hbR.not_row (by decide) hrow).symm)
      refine ⟨by simp, .inl ⟨_, _, rfl, run_takeDeferred hK', ?_⟩⟩
      refine ⟨_, res21 _ _ (w.heap.size + 1) _ _ _ rfl (Boxed.kept hb2 (grownBy_putObj' _ D _) (fun e => hne (by cases e; rfl))).cell, _, rfl, Row.sl (ownsRow_putObj hr2 _ hK' rfl), ?_⟩
      exact (hB.setCell (p := ⟨w.heap.size + 1, 0, none⟩) (by simp) _).trans (belowK_b (w := w) (Nat.le_refl _) _ D _ _ (by omega) hK' rfl rfl)
    case stop =>
      rintro D c pre W _ _ h _
      exact h.elim

theorem all_any (p : Option Addr) (T : BT X) (w : World) (hT : At w p T) (hlen : (li T).length ≤ 2000) :
    Calls Try.prog 21 #[.agg #[.pointer p]] w fun e w' => ∃ v, e = .returned v ∧ Sl w' v (li T) ∧ Below w.heap.size w w' :=
  callsIn_wide.1 (all_core Fence.wide 5 (by omega) rfl (fun _ => trivial) rfl (fun _ _ _ _ _ h => callsIn_wide.2 h) all_stops p T w hT hlen)

end Go.Proofs.Ytdfdnimledcfbaa
