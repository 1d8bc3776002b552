/- ExtreeStops returns true for every script and every number. Conditions: none. -/
import Derived.Test.YtdfdnimledcfbaaLawBuild
namespace Go.Proofs.Ytdfdnimledcfbaa
open Go.RowKit Go.Shelf
open Go.Deep (BT)
attribute [local go_sem] Oper.semAt_some

theorem Sl.take {W : World} {ao : Option Addr} {cap : Nat} {L : List X} (h : Sl W (.slice ao L.length cap) L) (k : Nat) (hk : k ≤ L.length) : Sl W (.slice ao k cap) (L.take k) := by
  rcases h with ⟨_, rfl⟩ | ⟨b, o, c, h1, h2, h3, h4⟩
  · obtain rfl : k = 0 := by simpa using hk
    exact .inl ⟨⟨_, _, rfl⟩, rfl⟩
  · simp only [Value.slice.injEq, true_and] at h1
    obtain ⟨rfl, rfl⟩ := h1
    have e : (L.take k).length = k := by simp; omega
    refine .inr ⟨b, o, cap, by rw [e], by omega, h3, fun i x hx => h4 i x ?_⟩
    rw [List.getElem?_take] at hx
    split at hx
    · exact hx
    · cases hx

/-- The outcome of the law's last calls. -/
def RetN (W : World) (L : List X) (e : Ending) (w' : World) : Prop := ∃ a c, e = .returned (.slice a L.length c) ∧ Hid (Sl w' (.slice a L.length c) L) ∧ Below W.heap.size W w'

theorem res6 (tmps : Array Value) (W : World) (b : Bool) (h : tmps.getD 4 undef = .bool b) : (results Try.f6 tmps).run Try.prog W = .ok (.bool b) W := by
  have h0 : Try.f6.results = #[.tmp 4] := rfl
  have h2 : tmps[4]?.getD undef = .bool b := by simpa using h
  simp only [results, h0]
  go_simp

set_option maxRecDepth 100000 in
set_option maxHeartbeats 20000000 in
theorem stops_core (F : Fence) (n : Nat) (hn : 3 ≤ n) (hd : F.depth = none) (hfn : ∀ k, F.fn k) (hro : F.round = none) (hC : ∀ n f args w R, Calls Try.prog f args w R → CallsIn F n Try.prog f args w R)
    (hW : ∀ n (c : Code) Q a w, c.wp Try.prog Q a w → c.wpIn F n Try.prog Q a w)
    (hS : ∀ (n : Nat) (Bt n₀ : Nat) (p0 : Option Addr) (T : BT X) (w : World), Bt < w.heap.size → n₀ ≤ w.heap.size → w.cell? ⟨Bt, 0, none⟩ = some (.pointer p0) → IsT n₀ w p0 T →
      SeqStopsK F n Try.prog 47 #[.pointer (some ⟨Bt, 0, none⟩)] (fun x : X => #[.agg #[.int .i64 x.a, .int .i64 x.n, .int .i64 x.s]]) (Below n₀) (fun ys => ys = li T) (fun pre => pre <+: li T) (li T).length w)
    (v : Value) (S : List St) (st : Int) (hst : 0 ≤ st ∧ st ≤ 255) (w : World) (hs : SS w v S) (hm : S.length ≤ 9223372036854775807) :
    CallsIn F n Try.prog 6 #[v, .int .u8 st] w fun e w' => e = .returned (.bool true) ∧ Below w.heap.size w w' := by
  have HS := Lib.hid hs
  obtain ⟨ao, cap, rfl⟩ := hs.shape
  clear hs
  obtain ⟨sn, rfl⟩ : ∃ sn : Nat, st = (sn : Int) := ⟨st.toNat, by omega⟩
  obtain ⟨hsp0, hsp1⟩ := hst
  obtain ⟨i0, hi, hz0, hz1, hz2⟩ := info_parts Try.info31
  have hdd : ∀ k : Nat, (F.depth.isSome = true → 1 ≤ k) := fun k h => by rw [hd] at h; cases h
  refine callsIn_of_wp_marks Try.func6 rfl (hfn 6) ?_ hro
  simp only [Try.ntmps6, List.size_toArray, List.length_cons, List.length_nil, Nat.reduceAdd, Nat.reduceSub, Array.replicate_succ, Array.replicate_zero, List.push_toArray, List.append_toArray, List.nil_append, List.cons_append]
  have HC := Lib.hid hC; clear hC
  have HQ := Lib.hid hS; clear hS
  have HW := Lib.hid hW; clear hW
  gi_wp2_with fail
  obtain ⟨W0, hW0, hs0, hb0, b3⟩ : ∃ W0, W0 = w.alloc (Obj.cells #[.int .u8 (sn : Int)] 5) ∧ W0.heap.size = w.heap.size + 1 ∧ Below w.heap.size w W0 ∧ Boxed W0 w.heap.size 5 (.int .u8 (sn : Int)) :=
    ⟨_, rfl, by simp, (Below.refl _ w).alloc (Nat.le_refl _) _, Boxed.new w 5 _⟩
  rw [← hW0]
  clear hW0
  refine (HC.out _ _ _ _ _ (awake_any _)).mono ?_
  rintro e w1 ⟨rfl, hb1⟩
  have b31 : Boxed w1 w.heap.size 5 (.int .u8 (sn : Int)) := Blk.keep b3 hb1
  have c1' : Below w.heap.size w w1 := hb0.trans (hb1.mono hb0.size)
  by_cases hlen : 40 < S.length
  · gi_wp2_with fail
    exact ⟨_, res6 _ _ _ rfl, rfl, c1'⟩
  · gi_wp2_with fail
    refine (HC.out _ _ _ _ _ (lawbuild_any _ S w1 (HS.out.below c1') (by omega))).mono ?_
    rintro e w2 ⟨q, T, u, rfl, hT, av, hv, hnf, hu, hl, hb2⟩
    have b32 : Boxed w2 w.heap.size 5 (.int .u8 (sn : Int)) := Blk.keep b31 hb2
    have BB := Lib.hid (show Blk w2 w.heap.size #[.int .u8 (sn : Int)] 5 from b32)
    have c2 : Below w.heap.size w w2 := c1'.trans (hb2.mono c1'.size)
    have HU := Lib.hid hu
    obtain ⟨ua, uc, rfl⟩ := sl_shape hu
    have HT : Hid (At w2 q T) := Lib.hid hT
    have hl80 : (li T).length ≤ 80 := by omega
    clear hu hT av hv hnf hl b3 b31 hb0 hb1 hb2 c1' hs0
    gi_wp2_with fail
    obtain ⟨W3, hW3, hs3, hb3, b5, b33⟩ : ∃ W3, W3 = w2.alloc (Obj.cells #[.pointer q] 26) ∧ W3.heap.size = w2.heap.size + 1 ∧ Below w2.heap.size w2 W3 ∧ Boxed W3 w2.heap.size 26 (.pointer q) ∧ Boxed W3 w.heap.size 5 (.int .u8 (sn : Int)) :=
      ⟨_, rfl, by simp, (Below.refl _ w2).alloc (Nat.le_refl _) _, Boxed.new w2 26 _, b32.alloc _⟩
    rw [← hW3]
    clear hW3
    refine (HC.out _ _ _ _ _ (len_any q T W3 (HT.out.below hb3))).mono ?_
    rintro e w4 ⟨rfl, hb4⟩
    have b54 : Boxed w4 w2.heap.size 26 (.pointer q) := Blk.keep b5 hb4
    have b34 : Boxed w4 w.heap.size 5 (.int .u8 (sn : Int)) := Blk.keep b33 hb4
    have c24 : Below w2.heap.size w2 w4 := hb3.trans (hb4.mono hb3.size)
    have hsz4 : w2.heap.size + 1 ≤ w4.heap.size := by have := hb4.size; omega
    have hlt3 : w.heap.size < w2.heap.size := Blk.lt b32
    clear b5 b33 hb3 hb4 hs3 b32
    have ct := b54.cell
    have BX := Lib.hid (And.intro b54 b34)
    clear b54 b34
    by_cases hz : (li T).length = 0
    · have hz' : ((li T).length : Int) = 0 := by omega
      clear hz hl80
      gi_wp2_with fail
      exact ⟨_, res6 _ _ _ rfl, rfl, c2.trans (c24.mono c2.size)⟩
    · have hz' : ¬ ((li T).length : Int) = 0 := by omega
      have ct5 := (BX.out.1.alloc (Obj.cells #[.slice none 0 0] 33)).cell
      gi_wp2_with fail
      obtain ⟨W5, hW5, hs5, hb5, b75, b55, b35⟩ : ∃ W5, W5 = w4.alloc (Obj.cells #[.slice none 0 0] 33) ∧ W5.heap.size = w4.heap.size + 1 ∧ Below w4.heap.size w4 W5 ∧ Boxed W5 w4.heap.size 33 (.slice none 0 0) ∧ Boxed W5 w2.heap.size 26 (.pointer q) ∧ Boxed W5 w.heap.size 5 (.int .u8 (sn : Int)) :=
        ⟨_, rfl, by simp, (Below.refl _ w4).alloc (Nat.le_refl _) _, Boxed.new w4 33 _, BX.out.1.alloc _, BX.out.2.alloc _⟩
      rw [← hW5]
      clear hW5 ct ct5 BX
      have ct := b55.cell
      have BX := Lib.hid (And.intro b75 (And.intro b55 b35))
      clear b75 b55 b35
      refine (HC.out _ _ _ _ _ (all_in q W5)).mono ?_
      rintro e W6 ⟨rfl, hW6⟩
      have hs6 : W6.heap.size = W5.heap.size + 1 := by rw [hW6]; simp
      have h56 : Below W5.heap.size W5 W6 := by rw [hW6]; exact (Below.refl _ W5).alloc (Nat.le_refl _) _
      have bN : Boxed W6 W5.heap.size 26 (.pointer q) := by rw [hW6]; exact Boxed.new W5 26 _
      clear hW6 ct
      obtain ⟨b75, b55, b35⟩ := BX.out
      have b76 : Boxed W6 w4.heap.size 33 (.slice none 0 0) := Blk.keep b75 h56
      have b56 : Boxed W6 w2.heap.size 26 (.pointer q) := Blk.keep b55 h56
      have b36 : Boxed W6 w.heap.size 5 (.int .u8 (sn : Int)) := Blk.keep b35 h56
      have c26 : Below w2.heap.size w2 W6 := (c24.trans (hb5.mono c24.size)).trans (h56.mono (by omega))
      have hT6 : IsT w2.heap.size W6 q T := IsT.below c26 (Nat.le_refl _) HT.out
      clear b75 b55 b35 BX HC
      gi_wp2_with fail
      have hS := HQ.out
      clear HQ
      have hs6' : w2.heap.size ≤ W6.heap.size := by omega
      have bN' : Boxed W6 (w4.heap.size + 1) 26 (.pointer q) := by rw [← hs5]; exact bN
      refine wpIn_rangeFunc_ownH hro (by omega) (gf := 47) (lb := #[.pointer (some ⟨w4.heap.size + 1, 0, none⟩)]) rfl (hfn 47) (enters_of Try.func47 (by kernel_rfl) rfl)
        (hS (n - 1) (w4.heap.size + 1) w2.heap.size q T W6 (by omega) hs6' bN'.cell hT6) belowK_t (belowK_b hs6') (Below.refl _ _) (fun _ => rfl)
        (fun pre W => ((∃ v, Boxed W w4.heap.size 33 v ∧ W.ownsRow w2.heap.size 31 3 v pre.length (cs pre) ∧ pre.length ≤ sn) ∧ Boxed W w2.heap.size 26 (.pointer q)) ∧ Below w2.heap.size w2 W)
        (fun c pre W => ((∃ v, Boxed W w4.heap.size 33 v ∧ W.ownsRow w2.heap.size 31 3 v pre.length (cs pre) ∧ (pre.length = sn + 1 ∧ c = .exit 0)) ∧ Boxed W w2.heap.size 26 (.pointer q)) ∧ Below w2.heap.size w2 W)
        (OwnFrom.and (OwnFrom.and (Own.from (holdsRow_own w2.heap.size w4.heap.size 33 31 3 (fun pre : List X => pre.length) cs (fun pre _ => pre.length ≤ sn)) _) (Own.from (boxed_own w2.heap.size 26 (fun _ => Value.pointer q)) _)) (ownFrom_below (Nat.le_refl _) hs6'))
        (fun c => OwnFrom.and (OwnFrom.and (Own.from (holdsRow_own w2.heap.size w4.heap.size 33 31 3 (fun pre : List X => pre.length) cs (fun pre _ => pre.length = sn + 1 ∧ c = .exit 0)) _) (Own.from (boxed_own w2.heap.size 26 (fun _ => Value.pointer q)) _)) (ownFrom_below (Nat.le_refl _) hs6'))
        ⟨⟨⟨_, b76, World.ownsRow_nil _ _ _ _, Nat.zero_le _⟩, b56⟩, c26⟩
        (fun x a' W => ∃ Bx, Blk W Bx #[.int .i64 x.a, .int .i64 x.n, .int .i64 x.s] 31 ∧ a' = { tmps := #[Value.slice ao S.length cap, Value.int IntKind.u8 ↑sn, undef, Value.pointer (some { block := w.heap.size, off := 0 }), Value.bool false, Value.pointer (some { block := w2.heap.size, off := 0 }), Value.slice ua (li T).length uc, Value.pointer (some { block := w4.heap.size, off := 0 }), Value.pointer (some ⟨Bx, 0, none⟩), Value.bool true, Value.bool false, Value.slice ao S.length cap, Value.int IntKind.i64 ↑S.length, Value.bool (decide (40 < (S.length : Int))), Value.tuple #[Value.agg #[Value.pointer q], Value.slice ua (li T).length uc], Value.slice ao S.length cap, Value.tuple #[Value.agg #[Value.pointer q], Value.slice ua (li T).length uc], Value.agg #[Value.pointer q], Value.slice ua (li T).length uc, Value.agg #[Value.pointer q], Value.int IntKind.i64 ↑(li T).length, Value.slice ua (li T).length uc, Value.int IntKind.i64 ↑(li T).length, Value.bool false, Value.slice ua (li T).length uc, Value.int IntKind.i64 ↑(li T).length, Value.bool false, Value.agg #[Value.pointer q], Value.func (Fn.func 47) #[] #[Value.pointer (some { block := w4.heap.size + 1, off := 0 })], .agg #[.int .i64 x.a, .int .i64 x.n, .int .i64 x.s], undef, undef, undef, undef, undef, undef, undef, undef, undef, undef, undef, undef, undef, undef, undef, undef, undef, undef, undef, undef, undef, undef, undef, undef, undef], defers := [] })
        (fun x a' _ X' Y row hs hg hr => by obtain ⟨Bx, h2, h3⟩ := hs; exact ⟨Bx, blk_own Bx 31 (fun (_ : Unit) => #[Value.int .i64 x.a, .int .i64 x.n, .int .i64 x.s]) () X' Y row h2 hg (fun r e => (hr r e).2), h3⟩)
        ?assign ?body ?done ?stop
      case assign =>
        rintro l pre ⟨xa, xn, xs⟩ W K ⟨⟨⟨v, hv, hrow, hle⟩, hbR⟩, hB⟩ hK
        have HK := Lib.hid hK; clear hK
        have HI := Lib.hid (And.intro hv (And.intro hrow (And.intro hbR hB))); clear hv hrow hbR hB
        gi_wp2_with fail
        obtain ⟨hv, hrow, hbR, hB⟩ := HI.out
        exact HK.out _ _ ((KeepsOthers.alloc _ _).from _) ((Below.refl _ W).alloc hB.size _) ⟨⟨⟨v, hv.alloc _, hrow.alloc _, hle⟩, hbR.alloc _⟩, hB.alloc hB.size _⟩ ⟨W.heap.size, Blk.new W _ 31, rfl⟩
      case body =>
        rintro l pre ⟨xa, xn, xs⟩ a' W hl ⟨r, hr⟩ ⟨⟨⟨v, hv, hrow, hle⟩, hbR⟩, hB⟩ ⟨Bx, bX, rfl⟩ hlt
        dsimp only at bX
        have c0 := hv.cell
        have x0 : W.cell? ⟨Bx, 0, none⟩ = some (.int .i64 xa) := bX.cell 0
        have x1 : W.cell? ⟨Bx, 1, none⟩ = some (.int .i64 xn) := bX.cell 1
        have x2 : W.cell? ⟨Bx, 2, none⟩ = some (.int .i64 xs) := bX.cell 2
        have hsz := hB.size
        have N2 := Lib.hid (fun o => (hrow.alloc o))
        have C1 := Lib.hid (news3 W ⟨xa, xn, xs⟩)
        have HI := Lib.hid (And.intro hv (And.intro hrow (And.intro hbR hB))); clear hv hrow hbR hB bX hr
        gi_wp2_with (gi_at_builtin; refine wpListIn_append_own _ rfl _ _ 33 rfl w2.heap.size 31 i0 _ 3 24 Try.underlying33 hi hz0 hz1 hz2 rfl (by decide) _ _ _ rfl (N2.out _) ⟨W.heap.size, 0, none⟩ 1 1 (cs [⟨xa, xn, xs⟩]) rfl rfl C1.out (one3 _) ?c3 ?c4 ?c5 ?_)
        case c3 => unfold maxLen; omega
        case c4 => omega
        case c5 => omega
        intro v' w1 hown' hgrow _
        obtain ⟨g', cap', rfl⟩ := ownsRow_succ hown'
        obtain ⟨hv, hrow, hbR, hB⟩ := HI.out
        obtain ⟨hv1, hv2, hr2, hk2, hb2⟩ := hv.appended (by decide) hrow hsz (by omega) hown' hgrow
        have hbR2 : Boxed (w1.setCell ⟨w4.heap.size, 0, none⟩ (.slice (some ⟨g', 0, none⟩) (pre.length + 1) cap')) w2.heap.size 26 (.pointer q) := ((hbR.alloc _).kept hgrow (hbR.not_row (by decide) hrow)).other (by omega) _
        have hc1 := hv1.cell
        have hf1 := hv1.frozen
        have hc2 := hv2.cell
        have h3 : Boxed W w.heap.size 5 (.int .u8 (sn : Int)) := (BB.out.keep hB)
        have hc3 : (w1.setCell ⟨w4.heap.size, 0, none⟩ (.slice (some ⟨g', 0, none⟩) (pre.length + 1) cap')).cell? ⟨w.heap.size, 0, none⟩ = some (.int .u8 (sn : Int)) := (BB.out.keep (hB.trans hb2)).cell 0
        have HX := Lib.hid (And.intro hv2 (And.intro hr2 (And.intro hk2 (And.intro hb2 hbR2))))
        have HY := Lib.hid hB
        clear hv1 hv2 hr2 hk2 hb2 hbR2 hv hrow hbR hB hown' hgrow HI N2 C1 c0 x0 x1 x2 h3
        by_cases hgt : sn < pre.length + 1
        · have hgt' : (sn : Int) < ((pre.length + 1 : Nat) : Int) := by omega
          gi_wp2_with fail
          obtain ⟨hv2, hr2, hk2, hb2, hbR2⟩ := HX.out
          exact ⟨hk2.from _, ⟨⟨_, hv2, Row.append hr2, by simp; omega, rfl⟩, hbR2⟩, HY.out.trans hb2⟩
        · have hgt' : ¬ (sn : Int) < ((pre.length + 1 : Nat) : Int) := by omega
          gi_wp2_with fail
          obtain ⟨hv2, hr2, hk2, hb2, hbR2⟩ := HX.out
          exact ⟨hk2.from _, hb2, ⟨⟨_, hv2, Row.append hr2, by simp; omega⟩, hbR2⟩, HY.out.trans hb2⟩
      case done =>
        rintro D ys W hD rfl ⟨⟨⟨v, hv, hrow, hle⟩, hbR⟩, hB⟩ hK
        have c0 := hv.cell
        have c1 := hbR.cell
        have c3 : W.cell? ⟨w.heap.size, 0, none⟩ = some (.int .u8 (sn : Int)) := (BB.out.keep hB).cell 0
        obtain ⟨ao1, cap1, rfl⟩ := sl_shape (Row.sl (L := li T) hrow)
        have HI := Lib.hid (And.intro hv (And.intro hrow (And.intro hbR (And.intro hB hK)))); clear hv hrow hbR hB hK
        obtain ⟨M, hMd⟩ : ∃ M : Nat, M = (li T).length := ⟨_, rfl⟩
        have HP : Hid (Sl W (.slice ao1 M cap1) ((li T).take M)) := Lib.hid (by rw [hMd, List.take_length]; exact Row.sl HI.out.2.1)
        rw [← hMd] at c0
        have hmin : (if (sn : Int) + 1 < ((li T).length : Int) then (sn : Int) + 1 else ((li T).length : Int)) = (M : Int) := by split <;> omega
        have hMd' := Lib.hid hMd
        clear hMd
        obtain ⟨b, o, x0, rfl, _, _, _, _⟩ := (HU.out.below HI.out.2.2.2.1).at (i := 0) (by omega)
        have hM1 : M ≤ (li T).length := by rw [hMd'.out]; exact Nat.le_refl _
        have hcap : (li T).length ≤ uc := by
          rcases HU.out with ⟨_, h⟩ | ⟨_, _, _, h1, h2, _⟩
          · rw [h] at hz; simp at hz
          · simp only [Value.slice.injEq] at h1; omega
        have hM0 : (0 : Int) ≤ (M : Int) := by omega
        have hM2 : (M : Int) ≤ (uc : Int) := by omega
        have SM : Hid (∀ w', Below W.heap.size W w' → Calls Try.prog 20 #[.slice ao1 M cap1, .slice (some ⟨b, o, none⟩) M uc] w' fun e w3 => e = .returned (.bool true) ∧ Below W.heap.size W w3) := Lib.hid fun w' hw => by
          have hz1 := (HU.out.below HI.out.2.2.2.1).take M hM1
          exact (same_any _ _ ((li T).take M) w' (HP.out.below hw) (hz1.below hw) (by simp; omega)).mono fun e w3 ⟨h1, h2⟩ => ⟨h1, hw.trans (h2.mono hw.size)⟩
        have AL : Hid (∀ w', Below W.heap.size W w' → Calls Try.prog 21 #[.agg #[.pointer q]] w' (RetN W (li T))) := Lib.hid fun w' hw => by
          refine (all_any q T w' (HT.out.below (HI.out.2.2.2.1.trans (hw.mono HI.out.2.2.2.1.size))) (by omega)).mono ?_
          rintro e w3 ⟨v, rfl, h1, h2⟩
          obtain ⟨a, c, rfl⟩ := sl_shape h1
          exact ⟨a, c, rfl, Lib.hid h1, hw.trans (h2.mono hw.size)⟩
        have SN : Hid (∀ w' a c, Sl w' (.slice a (li T).length c) (li T) → Below W.heap.size W w' → Calls Try.prog 20 #[.slice a (li T).length c, .slice (some ⟨b, o, none⟩) (li T).length uc] w' fun e w3 => e = .returned (.bool true) ∧ Below W.heap.size W w3) := Lib.hid fun w' a c h hw =>
          (same_any _ _ (li T) w' h ((HU.out.below HI.out.2.2.2.1).below hw) (by omega)).mono fun e w3 ⟨h1, h2⟩ => ⟨h1, hw.trans (h2.mono hw.size)⟩
        have wr1 : IntKind.i64.wrap (sn : Int) = (sn : Int) := IntWalk.i64_in _ (by omega)
        have wr2 : IntKind.i64.wrap ((sn : Int) + 1) = (sn : Int) + 1 := IntWalk.i64_in _ (by omega)
        have huc : ¬ uc = 0 := by omega
        have hB4 : w4.heap.size < W.heap.size := Blk.lt HI.out.1
        have hB2 : w2.heap.size < W.heap.size := Blk.lt HI.out.2.2.1
        have hB3 : w.heap.size < W.heap.size := by omega
        have KS : Hid (∀ w', Below W.heap.size W w' → (Below W.heap.size W w' ∧ w'.cell? ⟨w4.heap.size, 0, none⟩ = some (.slice ao1 M cap1) ∧ w'.cell? ⟨w2.heap.size, 0, none⟩ = some (.pointer q) ∧ w'.cell? ⟨w.heap.size, 0, none⟩ = some (.int .u8 (sn : Int)))) :=
          fun w' h => ⟨h, (h.cell (p := ⟨w4.heap.size, 0, none⟩) hB4).trans c0, (h.cell (p := ⟨w2.heap.size, 0, none⟩) hB2).trans c1, (h.cell (p := ⟨w.heap.size, 0, none⟩) hB3).trans c3⟩
        gi_wp2_with fail
        refine HW.out _ _ _ _ _ ?_
        go_region_held3 (fun w' => Below W.heap.size W w' ∧ w'.cell? ⟨w4.heap.size, 0, none⟩ = some (.slice ao1 M cap1) ∧ w'.cell? ⟨w2.heap.size, 0, none⟩ = some (.pointer q) ∧ w'.cell? ⟨w.heap.size, 0, none⟩ = some (.int .u8 (sn : Int)))
          ((refine KS.out _ ?_; first | exact hb9 | exact hb8 | exact hb7 | exact (Below.refl _ _).drew))
          (first | (have hh8 := h8.out; go_at_call 20; refine Calls.mono (SN.out _ _ _ hh8 hb8) ?_; clear hh8; rintro e w9 ⟨rfl, hb9⟩) | (have hh7 := hb7; go_at_call 21; refine Calls.mono (AL.out _ hh7) ?_; clear hh7; rintro e w8 ⟨a8, c8, rfl, h8, hb8⟩) | (go_at_call 20; refine Calls.mono (SM.out _ (by first | exact (Below.refl _ _).drew)) ?_; rintro e w7 ⟨rfl, hb7⟩))
        gi_wp2_with fail
        obtain ⟨hv, hrow, hbR, hB, hK⟩ := HI.out
        have hDlt : D < W.heap.size := (Array.getElem?_eq_some_iff.1 hK).1
        have hK' : w9.heap[D]? = some (.deferred (some [])) := (hb9.block D hDlt).trans hK
        refine ⟨by simp, .inl ⟨_, _, rfl, run_takeDeferred hK', ?_⟩⟩
        have b2W := c2.trans (hB.mono c2.size)
        exact ⟨_, res6 _ _ _ rfl, rfl, (b2W.trans (hb9.mono b2W.size)).trans (belowK_b (w := w) (Nat.le_refl _) _ D _ _ (by omega) hK' rfl rfl)⟩
      case stop =>
        rintro D c pre W hD hpre ⟨⟨⟨v, hv, hrow, hle, rfl⟩, hbR⟩, hB⟩ hK
        have c0 := hv.cell
        have c1 := hbR.cell
        have c3 : W.cell? ⟨w.heap.size, 0, none⟩ = some (.int .u8 (sn : Int)) := (BB.out.keep hB).cell 0
        obtain ⟨ao1, cap1, rfl⟩ := sl_shape (Row.sl (L := pre) hrow)
        have HI := Lib.hid (And.intro hv (And.intro hrow (And.intro hbR (And.intro hB hK)))); clear hv hrow hbR hB hK
        have hpl := hpre.length_le
        obtain ⟨M, hMd⟩ : ∃ M : Nat, M = pre.length := ⟨_, rfl⟩
        have HP : Hid (Sl W (.slice ao1 M cap1) ((li T).take M)) := Lib.hid (by rw [hMd, ← List.prefix_iff_eq_take.1 hpre]; exact Row.sl HI.out.2.1)
        rw [← hMd] at c0 hle hpl
        have hmin : (if (sn : Int) + 1 < ((li T).length : Int) then (sn : Int) + 1 else ((li T).length : Int)) = (M : Int) := by split <;> omega
        clear hMd hpre hle
        obtain ⟨b, o, x0, rfl, _, _, _, _⟩ := (HU.out.below HI.out.2.2.2.1).at (i := 0) (by omega)
        have hM1 : M ≤ (li T).length := hpl
        have hcap : (li T).length ≤ uc := by
          rcases HU.out with ⟨_, h⟩ | ⟨_, _, _, h1, h2, _⟩
          · rw [h] at hz; simp at hz
          · simp only [Value.slice.injEq] at h1; omega
        have hM0 : (0 : Int) ≤ (M : Int) := by omega
        have hM2 : (M : Int) ≤ (uc : Int) := by omega
        have SM : Hid (∀ w', Below W.heap.size W w' → Calls Try.prog 20 #[.slice ao1 M cap1, .slice (some ⟨b, o, none⟩) M uc] w' fun e w3 => e = .returned (.bool true) ∧ Below W.heap.size W w3) := Lib.hid fun w' hw => by
          have hz1 := (HU.out.below HI.out.2.2.2.1).take M hM1
          exact (same_any _ _ ((li T).take M) w' (HP.out.below hw) (hz1.below hw) (by simp; omega)).mono fun e w3 ⟨h1, h2⟩ => ⟨h1, hw.trans (h2.mono hw.size)⟩
        have AL : Hid (∀ w', Below W.heap.size W w' → Calls Try.prog 21 #[.agg #[.pointer q]] w' (RetN W (li T))) := Lib.hid fun w' hw => by
          refine (all_any q T w' (HT.out.below (HI.out.2.2.2.1.trans (hw.mono HI.out.2.2.2.1.size))) (by omega)).mono ?_
          rintro e w3 ⟨v, rfl, h1, h2⟩
          obtain ⟨a, c, rfl⟩ := sl_shape h1
          exact ⟨a, c, rfl, Lib.hid h1, hw.trans (h2.mono hw.size)⟩
        have SN : Hid (∀ w' a c, Sl w' (.slice a (li T).length c) (li T) → Below W.heap.size W w' → Calls Try.prog 20 #[.slice a (li T).length c, .slice (some ⟨b, o, none⟩) (li T).length uc] w' fun e w3 => e = .returned (.bool true) ∧ Below W.heap.size W w3) := Lib.hid fun w' a c h hw =>
          (same_any _ _ (li T) w' h ((HU.out.below HI.out.2.2.2.1).below hw) (by omega)).mono fun e w3 ⟨h1, h2⟩ => ⟨h1, hw.trans (h2.mono hw.size)⟩
        have wr1 : IntKind.i64.wrap (sn : Int) = (sn : Int) := IntWalk.i64_in _ (by omega)
        have wr2 : IntKind.i64.wrap ((sn : Int) + 1) = (sn : Int) + 1 := IntWalk.i64_in _ (by omega)
        have huc : ¬ uc = 0 := by omega
        have hB4 : w4.heap.size < W.heap.size := Blk.lt HI.out.1
        have hB2 : w2.heap.size < W.heap.size := Blk.lt HI.out.2.2.1
        have hB3 : w.heap.size < W.heap.size := by omega
        have KS : Hid (∀ w', Below W.heap.size W w' → (Below W.heap.size W w' ∧ w'.cell? ⟨w4.heap.size, 0, none⟩ = some (.slice ao1 M cap1) ∧ w'.cell? ⟨w2.heap.size, 0, none⟩ = some (.pointer q) ∧ w'.cell? ⟨w.heap.size, 0, none⟩ = some (.int .u8 (sn : Int)))) :=
          fun w' h => ⟨h, (h.cell (p := ⟨w4.heap.size, 0, none⟩) hB4).trans c0, (h.cell (p := ⟨w2.heap.size, 0, none⟩) hB2).trans c1, (h.cell (p := ⟨w.heap.size, 0, none⟩) hB3).trans c3⟩
        gi_wp2_with fail
        refine HW.out _ _ _ _ _ ?_
        go_region_held3 (fun w' => Below W.heap.size W w' ∧ w'.cell? ⟨w4.heap.size, 0, none⟩ = some (.slice ao1 M cap1) ∧ w'.cell? ⟨w2.heap.size, 0, none⟩ = some (.pointer q) ∧ w'.cell? ⟨w.heap.size, 0, none⟩ = some (.int .u8 (sn : Int)))
          ((refine KS.out _ ?_; first | exact hb9 | exact hb8 | exact hb7 | exact (Below.refl _ _).drew))
          (first | (have hh8 := h8.out; go_at_call 20; refine Calls.mono (SN.out _ _ _ hh8 hb8) ?_; clear hh8; rintro e w9 ⟨rfl, hb9⟩) | (have hh7 := hb7; go_at_call 21; refine Calls.mono (AL.out _ hh7) ?_; clear hh7; rintro e w8 ⟨a8, c8, rfl, h8, hb8⟩) | (go_at_call 20; refine Calls.mono (SM.out _ (by first | exact (Below.refl _ _).drew)) ?_; rintro e w7 ⟨rfl, hb7⟩))
        gi_wp2_with fail
        obtain ⟨hv, hrow, hbR, hB, hK⟩ := HI.out
        have hDlt : D < W.heap.size := (Array.getElem?_eq_some_iff.1 hK).1
        have hK' : w9.heap[D]? = some (.deferred (some [])) := (hb9.block D hDlt).trans hK
        refine ⟨by simp, .inl ⟨_, _, rfl, run_takeDeferred hK', ?_⟩⟩
        have b2W := c2.trans (hB.mono c2.size)
        exact ⟨_, res6 _ _ _ rfl, rfl, (b2W.trans (hb9.mono b2W.size)).trans (belowK_b (w := w) (Nat.le_refl _) _ D _ _ (by omega) hK' rfl rfl)⟩

theorem stops_walk (v : Value) (S : List St) (st : Int) (hst : 0 ≤ st ∧ st ≤ 255) (w : World) (hs : SS w v S) (hm : S.length ≤ 9223372036854775807) :
    Calls Try.prog 6 #[v, .int .u8 st] w fun e w' => e = .returned (.bool true) ∧ Below w.heap.size w w' :=
  callsIn_wide.1 (stops_core Fence.wide 5 (by omega) rfl (fun _ => trivial) rfl (fun _ _ _ _ _ h => callsIn_wide.2 h) (fun _ _ _ _ _ h => wpIn_wide.2 h) all_stops v S st hst w hs hm)

end Go.Proofs.Ytdfdnimledcfbaa
