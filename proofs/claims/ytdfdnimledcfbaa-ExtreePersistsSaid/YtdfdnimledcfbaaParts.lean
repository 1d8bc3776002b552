/- What the reference's parts returns: the parts of a list between two blocks, in a new slice. Conditions: the list is valid. -/
import Derived.Test.YtdfdnimledcfbaaRef2
namespace Go.Proofs.Ytdfdnimledcfbaa
open Go.RowKit
open Go.Deep (BT)

/-- The part of an extent, as a list. -/
def pr1 (f t : Int) (x : X) : List X := if max x.a f < min (x.a + x.n) t then [prt x f t] else []
/-- The parts of a list. -/
def prL (f t : Int) (l : List X) : List X := l.flatMap (pr1 f t)

theorem pr1_len (f t : Int) (x : X) : (pr1 f t x).length ≤ 1 := by unfold pr1; split <;> simp
theorem prL_len (f t : Int) (l : List X) : (prL f t l).length ≤ l.length := by
  induction l with
  | nil => simp [prL]
  | cons x l ih =>
    have := pr1_len f t x
    simp only [prL, List.flatMap_cons, List.length_append, List.length_cons] at *
    omega

theorem prL_snoc {f t : Int} {l : List X} {k : Nat} {x : X} (hx : l[k]? = some x) : prL f t (l.take (k + 1)) = prL f t (l.take k) ++ pr1 f t x := by
  have hlt : k < l.length := (List.getElem?_eq_some_iff.1 hx).1
  rw [List.take_succ_eq_append_getElem hlt, (List.getElem?_eq_some_iff.1 hx).2]
  simp [prL]

theorem prL_congr {f t : Int} {l : List X} {g : X → List X} (h : ∀ x ∈ l, pr1 f t x = g x) : prL f t l = l.flatMap g := by
  induction l with
  | nil => rfl
  | cons x l ih =>
    have h1 := h x (by simp)
    have h2 := ih (fun y hy => h y (by simp [hy]))
    simp only [prL, List.flatMap_cons] at *
    rw [h1, h2]

theorem prL_hd {t : Int} {l : List X} (h : vld l) : prL 0 t l = hdL t l := by
  refine prL_congr (fun x hx => ?_)
  have hx := h.1 x hx
  unfold okx at hx
  unfold pr1 hd prt
  by_cases c1 : t ≤ x.a
  · rw [if_neg (by omega), if_pos c1]
  · rw [if_pos (by omega), if_neg c1]
    by_cases c2 : x.a + x.n ≤ t
    · rw [if_pos c2]; congr 1; exact X.ext (by dsimp only; omega) (by dsimp only; omega) (by dsimp only; omega)
    · rw [if_neg c2]; congr 1; exact X.ext (by dsimp only; omega) (by dsimp only; omega) (by dsimp only; omega)

theorem prL_tl {t : Int} {l : List X} (h : vld l) : prL t 65536 l = tlL t l := by
  refine prL_congr (fun x hx => ?_)
  have hx := h.1 x hx
  unfold okx at hx
  unfold pr1 tl prt
  by_cases c1 : t ≤ x.a
  · rw [if_pos (by omega), if_pos c1]; congr 1; exact X.ext (by dsimp only; omega) (by dsimp only; omega) (by dsimp only; omega)
  · rw [if_neg c1]
    by_cases c2 : x.a + x.n ≤ t
    · rw [if_neg (by omega), if_pos c2]
    · rw [if_pos (by omega), if_neg c2]; congr 1; exact X.ext (by dsimp only; omega) (by dsimp only; omega) (by dsimp only; omega)

theorem prL_mid {t n : Int} {l : List X} (h : vld l) (hn : 0 ≤ n) : prL t (t + n) l = mid l t n := by
  unfold mid hdL tlL
  rw [List.flatMap_assoc]
  refine prL_congr (fun x hx => ?_)
  have hx := h.1 x hx
  unfold okx at hx
  unfold pr1 tl prt
  by_cases c1 : t ≤ x.a
  · rw [if_pos c1]
    simp only [List.flatMap_cons, List.flatMap_nil, List.append_nil]
    unfold hd
    by_cases c3 : t + n ≤ x.a
    · rw [if_neg (by omega), if_pos c3]
    · rw [if_pos (by omega), if_neg c3]
      by_cases c4 : x.a + x.n ≤ t + n
      · rw [if_pos c4]; congr 1; exact X.ext (by dsimp only; omega) (by dsimp only; omega) (by dsimp only; omega)
      · rw [if_neg c4]; congr 1; exact X.ext (by dsimp only; omega) (by dsimp only; omega) (by dsimp only; omega)
  · rw [if_neg c1]
    by_cases c2 : x.a + x.n ≤ t
    · rw [if_neg (by omega), if_pos c2]; rfl
    · rw [if_neg c2]
      simp only [List.flatMap_cons, List.flatMap_nil, List.append_nil]
      unfold hd
      dsimp only
      by_cases c3 : t + n ≤ t
      · rw [if_neg (by omega), if_pos c3]
      · rw [if_pos (by omega), if_neg c3]
        by_cases c4 : t + (x.n - (t - x.a)) ≤ t + n
        · rw [if_pos c4]; congr 1; exact X.ext (by dsimp only; omega) (by dsimp only; omega) (by dsimp only; omega)
        · rw [if_neg c4]; congr 1; exact X.ext (by dsimp only; omega) (by dsimp only; omega) (by dsimp only; omega)

theorem Row.keep {W W' : World} {base : Nat} {v : Value} {L : List X} (h : Row W base v L) (hb : Below W.heap.size W W') : Row W' base v L := by
  refine ⟨h.1, ?_⟩
  rcases h.2 with h2 | ⟨g, cap, cur, e1, e2, e3, e4⟩
  · exact .inl h2
  · exact .inr ⟨g, cap, cur, e1, e2, (hb.block g (Array.getElem?_eq_some_iff.1 e3).1).trans e3, e4⟩

theorem Row.ge {W : World} {base : Nat} {v : Value} {L : List X} (h : Row W base v L) : ∀ k, v.ownBlock = some k → base ≤ k := by
  intro k hk
  rcases h.2 with ⟨rfl, _⟩ | ⟨g, cap, cur, rfl, e2, _⟩
  · simp [Value.ownBlock] at hk
  · simp [Value.ownBlock] at hk; omega

/-- The cells of the block laid for an element, a box ahead of it. -/
theorem news_box (w : World) (o : Obj) (x : X) : ∀ (j : Nat) (u : Value), (cs [x])[j]? = some u → ((w.alloc o).alloc (.cells #[.int .i64 x.a, .int .i64 x.n, .int .i64 x.s] 31)).cell? ((⟨w.heap.size + 1, 0, none⟩ : Addr).add j) = some u := by
  have := news3 (w.alloc o) x
  simp only [World.size_alloc] at this
  exact this

theorem Row.append {w' : World} {base : Nat} {v' : Value} {L : List X} {x : X} (h : w'.ownsRow base 31 3 v' (L.length + 1) (cs L ++ cs [x])) : Row w' base v' (L ++ [x]) := by
  unfold Row
  rw [cs_append]
  simpa using h

set_option maxHeartbeats 2000000 in
set_option maxRecDepth 100000 in
theorem parts_any (v : Value) (L : List X) (f t : Int) (hf : 0 ≤ f ∧ f ≤ 1000000) (ht : 0 ≤ t ∧ t ≤ 1000000) (w : World) (hs : Sl w v L) (hv : vld L) : Calls Try.prog 58 #[v, .int .i64 f, .int .i64 t] w (RetR w (prL f t L)) := by
  obtain ⟨i0, hi, hz0, hz1, hz2⟩ := info_parts Try.info31
  have hm : L.length ≤ 65536 := hv.bounds.1
  have HS := Lib.hid hs
  obtain ⟨ao, cap, rfl⟩ := sl_shape hs
  have HV := Lib.hid hv
  clear hs hv
  obtain ⟨hf1, hf2⟩ := hf
  obtain ⟨ht1, ht2⟩ := ht
  go_enter Try.func58, Try.ntmps58
  go_wp2
  go_loopw [7, 8] (fun out i wr => ∃ k : Nat, k ≤ L.length ∧ i = .int .i64 k ∧ Row wr w.heap.size out (prL f t (L.take k)) ∧ Below w.heap.size w wr) (fun _ i _ => L.length - (intOf i).toNat)
  case atStart => exact ⟨0, Nat.zero_le _, rfl, Row.nil _ _, Below.refl _ _⟩
  case round =>
    obtain ⟨k, hk, rfl, hr, hbel⟩ := hrel
    by_cases hlt : k < L.length
    · obtain ⟨b1, o1, x, rfl, hx, e0, e1, e2⟩ := (HS.out.below hbel).at hlt
      have hox : okx x := HV.out.1 x (List.mem_of_getElem? hx)
      have PA := Lib.hid (part_any x f t hox ⟨hf1, hf2⟩ ⟨ht1, ht2⟩ wr)
      have hsn := prL_snoc (f := f) (t := t) hx
      have hl := prL_len f t (L.take k)
      simp only [List.length_take] at hl
      have HX := Lib.hid (And.intro hx hsn)
      clear hx hox hsn
      obtain ⟨xa, xn, xs⟩ := x
      dsimp only at e0 e1 e2 PA
      have hk1 : (0 : Int) ≤ (k : Int) := by omega
      have hk2 : (k : Int) < (L.length : Int) := by omega
      generalize hP : prt ⟨xa, xn, xs⟩ f t = P at PA
      obtain ⟨pa, pn, ps⟩ := P
      dsimp only at PA
      go_wp2_with fail
      refine PA.out.mono ?_
      rintro e w2 ⟨rfl, hb2⟩
      have r2 := (hr.keep hb2).alloc (.cells #[.int .i64 pa, .int .i64 pn, .int .i64 ps] 31)
      have b2 := hbel.trans (hb2.mono hbel.size)
      have b3 := b2.alloc b2.size (.cells #[.int .i64 pa, .int .i64 pn, .int .i64 ps] 31)
      have HP := Lib.hid hP; clear hP
      have HR := Lib.hid hr; clear hr
      by_cases hc : max xa f < min (xa + xn) t
      · have hc' : decide (max xa f < min (xa + xn) t) = true := by simpa using hc
        have EX : Hid (prL f t (L.take (k + 1)) = prL f t (L.take k) ++ [⟨pa, pn, ps⟩]) := (show prL f t (L.take (k + 1)) = prL f t (L.take k) ++ [⟨pa, pn, ps⟩] by rw [HX.out.2, ← HP.out]; unfold pr1; rw [if_pos hc])
        rw [hc']
        clear hc hc'
        have R2 := Lib.hid r2
        have C1 := Lib.hid (news_box w2 (.cells #[.int .i64 pa, .int .i64 pn, .int .i64 ps] 31) ⟨pa, pn, ps⟩)
        go_wp2_with (at_builtin; refine wpList_append_own _ rfl _ _ 33 rfl w.heap.size 31 i0 _ 3 24 Try.underlying33 hi hz0 hz1 hz2 rfl (by decide) _ _ _ rfl (R2.out.alloc _) ⟨w2.heap.size + 1, 0, none⟩ 1 1 (cs [⟨pa, pn, ps⟩]) rfl rfl C1.out (one3 _) ?c3 ?c4 ?c5 ?_)
        case c3 => unfold maxLen; omega
        case c4 => omega
        case c5 => have := b3.size; simp at this ⊢; omega
        intro v' w4 hown' hgrow _
        have hrow := Row.append hown'
        have b4 := (b3.alloc b3.size (.cells #[.int .i64 pa, .int .i64 pn, .int .i64 ps] 31)).grown hgrow (by have := b3.size; simp at this ⊢; omega) (Row.ge HR.out)
        rw [← EX.out] at hrow
        have HW := Lib.hid (And.intro hrow b4)
        clear hown' hgrow hrow b4
        go_wp2_with fail
        go_roundw
        case rel => exact ⟨k + 1, by omega, by go_num, HW.out.1, HW.out.2⟩
        case measure => simp [intOf]; omega
      · have hc' : decide (max xa f < min (xa + xn) t) = false := by simpa using hc
        have EX : Hid (prL f t (L.take (k + 1)) = prL f t (L.take k)) := (show prL f t (L.take (k + 1)) = prL f t (L.take k) by rw [HX.out.2]; unfold pr1; rw [if_neg hc]; simp)
        rw [hc']
        clear hc hc'
        go_wp2_with fail
        go_roundw
        case rel => exact ⟨k + 1, by omega, by go_num, by rw [EX.out]; exact r2, b3⟩
        case measure => simp [intOf]; omega
    · go_wp2_with fail
      go_ret
      have : L.take k = L := List.take_of_length_le (by omega)
      rw [this] at hr
      exact ⟨_, rfl, hr, hbel⟩

end Go.Proofs.Ytdfdnimledcfbaa
