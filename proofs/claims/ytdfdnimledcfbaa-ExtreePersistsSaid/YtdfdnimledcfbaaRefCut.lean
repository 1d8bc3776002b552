/- What the reference's Cut returns. Conditions: the list is valid and in normal form. -/
import Derived.Test.YtdfdnimledcfbaaJn
import Derived.Laws.AppendOwnNone
namespace Go.Proofs.Ytdfdnimledcfbaa
open Go.RowKit
open Go.Deep (BT)

/-- Two slices and no error. -/
def RetC (w : World) (A B : List X) (e : Ending) (w' : World) : Prop := ∃ v1 v2, e = .returned (.tuple #[v1, v2, .int .i64 0]) ∧ Sl w' v1 A ∧ Sl w' v2 B ∧ Below w.heap.size w w'
/-- An error and no slices. -/
def RetCE (w : World) (e : Ending) (w' : World) : Prop := e = .returned (.tuple #[.slice none 0 0, .slice none 0 0, .int .i64 1]) ∧ Below w.heap.size w w'

/-- The cells of a row that is appended. -/
theorem Row.news {W : World} {base g cap : Nat} {L : List X} {n : Nat} (h : Row W base (.slice (some ⟨g, 0, none⟩) n cap) L) : ∀ (j : Nat) (u : Value), (cs L)[j]? = some u → W.cell? ((⟨g, 0, none⟩ : Addr).add j) = some u := by
  intro j u hu
  exact World.ownsRow.cells h (g := g) rfl j u hu
theorem one_all (L : List X) : ∀ u ∈ cs L, u.oneCell' = true := by
  induction L with
  | nil => simp [cs]
  | cons x L ih =>
    intro u hu
    simp only [cs, List.mem_cons] at hu
    rcases hu with rfl | rfl | rfl | hu
    · rfl
    · rfl
    · rfl
    · exact ih u hu
theorem Row.cases {W : World} {base : Nat} {v : Value} {L : List X} (h : Row W base v L) : (v = .slice none 0 0 ∧ L = []) ∨ ∃ g cap, v = .slice (some ⟨g, 0, none⟩) L.length cap ∧ base ≤ g ∧ g < W.heap.size := by
  rcases h.2 with ⟨h1, h2⟩ | ⟨g, cap, cur, e1, e2, e3, _⟩
  · exact .inl ⟨h1, List.length_eq_zero_iff.1 h2⟩
  · exact .inr ⟨g, cap, e1, e2, (Array.getElem?_eq_some_iff.1 e3).1⟩
theorem Row.cat {w' : World} {base : Nat} {v' : Value} {A B : List X} (h : w'.ownsRow base 31 3 v' (A.length + B.length) (cs A ++ cs B)) : Row w' base v' (A ++ B) := by
  unfold Row
  rw [cs_append]
  simpa using h

set_option maxHeartbeats 1000000 in
theorem refcut_bad (v : Value) (L : List X) (t n : Int) (w : World) (hs : Sl w v L) (hv : vld L) (h : wth t n 65536 = false) : Calls Try.prog 44 #[v, .int .i64 t, .int .i64 n] w (RetCE w) := by
  have hm : L.length ≤ 65536 := hv.bounds.1
  have RV := Lib.hid (refvalid_any v L w hs (by omega))
  obtain ⟨ao, cap, rfl⟩ := sl_shape hs
  have H := Lib.hid (And.intro h hv); clear h hv hs
  go_enter Try.func44, Try.ntmps44
  go_wp2_with fail
  refine RV.out.mono ?_
  rintro e w1 ⟨b, rfl, hb, hb1⟩
  obtain rfl : b = true := hb.2 H.out.2
  clear hb
  go_wp2_with fail
  refine (range57_any t n _).mono ?_
  rintro e w2 ⟨rfl, rfl⟩
  rw [H.out.1]
  go_wp2_with fail
  go_ret3
  exact ⟨rfl, hb1⟩

set_option maxHeartbeats 2000000 in
set_option maxRecDepth 100000 in
theorem refcut_any (v : Value) (L : List X) (t n : Int) (w : World) (hs : Sl w v L) (hv : vld L) (hnf : nf L) (h : wth t n 65536 = true) : Calls Try.prog 44 #[v, .int .i64 t, .int .i64 n] w (RetC w (cut L t n) (mid L t n)) := by
  obtain ⟨i0, hi, hz0, hz1, hz2⟩ := info_parts Try.info31
  have hm : L.length ≤ 65536 := hv.bounds.1
  have hb0 : 0 ≤ t ∧ 0 ≤ n ∧ t ≤ 65536 ∧ n ≤ 65536 - t := by simpa [wth] using h
  obtain ⟨t1, t2, t3, t4⟩ := hb0
  have RV := Lib.hid (refvalid_any v L w hs (by omega))
  have P1 := Lib.hid (fun w' (hw : Below w.heap.size w w') => parts_any v L 0 t (by omega) (by omega) w' (hs.below hw) hv)
  have P2 := Lib.hid (fun w' (hw : Below w.heap.size w w') => parts_any v L (t + n) 65536 (by omega) (by omega) w' (hs.below hw) hv)
  have P3 := Lib.hid (fun w' (hw : Below w.heap.size w w') => parts_any v L t (t + n) (by omega) (by omega) w' (hs.below hw) hv)
  rw [prL_hd hv] at P1
  rw [prL_tl hv] at P2
  rw [prL_mid hv t2] at P3
  obtain ⟨ao, cap, rfl⟩ := sl_shape hs
  have bd1 : (hdL t L).length ≤ 65536 := (vld_hdL hv).bounds.1
  have bd2 : (tlL (t + n) L).length ≤ 65536 := (vld_tlL hv).bounds.1
  have H := Lib.hid (And.intro h (And.intro hv hnf)); clear h hv hs hnf
  go_enter Try.func44, Try.ntmps44
  go_wp2_with fail
  refine RV.out.mono ?_
  rintro e w1 ⟨b, rfl, hb, hb1⟩
  obtain rfl : b = true := hb.2 H.out.2.1
  clear hb
  go_wp2_with fail
  refine (range57_any t n _).mono ?_
  rintro e w2 ⟨rfl, rfl⟩
  rw [H.out.1]
  go_wp2_with fail
  refine (P1.out _ hb1).mono ?_
  rintro e w2 ⟨r1, rfl, hr1, hb2⟩
  have c2 := hb1.trans (hb2.mono hb1.size)
  go_wp2_with fail
  refine (P2.out _ c2).mono ?_
  rintro e w3 ⟨r2, rfl, hr2, hb3⟩
  have c3 := c2.trans (hb3.mono c2.size)
  have R1 := Lib.hid (hr1.keep hb3)
  have R2 := Lib.hid hr2
  have hs1 := hb1.size
  have hs2 := hb2.size
  have hs3 := hb3.size
  clear hr1 hb2 hb3 hr2
  rcases R2.out.cases with ⟨rfl, hnil⟩ | ⟨g, capg, rfl, hg1, hg2⟩
  · go_wp2_with (at_builtin; refine wpList_append_own_none rfl _ _ 33 rfl w.heap.size 31 i0 3 Try.underlying33 hi _ _ _ rfl (R1.out.mono hs1) rfl ?_)
    have RA : Row w3 w.heap.size r1 (hdL t L ++ tlL (t + n) L) := by rw [hnil, List.append_nil]; exact R1.out.mono hs1
    have JN1 := Lib.hid (jn_any r1 (hdL t L ++ tlL (t + n) L) w3 RA.sl (cut_vld H.out.2.1 t2))
    have c4 := c3
    clear RA
    go_wp2_with fail
    refine JN1.out.mono ?_
    rintro e w5 ⟨q1, rfl, hq1, hb5⟩
    have c5 := c4.trans (hb5.mono c4.size)
    have Q1 := Lib.hid hq1.sl; clear hq1
    go_wp2_with fail
    refine (P3.out _ c5).mono ?_
    rintro e w6 ⟨r3, rfl, hr3, hb6⟩
    have c6 := c5.trans (hb6.mono c5.size)
    have JN2 := Lib.hid (jn_any r3 (mid L t n) w6 hr3.sl (mid_vn H.out.2.1 H.out.2.2).1)
    clear hr3
    go_wp2_with fail
    refine JN2.out.mono ?_
    rintro e w7 ⟨q2, rfl, hq2, hb7⟩
    have Q2 := Lib.hid hq2.sl; clear hq2
    go_wp2_with fail
    go_ret3
    refine ⟨q1, q2, rfl, (Q1.out.below hb6).below hb7, ?_, c6.trans (hb7.mono c6.size)⟩
    have h2 := Q2.out
    rw [jn_nf (mid_vn H.out.2.1 H.out.2.2).2] at h2
    exact h2
  · go_wp2_with (at_builtin; refine wpList_append_own _ rfl _ _ 33 rfl w.heap.size 31 i0 _ 3 24 Try.underlying33 hi hz0 hz1 hz2 rfl (by decide) _ _ _ rfl (R1.out.mono hs1) ⟨g, 0, none⟩ (tlL (t + n) L).length capg (cs (tlL (t + n) L)) rfl (cs_length _) R2.out.news (one_all _) ?c3 ?c4 ?c5 ?_)
    case c3 => unfold maxLen; omega
    case c4 => omega
    case c5 => omega
    intro va w4 hown' hgrow _
    have RA : Row w4 w.heap.size va (hdL t L ++ tlL (t + n) L) := Row.cat hown'
    have c4 := c3.grown hgrow c3.size (fun q hq => Nat.le_trans hs1 (R1.out.ge q hq))
    have JN1 := Lib.hid (jn_any va (hdL t L ++ tlL (t + n) L) w4 RA.sl (cut_vld H.out.2.1 t2))
    clear RA hown' hgrow
    go_wp2_with fail
    refine JN1.out.mono ?_
    rintro e w5 ⟨q1, rfl, hq1, hb5⟩
    have c5 := c4.trans (hb5.mono c4.size)
    have Q1 := Lib.hid hq1.sl; clear hq1
    go_wp2_with fail
    refine (P3.out _ c5).mono ?_
    rintro e w6 ⟨r3, rfl, hr3, hb6⟩
    have c6 := c5.trans (hb6.mono c5.size)
    have JN2 := Lib.hid (jn_any r3 (mid L t n) w6 hr3.sl (mid_vn H.out.2.1 H.out.2.2).1)
    clear hr3
    go_wp2_with fail
    refine JN2.out.mono ?_
    rintro e w7 ⟨q2, rfl, hq2, hb7⟩
    have Q2 := Lib.hid hq2.sl; clear hq2
    go_wp2_with fail
    go_ret3
    refine ⟨q1, q2, rfl, (Q1.out.below hb6).below hb7, ?_, c6.trans (hb7.mono c6.size)⟩
    have h2 := Q2.out
    rw [jn_nf (mid_vn H.out.2.1 H.out.2.2).2] at h2
    exact h2

end Go.Proofs.Ytdfdnimledcfbaa
