/- ExtreeOf returns true for every list. Conditions: none. -/
import Derived.Test.YtdfdnimledcfbaaOf
namespace Go.Proofs.Ytdfdnimledcfbaa
open Go.RowKit
open Go.Deep (BT)

theorem row_empty (W : World) (base : Nat) (hb : base ≤ W.heap.size) : Row (W.alloc (.cells #[] 31)) base (.slice (some ⟨W.heap.size, 0, none⟩) 0 0) [] :=
  ⟨rfl, .inr ⟨W.heap.size, 0, #[], rfl, hb, Array.getElem?_push_size, by simp, by simp, by simp, by simp [cs]⟩⟩

/-- What follows the append. -/
theorem sl_news {W : World} {a : Addr} {n c : Nat} {L : List X} (h : Sl W (.slice (some a) n c) L) : (cs L).length = n * 3 ∧ ∀ (j : Nat) (u : Value), (cs L)[j]? = some u → W.cell? (a.add j) = some u := by
  rcases h with ⟨⟨ao, cap, h1⟩, rfl⟩ | ⟨b, o, cap, h1, h2, h3, h4⟩
  · obtain rfl : n = 0 := by simp at h1; omega
    exact ⟨rfl, by intro j u h; simp [cs] at h⟩
  · simp only [Value.slice.injEq, Option.some.injEq] at h1
    obtain ⟨rfl, rfl, rfl⟩ := h1
    refine ⟨cs_length L, fun j u hu => ?_⟩
    have hj : j < L.length * 3 := by have := (List.getElem?_eq_some_iff.1 hu).1; rw [cs_length] at this; exact this
    have hi : j / 3 < L.length := by omega
    obtain ⟨x, hx⟩ : ∃ x, L[j / 3]? = some x := ⟨_, List.getElem?_eq_getElem hi⟩
    obtain ⟨e0, e1, e2⟩ := cs_get L (j / 3) _ hx
    obtain ⟨g0, g1, g2⟩ := h4 (j / 3) _ hx
    have ha : (⟨b, o, none⟩ : Addr).add j = ⟨b, o + j, none⟩ := by unfold Addr.add; split <;> simp_all
    rw [ha]
    have h3 : j = j / 3 * 3 ∨ j = j / 3 * 3 + 1 ∨ j = j / 3 * 3 + 2 := by omega
    generalize j / 3 = i at *
    rcases h3 with rfl | rfl | rfl
    · rw [e0] at hu; cases hu; exact g0
    · rw [e1] at hu; cases hu; exact g1
    · rw [e2] at hu; cases hu; exact g2

set_option maxHeartbeats 2000000 in
set_option maxRecDepth 100000 in
theorem of_walk (v : Value) (L : List X) (w : World) (hs : Sl w v L) (hsh : v = .slice none 0 0 ∨ ∃ a n c, v = .slice (some a) n c) (hm : L.length ≤ 9223372036854775807) : Calls Try.prog 10 #[v] w fun e w' => e = .returned (.bool true) ∧ Below w.heap.size w w' := by
  obtain ⟨i0, hi, hz0, hz1, hz2⟩ := info_parts Try.info31
  have HS := Lib.hid hs
  by_cases hlen : 40 < L.length
  · obtain ⟨ao, cap, rfl⟩ := sl_shape hs
    clear hs hsh
    go_enter Try.func10, Try.ntmps10
    go_wp2_with fail
    refine (awake_any _).mono ?_
    rintro e w1 ⟨rfl, hb1⟩
    go_wp2_with fail
    go_ret
    exact ⟨rfl, hb1⟩
  · rcases hsh with rfl | ⟨a, n, c, rfl⟩
    · obtain rfl : L = [] := by
        obtain ⟨ao, cap, h⟩ := sl_shape hs
        simp only [Value.slice.injEq] at h
        exact List.length_eq_zero_iff.1 h.2.1.symm
      clear hs
      generalize hLL : ([] : List X) = L at *
      have HLL := Lib.hid hLL; clear hLL
      go_enter Try.func10, Try.ntmps10
      go_wp2_with fail
      refine (awake_any _).mono ?_
      rintro e w1 ⟨rfl, hb1⟩
      have R2 := Lib.hid (row_empty w1 w1.heap.size (Nat.le_refl _))
      obtain ⟨w2, hW2, hb12⟩ : ∃ w2, w2 = w1.alloc (.cells #[] 31) ∧ Below w1.heap.size w1 w2 := ⟨_, rfl, (Below.refl _ w1).alloc (Nat.le_refl _) _⟩
      go_wp2_with (at_builtin; refine wpList_append_own_none rfl _ _ 33 rfl w1.heap.size 31 i0 3 Try.underlying33 hi _ _ _ rfl R2.out rfl ?_)
      have H2 : Hid (Sl w2 (.slice (some ⟨w1.heap.size, 0, none⟩) 0 0) L) := Lib.hid (by rw [← HLL.out]; exact .inl ⟨⟨_, _, rfl⟩, rfl⟩)
      have hb2 := hb1.trans (hb12.mono hb1.size)
      rw [← hW2]
      clear hW2 R2
      by_cases hv : vld L
      · have HV := Lib.hid hv; clear hv
        have OF := Lib.hid (of_any _ L w2 H2.out HV.out)
        go_wp2_with fail
        refine OF.out.mono ?_
        rintro e w3 ⟨q, T, rfl, hT, av, hl, hb3⟩
        have HT := Lib.hid (And.intro hT (And.intro av hl)); clear hT av hl
        have b03 := hb2.trans (hb3.mono hb2.size)
        obtain ⟨W4, hW4, b34, k4⟩ : ∃ W4, W4 = w3.alloc (.cells #[.pointer q] 26) ∧ Below w3.heap.size w3 W4 ∧ Blk W4 w3.heap.size #[.pointer q] 26 := ⟨_, rfl, (Below.refl _ w3).alloc (Nat.le_refl _) _, Blk.new _ _ _⟩
        have b04 := b03.trans (b34.mono b03.size)
        go_wp2_with fail
        rw [← hW4]
        clear hW4
        refine (jn_any _ L W4 (HS.out.below b04) HV.out).mono ?_
        rintro e w5 ⟨v5, rfl, hr5, hb5⟩
        have H5 := Lib.hid hr5.sl
        obtain ⟨a5, c5, rfl⟩ := sl_shape hr5.sl
        clear hr5
        have k5 := k4.keep hb5
        have m5 := k5.cell 0
        rw [c1] at m5
        go_wp2_with fail
        have b35 := b34.trans (hb5.mono b34.size)
        have hjl : (li T).length ≤ 40 := by rw [HT.out.2.2]; have := jn_len L; omega
        have tt := HT.out.1.below b35
        refine (all_any q T w5 tt (by omega)).mono ?_
        rintro e w6 ⟨v6, rfl, h6, hb6⟩
        have SM := Lib.hid (same_any _ _ _ w6 (by rw [HT.out.2.2] at h6; exact h6) (H5.out.below hb6) (by rw [← HT.out.2.2]; omega))
        obtain ⟨a6, c6, rfl⟩ := sl_shape h6
        clear h6
        go_wp2_with fail
        refine SM.out.mono ?_
        rintro e w7 ⟨rfl, hb7⟩
        have b57 := hb6.trans (hb7.mono hb6.size)
        have m7 := (k5.keep b57).cell 0
        rw [c1] at m7
        clear m5
        go_wp2_with fail
        refine (balanced_any q T w7 (tt.below b57) HT.out.2.1 (by omega)).mono ?_
        rintro e w8 ⟨rfl, hb8⟩
        go_wp2_with fail
        go_ret
        have b05 := b04.trans (hb5.mono b04.size)
        have b07 := b05.trans (b57.mono b05.size)
        exact ⟨rfl, b07.trans (hb8.mono b07.size)⟩
      · have HV := Lib.hid hv; clear hv
        have OF := Lib.hid (of_bad _ L w2 H2.out (by omega) HV.out)
        go_wp2_with fail
        refine OF.out.mono ?_
        rintro e w3 ⟨rfl, hb3⟩
        have b03 := hb2.trans (hb3.mono hb2.size)
        obtain ⟨W4, hW4, b34, k4⟩ : ∃ W4, W4 = w3.alloc (.cells #[.pointer none] 26) ∧ Below w3.heap.size w3 W4 ∧ Blk W4 w3.heap.size #[.pointer none] 26 := ⟨_, rfl, (Below.refl _ w3).alloc (Nat.le_refl _) _, Blk.new _ _ _⟩
        have b04 := b03.trans (b34.mono b03.size)
        go_wp2_with fail
        rw [← hW4]
        clear hW4
        refine (join_bad _ L W4 (HS.out.below b04) (by omega) HV.out).mono ?_
        rintro e w5 ⟨rfl, hb5⟩
        have k5 := k4.keep hb5
        have m5 := k5.cell 0
        rw [c1] at m5
        go_wp2_with fail
        refine (all_any none .nil w5 rfl (by simp [li])).mono ?_
        rintro e w6 ⟨v6, rfl, h6, hb6⟩
        have SM := Lib.hid (same_any _ (.slice none 0 0) _ w6 h6 (.inl ⟨⟨_, _, rfl⟩, rfl⟩) (by simp [li]))
        obtain ⟨a6, c6, rfl⟩ := sl_shape h6
        clear h6
        go_wp2_with fail
        refine SM.out.mono ?_
        rintro e w7 ⟨rfl, hb7⟩
        have b57 := hb6.trans (hb7.mono hb6.size)
        have m7 := (k5.keep b57).cell 0
        rw [c1] at m7
        clear m5
        go_wp2_with fail
        refine (balanced_any none .nil w7 rfl trivial (by simp [li])).mono ?_
        rintro e w8 ⟨rfl, hb8⟩
        go_wp2_with fail
        go_ret
        have b05 := b04.trans (hb5.mono b04.size)
        have b07 := b05.trans (b57.mono b05.size)
        exact ⟨rfl, b07.trans (hb8.mono b07.size)⟩
    · have hn : n = L.length := by
        obtain ⟨ao, cap, h⟩ := sl_shape hs
        simp only [Value.slice.injEq] at h
        exact h.2.1
      subst hn
      clear hs
      go_enter Try.func10, Try.ntmps10
      go_wp2_with fail
      refine (awake_any _).mono ?_
      rintro e w1 ⟨rfl, hb1⟩
      have R2 := Lib.hid (row_empty w1 w1.heap.size (Nat.le_refl _))
      have BE := Lib.hid ((Below.refl _ w1).alloc (Nat.le_refl _) (.cells #[] 31))
      have NW := Lib.hid (sl_news ((HS.out.below hb1).below BE.out))
      go_wp2_with (at_builtin; refine wpList_append_own _ rfl _ _ 33 rfl w1.heap.size 31 i0 _ 3 24 Try.underlying33 hi hz0 hz1 hz2 rfl (by decide) _ _ _ rfl R2.out a L.length c (cs L) rfl NW.out.1 NW.out.2 (one_all _) ?c3 ?c4 ?c5 ?_)
      case c3 => unfold maxLen; rw [List.length_nil]; omega
      case c4 => rw [List.length_nil]; omega
      case c5 => simp
      intro v2 w2 hown' hgrow _
      have hrow : Row w2 w1.heap.size v2 L := by unfold Row; simpa [cs] using hown'
      have hb12 : Below w1.heap.size w1 w2 := BE.out.grown hgrow (by simp) (Row.ge R2.out)
      have H2 := Lib.hid hrow.sl
      obtain ⟨a2, c2, rfl⟩ := sl_shape hrow.sl
      have hb2 := hb1.trans (hb12.mono hb1.size)
      clear hown' hgrow hrow R2 NW BE
      by_cases hv : vld L
      · have HV := Lib.hid hv; clear hv
        have OF := Lib.hid (of_any _ L w2 H2.out HV.out)
        go_wp2_with fail
        refine OF.out.mono ?_
        rintro e w3 ⟨q, T, rfl, hT, av, hl, hb3⟩
        have HT := Lib.hid (And.intro hT (And.intro av hl)); clear hT av hl
        have b03 := hb2.trans (hb3.mono hb2.size)
        obtain ⟨W4, hW4, b34, k4⟩ : ∃ W4, W4 = w3.alloc (.cells #[.pointer q] 26) ∧ Below w3.heap.size w3 W4 ∧ Blk W4 w3.heap.size #[.pointer q] 26 := ⟨_, rfl, (Below.refl _ w3).alloc (Nat.le_refl _) _, Blk.new _ _ _⟩
        have b04 := b03.trans (b34.mono b03.size)
        go_wp2_with fail
        rw [← hW4]
        clear hW4
        refine (jn_any _ L W4 (HS.out.below b04) HV.out).mono ?_
        rintro e w5 ⟨v5, rfl, hr5, hb5⟩
        have H5 := Lib.hid hr5.sl
        obtain ⟨a5, c5, rfl⟩ := sl_shape hr5.sl
        clear hr5
        have k5 := k4.keep hb5
        have m5 := k5.cell 0
        rw [c1] at m5
        go_wp2_with fail
        have b35 := b34.trans (hb5.mono b34.size)
        have hjl : (li T).length ≤ 40 := by rw [HT.out.2.2]; have := jn_len L; omega
        have tt := HT.out.1.below b35
        refine (all_any q T w5 tt (by omega)).mono ?_
        rintro e w6 ⟨v6, rfl, h6, hb6⟩
        have SM := Lib.hid (same_any _ _ _ w6 (by rw [HT.out.2.2] at h6; exact h6) (H5.out.below hb6) (by rw [← HT.out.2.2]; omega))
        obtain ⟨a6, c6, rfl⟩ := sl_shape h6
        clear h6
        go_wp2_with fail
        refine SM.out.mono ?_
        rintro e w7 ⟨rfl, hb7⟩
        have b57 := hb6.trans (hb7.mono hb6.size)
        have m7 := (k5.keep b57).cell 0
        rw [c1] at m7
        clear m5
        go_wp2_with fail
        refine (balanced_any q T w7 (tt.below b57) HT.out.2.1 (by omega)).mono ?_
        rintro e w8 ⟨rfl, hb8⟩
        go_wp2_with fail
        go_ret
        have b05 := b04.trans (hb5.mono b04.size)
        have b07 := b05.trans (b57.mono b05.size)
        exact ⟨rfl, b07.trans (hb8.mono b07.size)⟩
      · have HV := Lib.hid hv; clear hv
        have OF := Lib.hid (of_bad _ L w2 H2.out (by omega) HV.out)
        go_wp2_with fail
        refine OF.out.mono ?_
        rintro e w3 ⟨rfl, hb3⟩
        have b03 := hb2.trans (hb3.mono hb2.size)
        obtain ⟨W4, hW4, b34, k4⟩ : ∃ W4, W4 = w3.alloc (.cells #[.pointer none] 26) ∧ Below w3.heap.size w3 W4 ∧ Blk W4 w3.heap.size #[.pointer none] 26 := ⟨_, rfl, (Below.refl _ w3).alloc (Nat.le_refl _) _, Blk.new _ _ _⟩
        have b04 := b03.trans (b34.mono b03.size)
        go_wp2_with fail
        rw [← hW4]
        clear hW4
        refine (join_bad _ L W4 (HS.out.below b04) (by omega) HV.out).mono ?_
        rintro e w5 ⟨rfl, hb5⟩
        have k5 := k4.keep hb5
        have m5 := k5.cell 0
        rw [c1] at m5
        go_wp2_with fail
        refine (all_any none .nil w5 rfl (by simp [li])).mono ?_
        rintro e w6 ⟨v6, rfl, h6, hb6⟩
        have SM := Lib.hid (same_any _ (.slice none 0 0) _ w6 h6 (.inl ⟨⟨_, _, rfl⟩, rfl⟩) (by simp [li]))
        obtain ⟨a6, c6, rfl⟩ := sl_shape h6
        clear h6
        go_wp2_with fail
        refine SM.out.mono ?_
        rintro e w7 ⟨rfl, hb7⟩
        have b57 := hb6.trans (hb7.mono hb6.size)
        have m7 := (k5.keep b57).cell 0
        rw [c1] at m7
        clear m5
        go_wp2_with fail
        refine (balanced_any none .nil w7 rfl trivial (by simp [li])).mono ?_
        rintro e w8 ⟨rfl, hb8⟩
        go_wp2_with fail
        go_ret
        have b05 := b04.trans (hb5.mono b04.size)
        have b07 := b05.trans (b57.mono b05.size)
        exact ⟨rfl, b07.trans (hb8.mono b07.size)⟩

end Go.Proofs.Ytdfdnimledcfbaa
