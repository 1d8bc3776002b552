/- ExtreeScript returns true for every script. Conditions: none. -/
import Derived.Test.YtdfdnimledcfbaaRefBlocks
import Derived.Deep.CutRange
namespace Go.Proofs.Ytdfdnimledcfbaa
open Go.RowKit
open Go.Deep (BT)

theorem Sl.turn {W : World} {v x y : Value} {L : List X} {N : Nat} {t : TypeId} (h : Sl W v L) (hk : Blk W N #[x] t) : Sl (W.setCell ⟨N, 0, none⟩ y) v L := by
  rcases h with h | ⟨b, o, cap, h1, h2, h3, h4⟩
  · exact .inl h
  · refine .inr ⟨b, o, cap, h1, h2, h3, fun i z hz => ?_⟩
    obtain ⟨g1, g2, g3⟩ := h4 i z hz
    have hne : b ≠ N := by
      rintro rfl
      rw [hk.cell] at g3
      simp at g3
    have e : (W.setCell ⟨N, 0, none⟩ y).heap[b]? = W.heap[b]? := Below.heap_setCell _ _ _ _ hne
    have key : ∀ k, (W.setCell ⟨N, 0, none⟩ y).cell? ⟨b, k, none⟩ = W.cell? ⟨b, k, none⟩ := fun k => by unfold World.cell?; rw [e]
    rw [key, key, key]
    exact ⟨g1, g2, g3⟩

/-- The outcome of a step that is permitted, and what lies on. -/
def RetG (W w' : World) (L M : List X) (e : Ending) (w3 : World) : Prop := ∃ q T' va vl vc, e = .returned (.tuple #[.agg #[.pointer q], .slice va vl vc, .int .i64 0]) ∧ Hid (At w3 q T' ∧ avl T' ∧ li T' = L ∧ Sl w3 (.slice va vl vc) M) ∧ Below W.heap.size W w3 ∧ Hid (∀ N c t, Blk w' N c t → Blk w3 N c t)
theorem retG {W w' : World} {L M : List X} {e : Ending} {w3 : World} (hw : Below W.heap.size W w') (h : RetP w' L M e w3) : RetG W w' L M e w3 := by
  obtain ⟨q, T', vv, he, h1, h2, h3, h4, h5⟩ := h
  obtain ⟨va, vc, rfl⟩ := sl_shape h4.sl
  exact ⟨q, T', va, _, vc, he, Lib.hid ⟨h1, h2, h3, h4.sl⟩, hw.trans (h5.mono hw.size), Lib.hid fun _ _ _ hk => hk.keep h5⟩

/-- The outcome of a step that is not permitted, and what lies on. -/
def RetGE (W w' : World) (e : Ending) (w3 : World) : Prop := e = .returned (.tuple #[.agg #[.pointer none], .slice none 0 0, .int .i64 1]) ∧ Below W.heap.size W w3 ∧ Hid (∀ N c t, Blk w' N c t → Blk w3 N c t)
theorem retGE {W w' : World} {e : Ending} {w3 : World} (hw : Below W.heap.size W w') (h : RetE w' e w3) : RetGE W w' e w3 :=
  ⟨h.1, hw.trans (h.2.mono hw.size), Lib.hid fun _ _ _ hk => hk.keep h.2⟩

set_option maxHeartbeats 2000000 in
set_option maxRecDepth 100000 in
theorem script_walk (v : Value) (S : List St) (w : World) (hS : SS w v S) (hm : S.length ≤ 9223372036854775807) : Calls Try.prog 8 #[v] w fun e w' => e = .returned (.bool true) ∧ Below w.heap.size w w' := by
  have HS := Lib.hid hS
  obtain ⟨ao, cap, rfl⟩ := hS.shape
  clear hS
  by_cases hlen : 60 < S.length
  · go_enter Try.func8, Try.ntmps8
    go_wp2_with fail
    refine (awake_any _).mono ?_
    rintro e w1 ⟨rfl, hb1⟩
    go_wp2_with fail
    go_ret
    exact ⟨rfl, hb1⟩
  · go_enter Try.func8, Try.ntmps8
    go_wp2_with fail
    refine (awake_any _).mono ?_
    rintro e w1 ⟨rfl, hb1⟩
    go_wp2_with fail
    refine (new_any _).mono ?_
    rintro e w2 ⟨rfl, hb2⟩
    go_wp2_with fail
    have al2 := Lib.hid ((Below.refl _ w2).alloc (Nat.le_refl _) (.cells #[.pointer none] 26))
    have c2 := hb1.trans (hb2.mono hb1.size)
    have c3 := Lib.hid (c2.trans (al2.out.mono c2.size))
    have hsz := c2.size
    go_loopw [4, 5] (fun u i wr => ∃ (j : Nat) (p : Option Addr) (T : BT X) (u' : Value), j ≤ S.length ∧ i = .int .i64 j ∧ u = u' ∧ Blk wr w2.heap.size #[.pointer p] 26 ∧ At wr p T ∧ avl T ∧ vld (li T) ∧ nf (li T) ∧ Sl wr u' (li T) ∧ (li T).length ≤ 2 * j ∧ Below w.heap.size w wr) (fun _ i _ => S.length - (intOf i).toNat)
    case atStart => exact ⟨0, none, .nil, _, Nat.zero_le _, rfl, rfl, Blk.new _ _ _, rfl, trivial, vld.nil, List.Pairwise.nil, .inl ⟨⟨_, _, rfl⟩, rfl⟩, Nat.zero_le _, c3.out⟩
    case round =>
      obtain ⟨j, p, T, u, hj, rfl, hu0, kb, hT, av, hv, hn, hu, hl, hB⟩ := hrel
      have hu0' := hu0.symm
      subst hu0'
      clear hu0
      by_cases hlt : j < S.length
      · obtain ⟨b, o, cap', s, hsh, hsj, hok, hbl, e0, e1, e2, e3⟩ := (HS.out.below hB).at hlt
        obtain ⟨rfl, rfl⟩ : ao = some ⟨b, o, none⟩ ∧ cap = cap' := by simpa using hsh
        have n0 : wr.cell? ⟨w2.heap.size, 0, none⟩ = some (.pointer p) := kb.cell 0
        have hkb := kb.lt
        have hj1 : (0 : Int) ≤ (j : Int) := by omega
        have hj2 : (j : Int) < (S.length : Int) := by omega
        by_cases hf : fine s
        · have ST := Lib.hid (fun w' (hw : Below wr.heap.size wr w') => (step_any p T s w' (hT.below hw) av hv hn hok hf).mono fun e w3 h => retG hw h)
          have AP := Lib.hid (fun w' (hw : Below wr.heap.size wr w') => apply_any u (li T) s w' (hu.below hw) hv hn hok hf)
          have VN := Lib.hid (nx_vn hv hok hf)
          have NL := Lib.hid (nx_len (s := s) hv hok)
          have MB : Hid ((mid (li T) s.a s.n).length ≤ 1000000) := Lib.hid (by have := (mid_vn (t := s.a) (n := s.n) hv hn).1.bounds.1; omega)
          have KB := Lib.hid kb
          unfold sv tv at ST
          unfold sv at AP
          obtain ⟨ua, uc, rfl⟩ := sl_shape hu
          clear hT av hv hn hu hok hsh hsj kb hf
          obtain ⟨sc, sa, sn, ss⟩ := s
          dsimp only at e0 e1 e2 e3 ST AP VN NL MB
          have KS : Hid (∀ w', Below wr.heap.size wr w' → (Below wr.heap.size wr w' ∧ w'.cell? ⟨w2.heap.size, 0, none⟩ = some (.pointer p) ∧ w'.cell? ⟨b, o + j * 4, none⟩ = some (.bool sc) ∧ w'.cell? ⟨b, o + j * 4 + 1, none⟩ = some (.int .u8 sa) ∧ w'.cell? ⟨b, o + j * 4 + 2, none⟩ = some (.int .u8 sn) ∧ w'.cell? ⟨b, o + j * 4 + 3, none⟩ = some (.int .u8 ss))) :=
            fun w' h => ⟨h, (h.cell (p := ⟨w2.heap.size, 0, none⟩) hkb).trans n0, (h.cell (p := ⟨b, o + j * 4, none⟩) hbl).trans e0, (h.cell (p := ⟨b, o + j * 4 + 1, none⟩) hbl).trans e1, (h.cell (p := ⟨b, o + j * 4 + 2, none⟩) hbl).trans e2, (h.cell (p := ⟨b, o + j * 4 + 3, none⟩) hbl).trans e3⟩
          go_upto_region 10 with fail
          go_cut [6, 7, 8] from 18 to 75 (fun x6 x7 x8 wx => ∃ (N : Nat) (q : Option Addr) (T' : BT X) (va : Option Addr) (vl vc : Nat), x6 = .pointer (some ⟨N, 0, none⟩) ∧ x7 = .slice va vl vc ∧ x8 = .int .i64 0 ∧ wr.heap.size ≤ N ∧ Blk wx N #[.pointer q] 26 ∧ At wx q T' ∧ avl T' ∧ li T' = nx (li T) ⟨sc, sa, sn, ss⟩ ∧ Sl wx (.slice va vl vc) (mid (li T) sa sn) ∧ Below wr.heap.size wr wx)
          case first =>
            have KN : Hid (Blk (wr.alloc (.cells #[.pointer none] 26)).drew wr.heap.size #[.pointer none] 26) := Lib.hid (Blk.new wr _ 26)
            have AL0 : Hid (Below wr.heap.size wr (wr.alloc (.cells #[.pointer none] 26))) := Lib.hid ((Below.refl _ wr).alloc (Nat.le_refl _) _)
            go_region_held3 (fun w' => Below wr.heap.size wr w' ∧ w'.cell? ⟨w2.heap.size, 0, none⟩ = some (.pointer p) ∧ w'.cell? ⟨b, o + j * 4, none⟩ = some (.bool sc) ∧ w'.cell? ⟨b, o + j * 4 + 1, none⟩ = some (.int .u8 sa) ∧ w'.cell? ⟨b, o + j * 4 + 2, none⟩ = some (.int .u8 sn) ∧ w'.cell? ⟨b, o + j * 4 + 3, none⟩ = some (.int .u8 ss))
              ((refine KS.out _ ?_; first | exact (Below.refl _ _).drew | exact AL0.out.drew | exact AL0.out | exact hb3 | exact hb3.alloc hb3.size _ | exact (hb3.alloc hb3.size _).setCell (p := ⟨_, 0, none⟩) hb3.size _ | exact hb3.setCell (p := ⟨wr.heap.size, 0, none⟩) (Nat.le_refl _) _))
              (first | (go_at_call 19; refine Calls.mono (ST.out _ (by first | exact (Below.refl _ _).drew | exact AL0.out.drew)) ?_; rintro e w3 ⟨q, T', va, vl, vc, rfl, HT', hb3, HK⟩; (try (have m0 := (HK.out wr.heap.size #[.pointer none] 26 KN.out).cell 0; have f0 := (HK.out wr.heap.size #[.pointer none] 26 KN.out).frozen 0; rw [c1] at m0))))
            · go_wp2_with fail
              go_meet
              have al3 := (Below.refl _ w3).alloc (Nat.le_refl _) (.cells #[.pointer q] 26)
              exact ⟨w3.heap.size, q, T', va, vl, vc, rfl, rfl, rfl, hb3.size, Blk.new _ _ 26, HT'.out.1.below al3, HT'.out.2.1, HT'.out.2.2.1, HT'.out.2.2.2.below al3, hb3.alloc hb3.size _⟩
            · go_wp2_with fail
              go_meet
              have kn := HK.out wr.heap.size #[.pointer none] 26 KN.out
              exact ⟨wr.heap.size, q, T', va, vl, vc, rfl, rfl, rfl, Nat.le_refl _, kn.set 0 _, IsT.turn (N := wr.heap.size) (W := w3) (n := w3.heap.size) (kn.cell 3) (fun k hk => by rw [Below.heap_setCell _ _ _ _ hk]) (by simp) HT'.out.1, HT'.out.2.1, HT'.out.2.2.1, HT'.out.2.2.2.turn kn, hb3.setCell (p := ⟨wr.heap.size, 0, none⟩) (Nat.le_refl _) _⟩
          case rest =>
            obtain ⟨N, q, T', va, vl, vc, rfl, rfl, rfl, hN, kN, hT', av', hl', hM, hbc⟩ := hcut
            have kB := KB.out.keep hbc
            obtain ⟨_, n0', e0', e1', e2', e3'⟩ := KS.out wc hbc
            have HT' := Lib.hid (And.intro hT' (And.intro av' (And.intro hl' hM)))
            clear hT' av' hM hl' KS KB ST n0 e0 e1 e2 e3
            go_wp2_with fail
            refine (AP.out wc hbc).mono ?_
            rintro e w5 ⟨v1, v2, rfl, h1, h2, hb5⟩
            obtain ⟨a1, c1', rfl⟩ := sl_shape h1
            have SM := Lib.hid (same_any _ _ _ w5 (HT'.out.2.2.2.below hb5) h2 MB.out)
            obtain ⟨a2, c2', rfl⟩ := sl_shape h2
            have H1 := Lib.hid h1; clear h1 h2
            go_wp2_with fail
            refine SM.out.mono ?_
            rintro e w6 ⟨rfl, hb6⟩
            have b56 : Below wc.heap.size wc w6 := hb5.trans (hb6.mono hb5.size)
            have kN6 := kN.keep b56
            have kB6 := kB.keep b56
            have m0 := kN6.cell 0
            have m1 := kB6.cell 0
            have f1 := kB6.frozen 0
            rw [c1] at m0 m1
            clear n0' e0' e1' e2' e3'
            go_wp2_with fail
            have kB7 := kB6.set 0 (.pointer q)
            have m2 := kB7.cell 0
            rw [show (#[Value.pointer p].setIfInBounds 0 (Value.pointer q))[0]? = some (Value.pointer q) from rfl] at m2
            have tt : At (w6.setCell ⟨w2.heap.size, 0, none⟩ (.pointer q)) q T' :=
              IsT.turn (N := w2.heap.size) (W := w6) (n := w6.heap.size) (kB6.cell 3) (fun k hk => by rw [Below.heap_setCell _ _ _ _ hk]) (by simp) (HT'.out.1.below b56)
            have s7 := (H1.out.below hb6).turn (y := .pointer q) kB6
            have b06 : Below w.heap.size w w6 := (hB.trans (hbc.mono hB.size)).trans (b56.mono (Nat.le_trans hB.size hbc.size))
            have b07 := b06.setCell (p := ⟨w2.heap.size, 0, none⟩) hsz (.pointer q)
            obtain ⟨W7, hW7⟩ : ∃ W7, W7 = w6.setCell ⟨w2.heap.size, 0, none⟩ (.pointer q) := ⟨_, rfl⟩
            rw [← hW7] at tt s7 b07 m2 kB7 ⊢
            clear hW7 m0 m1 f1 kB6 kN6 b06 SM AP MB
            have hl' := HT'.out.2.2.1
            have av' := HT'.out.2.1
            have vn := VN.out
            have nl := NL.out
            clear HT' VN NL H1 hb6 hb5 b56 kB kN
            have hl2 : (li T').length ≤ 2 * (j + 1) := by rw [hl']; omega
            generalize hLL : nx (li T) ⟨sc, sa, sn, ss⟩ = L' at *
            subst hl'
            have TT := Lib.hid (And.intro tt (And.intro s7 (And.intro b07 (And.intro av' (And.intro vn (And.intro hl2 kB7))))))
            refine (all_any q T' W7 tt (by omega)).mono ?_
            clear tt s7 b07 av' vn kB7
            rintro e w8 ⟨v8, rfl, h8, hb8⟩
            have SM := Lib.hid (same_any _ _ _ w8 h8 (TT.out.2.1.below hb8) (by omega))
            obtain ⟨a8, c8, rfl⟩ := sl_shape h8
            clear h8
            go_wp2_with fail
            refine SM.out.mono ?_
            rintro e w9 ⟨rfl, hb9⟩
            have b79 : Below W7.heap.size W7 w9 := hb8.trans (hb9.mono hb8.size)
            have m3 : w9.cell? ⟨w2.heap.size, 0, none⟩ = some (.pointer q) := (TT.out.2.2.2.2.2.2.keep b79).cell 0
            go_wp2_with fail
            refine (len_any q T' w9 (TT.out.1.below b79)).mono ?_
            rintro e w10 ⟨rfl, hb10⟩
            have b710 : Below W7.heap.size W7 w10 := b79.trans (hb10.mono b79.size)
            have m4 : w10.cell? ⟨w2.heap.size, 0, none⟩ = some (.pointer q) := (TT.out.2.2.2.2.2.2.keep b710).cell 0
            clear m3
            go_wp2_with fail
            refine (blocks_any q T' w10 (TT.out.1.below b710)).mono ?_
            rintro e w11 ⟨rfl, hb11⟩
            have b711 : Below W7.heap.size W7 w11 := b710.trans (hb11.mono b710.size)
            clear m4
            go_wp2_with fail
            refine (refblocks_any _ _ w11 (TT.out.2.1.below b711) TT.out.2.2.2.2.1.1).mono ?_
            rintro e w12 ⟨rfl, hb12⟩
            have b712 : Below W7.heap.size W7 w12 := b711.trans (hb12.mono b711.size)
            go_wp2_with fail
            go_roundw
            case rel => exact ⟨j + 1, q, T', _, by omega, by go_num, rfl, TT.out.2.2.2.2.2.2.keep b712, TT.out.1.below b712, TT.out.2.2.2.1, TT.out.2.2.2.2.1.1, TT.out.2.2.2.2.1.2, TT.out.2.1.below b712, TT.out.2.2.2.2.2.1, TT.out.2.2.1.trans (b712.mono TT.out.2.2.1.size)⟩
            case measure => simp [intOf]; omega
        · have ST := Lib.hid (fun w' (hw : Below wr.heap.size wr w') => (step_bad p s w' hok hf).mono fun e w3 h => retGE hw h)
          have AP := Lib.hid (fun w' (hw : Below wr.heap.size wr w') => apply_bad u (li T) s w' (hu.below hw) hv hok hf)
          have KB := Lib.hid kb
          have HX := Lib.hid (And.intro hT (And.intro av (And.intro hv (And.intro hn (And.intro hu hl)))))
          unfold sv tv at ST
          unfold sv at AP
          obtain ⟨ua, uc, rfl⟩ := sl_shape hu
          clear hT av hv hn hu hl hok hsh hsj kb hf
          obtain ⟨sc, sa, sn, ss⟩ := s
          dsimp only at e0 e1 e2 e3 ST AP
          have KS : Hid (∀ w', Below wr.heap.size wr w' → (Below wr.heap.size wr w' ∧ w'.cell? ⟨w2.heap.size, 0, none⟩ = some (.pointer p) ∧ w'.cell? ⟨b, o + j * 4, none⟩ = some (.bool sc) ∧ w'.cell? ⟨b, o + j * 4 + 1, none⟩ = some (.int .u8 sa) ∧ w'.cell? ⟨b, o + j * 4 + 2, none⟩ = some (.int .u8 sn) ∧ w'.cell? ⟨b, o + j * 4 + 3, none⟩ = some (.int .u8 ss))) :=
            fun w' h => ⟨h, (h.cell (p := ⟨w2.heap.size, 0, none⟩) hkb).trans n0, (h.cell (p := ⟨b, o + j * 4, none⟩) hbl).trans e0, (h.cell (p := ⟨b, o + j * 4 + 1, none⟩) hbl).trans e1, (h.cell (p := ⟨b, o + j * 4 + 2, none⟩) hbl).trans e2, (h.cell (p := ⟨b, o + j * 4 + 3, none⟩) hbl).trans e3⟩
          go_upto_region 10 with fail
          go_cut [6, 7, 8] from 18 to 75 (fun x6 x7 x8 wx => ∃ (N : Nat), x6 = .pointer (some ⟨N, 0, none⟩) ∧ x7 = .slice none 0 0 ∧ x8 = .int .i64 1 ∧ Below wr.heap.size wr wx)
          case first =>
            have KN : Hid (Blk (wr.alloc (.cells #[.pointer none] 26)).drew wr.heap.size #[.pointer none] 26) := Lib.hid (Blk.new wr _ 26)
            have AL0 : Hid (Below wr.heap.size wr (wr.alloc (.cells #[.pointer none] 26))) := Lib.hid ((Below.refl _ wr).alloc (Nat.le_refl _) _)
            go_region_held3 (fun w' => Below wr.heap.size wr w' ∧ w'.cell? ⟨w2.heap.size, 0, none⟩ = some (.pointer p) ∧ w'.cell? ⟨b, o + j * 4, none⟩ = some (.bool sc) ∧ w'.cell? ⟨b, o + j * 4 + 1, none⟩ = some (.int .u8 sa) ∧ w'.cell? ⟨b, o + j * 4 + 2, none⟩ = some (.int .u8 sn) ∧ w'.cell? ⟨b, o + j * 4 + 3, none⟩ = some (.int .u8 ss))
              ((refine KS.out _ ?_; first | exact (Below.refl _ _).drew | exact AL0.out.drew | exact AL0.out | exact hb3 | exact hb3.alloc hb3.size _ | exact (hb3.alloc hb3.size _).setCell (p := ⟨_, 0, none⟩) hb3.size _ | exact hb3.setCell (p := ⟨wr.heap.size, 0, none⟩) (Nat.le_refl _) _))
              (first | (go_at_call 19; refine Calls.mono (ST.out _ (by first | exact (Below.refl _ _).drew | exact AL0.out.drew)) ?_; rintro e w3 ⟨rfl, hb3, HK⟩; (try (have m0 := (HK.out wr.heap.size #[.pointer none] 26 KN.out).cell 0; have f0 := (HK.out wr.heap.size #[.pointer none] 26 KN.out).frozen 0; rw [c1] at m0))))
            · go_wp2_with fail
              go_meet
              exact ⟨_, rfl, rfl, rfl, hb3.alloc hb3.size _⟩
            · go_wp2_with fail
              go_meet
              exact ⟨_, rfl, rfl, rfl, hb3.setCell (p := ⟨wr.heap.size, 0, none⟩) (Nat.le_refl _) _⟩
          case rest =>
            obtain ⟨N, rfl, rfl, rfl, hbc⟩ := hcut
            obtain ⟨_, n0', e0', e1', e2', e3'⟩ := KS.out wc hbc
            clear KS ST n0 e0 e1 e2 e3
            go_wp2_with fail
            refine (AP.out wc hbc).mono ?_
            rintro e w5 ⟨rfl, hb5⟩
            go_wp2_with fail
            refine (same_any _ _ [] w5 (.inl ⟨⟨_, _, rfl⟩, rfl⟩) (.inl ⟨⟨_, _, rfl⟩, rfl⟩) (by simp)).mono ?_
            rintro e w6 ⟨rfl, hb6⟩
            have b56 : Below wc.heap.size wc w6 := hb5.trans (hb6.mono hb5.size)
            have b6 : Below wr.heap.size wr w6 := hbc.trans (b56.mono hbc.size)
            clear n0' e0' e1' e2' e3'
            go_wp2_with fail
            go_roundw
            case rel => exact ⟨j + 1, p, T, _, by omega, by go_num, rfl, KB.out.keep b6, HX.out.1.below b6, HX.out.2.1, HX.out.2.2.1, HX.out.2.2.2.1, HX.out.2.2.2.2.1.below b6, by have := HX.out.2.2.2.2.2; omega, hB.trans (b6.mono hB.size)⟩
            case measure => simp [intOf]; omega
      · go_wp2_with fail
        go_ret
        exact ⟨rfl, hB⟩

end Go.Proofs.Ytdfdnimledcfbaa
