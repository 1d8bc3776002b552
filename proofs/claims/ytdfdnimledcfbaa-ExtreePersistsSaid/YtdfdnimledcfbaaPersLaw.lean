/- ExtreePersists returns true for every script. Conditions: none. -/
import Derived.Test.YtdfdnimledcfbaaVers
import Derived.Test.YtdfdnimledcfbaaStopsLaw
namespace Go.Proofs.Ytdfdnimledcfbaa
open Go.RowKit
open Go.Deep (BT)

theorem r3_new (W : World) (base : Nat) (hb : base ≤ W.heap.size) (e : Vr) : R3 (W.alloc (.cells #[.pointer e.p] 26)) base W.heap.size 1 [e] :=
  ⟨by simp, .inr ⟨W.heap.size, 1, #[.pointer e.p], rfl, hb, Array.getElem?_push_size, by simp, by unfold maxLen; omega, by simp, by simp⟩⟩
theorem r4_new (W : World) (base : Nat) (hb : base ≤ W.heap.size) (e : Vr) : R4 (W.alloc (.cells #[e.u] 33)) base W.heap.size 1 [e] :=
  ⟨by simp, .inr ⟨W.heap.size, 1, #[e.u], rfl, hb, Array.getElem?_push_size, by simp, by unfold maxLen; omega, by simp, by simp⟩⟩

theorem r3_first {W : World} {base g c : Nat} {E : List Vr} (h : R3 W base g c E) (hE : 1 ≤ E.length) : ∀ z, W.cell? ⟨g, 0, none⟩ ≠ some (.int .i64 z) := by
  intro z hz
  obtain ⟨e, he⟩ : ∃ e, E[0]? = some e := ⟨_, List.getElem?_eq_getElem (by omega)⟩
  rw [h.at he] at hz
  simp at hz
theorem r4_first {W W' : World} {base g c g3 g4 k : Nat} {E : List Vr} (h : R4 W base g c E) (hE : 1 ≤ E.length) (hV : ∀ e ∈ E, Ver W' g3 g4 k e) : ∀ z, W.cell? ⟨g, 0, none⟩ ≠ some (.int .i64 z) := by
  intro z hz
  obtain ⟨e, he⟩ : ∃ e, E[0]? = some e := ⟨_, List.getElem?_eq_getElem (by omega)⟩
  obtain ⟨_, _, hu⟩ := sl_shape (hV e (List.mem_of_getElem? he)).2.2.2.2.1
  rw [h.at he, hu] at hz
  simp at hz
theorem r3_more {W : World} {base g c : Nat} {E : List Vr} {e : Vr} (h : W.ownsRow base 26 1 (.slice (some ⟨g, 0, none⟩) (E.length + 1) c) (E.length + 1) ((E.map fun e => .pointer e.p) ++ [.pointer e.p])) : R3 W base g c (E ++ [e]) := by
  unfold R3
  rw [List.length_append, List.map_append]
  exact h
theorem r4_more {W : World} {base g c : Nat} {E : List Vr} {e : Vr} (h : W.ownsRow base 33 1 (.slice (some ⟨g, 0, none⟩) (E.length + 1) c) (E.length + 1) ((E.map fun e => e.u) ++ [e.u])) : R4 W base g c (E ++ [e]) := by
  unfold R4
  rw [List.length_append, List.map_append]
  exact h

/-- The outcome of the reference's step: a list in fresh memory. -/
def RetAF (W : World) (A : List X) (e : Ending) (w' : World) : Prop := ∃ va vl vc v2, e = .returned (.tuple #[.slice va vl vc, v2, .int .i64 0]) ∧ Hid (Row w' W.heap.size (.slice va vl vc) A) ∧ Below W.heap.size W w'
theorem retAF {W w' : World} {A B : List X} {e : Ending} {w3 : World} (hw : Below W.heap.size W w') (h : RetCF w' A B e w3) : RetAF W A e w3 := by
  obtain ⟨v1, v2, he, h1, h2, h3⟩ := h
  obtain ⟨a, c, rfl⟩ := sl_shape h1.sl
  exact ⟨a, _, c, v2, he, Lib.hid (h1.mono hw.size), hw.trans (h3.mono hw.size)⟩
/-- The outcome of the reference's step that is not permitted. -/
def RetAE (W : World) (e : Ending) (w' : World) : Prop := e = .returned (.tuple #[.slice none 0 0, .slice none 0 0, .int .i64 1]) ∧ Below W.heap.size W w'

set_option maxHeartbeats 2000000 in
set_option maxRecDepth 100000 in
theorem pers_walk (v : Value) (S : List St) (w : World) (hS : SS w v S) (hm : S.length ≤ 9223372036854775807) : Calls Try.prog 5 #[v] w fun e w' => e = .returned (.bool true) ∧ Below w.heap.size w w' := by
  obtain ⟨i26, hi, hz0, hz1, hz2⟩ := info_parts Try.info26
  obtain ⟨i33, hj, hy0, hy1, hy2⟩ := info_parts Try.info33
  have HS := Lib.hid hS
  obtain ⟨ao, cap, rfl⟩ := hS.shape
  clear hS
  by_cases hlen : 40 < S.length
  · go_enter Try.func5, Try.ntmps5
    go_wp2_with fail
    refine (awake_any _).mono ?_
    rintro e w1 ⟨rfl, hb1⟩
    go_wp2_with fail
    go_ret
    exact ⟨rfl, hb1⟩
  · go_enter Try.func5, Try.ntmps5
    go_wp2_with fail
    refine (awake_any _).mono ?_
    rintro e w1 ⟨rfl, hb1⟩
    go_wp2_with fail
    refine (new_any _).mono ?_
    rintro e w2 ⟨rfl, hb2⟩
    go_wp2_with fail
    have c2 := hb1.trans (hb2.mono hb1.size)
    have hsz := c2.size
    have a1 := (Below.refl _ w2).alloc (Nat.le_refl _) (.cells #[.pointer none] 26)
    have a2 := a1.alloc a1.size (.cells #[.slice none 0 0] 33)
    have c4 := Lib.hid (c2.trans (a2.mono c2.size))
    have N3 := Lib.hid ((r3_new w2 w.heap.size hsz ⟨none, .nil, .slice none 0 0⟩).alloc (.cells #[.slice none 0 0] 33))
    have N4 := Lib.hid (r4_new (w2.alloc (.cells #[.pointer none] 26)) w.heap.size (by simp; omega) ⟨none, .nil, .slice none 0 0⟩)
    go_loopw [3, 4, 5] (fun t3 t4 i wr => ∃ (j : Nat) (E : List Vr) (g3 c3 g4 c4 : Nat), j ≤ S.length ∧ i = .int .i64 j ∧ t3 = .slice (some ⟨g3, 0, none⟩) E.length c3 ∧ t4 = .slice (some ⟨g4, 0, none⟩) E.length c4 ∧ 1 ≤ E.length ∧ E.length ≤ j + 1 ∧ R3 wr w.heap.size g3 c3 E ∧ R4 wr w.heap.size g4 c4 E ∧ (∀ e ∈ E, Ver wr g3 g4 j e) ∧ Below w.heap.size w wr) (fun _ _ i _ => S.length - (intOf i).toNat)
    case atStart =>
      refine ⟨0, [⟨none, .nil, .slice none 0 0⟩], w2.heap.size, 1, w2.heap.size + 1, 1, Nat.zero_le _, rfl, rfl, rfl, by simp, by simp, N3.out, ?_, ?_, c4.out⟩
      · have := N4.out
        rw [World.size_alloc] at this
        exact this
      · intro e he
        obtain rfl := List.mem_singleton.1 he
        exact ⟨rfl, trivial, vld.nil, List.Pairwise.nil, .inl ⟨⟨_, _, rfl⟩, rfl⟩, Nat.zero_le _, fun b hb => by cases hb⟩
    case round =>
      obtain ⟨j, E, g3, c3, g4, c4, hj', rfl, hu3, hu4, hE1, hE2, r3, r4, hV, hB⟩ := hrel
      have hu3' := hu3.symm
      subst hu3'
      clear hu3
      have hu4' := hu4.symm
      subst hu4'
      clear hu4
      by_cases hlt : j < S.length
      · obtain ⟨b, o, cap', s, hsh, hsj, hok, hbl, e0, e1, e2, e3⟩ := (HS.out.below hB).at hlt
        obtain ⟨rfl, rfl⟩ : ao = some ⟨b, o, none⟩ ∧ cap = cap' := by simpa using hsh
        have hj1 : (0 : Int) ≤ (j : Int) := by omega
        have hj2 : (j : Int) < (S.length : Int) := by omega
        have hnz : ¬ ((E.length : Int) = 0) := by omega
        obtain ⟨m, hmd⟩ : ∃ m : Nat, m = s.s.toNat % E.length := ⟨_, rfl⟩
        have hm1 : m < E.length := by rw [hmd]; exact Nat.mod_lt _ (by omega)
        have hok' := hok
        unfold St.ok at hok'
        obtain ⟨o1, o2, o3, o4, o5, o6⟩ := hok'
        have hrm : s.s.tmod (E.length : Int) = (m : Int) := by
          rw [Int.tmod_eq_emod_of_nonneg (by omega), hmd]
          have : s.s = ((s.s.toNat : Nat) : Int) := by omega
          rw [this]; simp
        have hm2 : (m : Int) < (E.length : Int) := by omega
        have hm3 : (0 : Int) ≤ (m : Int) := by omega
        obtain ⟨e, he⟩ : ∃ e, E[m]? = some e := ⟨_, List.getElem?_eq_getElem hm1⟩
        obtain ⟨hT, av, hv, hn, hu, hl, hub⟩ := hV e (List.mem_of_getElem? he)
        have n3 := r3.at he
        have n4 := r4.at he
        have l3 := r3.lt
        have l4 := r4.lt
        clear hub hmd
        obtain ⟨p, T, u⟩ := e
        dsimp only at hT av hv hn hu hl n3 n4
        by_cases hf : fine s
        · have AP := Lib.hid (fun w' (hw : Below wr.heap.size wr w') => (apply_fresh u (li T) s w' (hu.below hw) hv hn hok hf).mono fun e w3 h => retAF hw h)
          have ST := Lib.hid (fun W w' (h0 : Below wr.heap.size wr W) (hw : Below W.heap.size W w') => (step_any p T s w' ((hT.below h0).below hw) av hv hn hok hf).mono fun e w3 h => retG hw h)
          have VN := Lib.hid (nx_vn hv hok hf)
          have NL := Lib.hid (nx_len (s := s) hv hok)
          unfold sv tv at ST
          unfold sv at AP
          obtain ⟨ua, uc, rfl⟩ := sl_shape hu
          have HE := Lib.hid (And.intro r3 (And.intro r4 (And.intro hV hl)))
          clear hT av hv hn hu hok hsh hsj hf r3 r4 hV hl he
          obtain ⟨sc, sa, sn, ss⟩ := s
          dsimp only at e0 e1 e2 e3 ST AP VN NL hrm o1 o2 o3 o4 o5 o6
          have KS : Hid (∀ w', Below wr.heap.size wr w' → (Below wr.heap.size wr w' ∧ w'.cell? ⟨g3, m, none⟩ = some (.pointer p) ∧ w'.cell? ⟨g4, m, none⟩ = some (.slice ua (li T).length uc) ∧ w'.cell? ⟨b, o + j * 4, none⟩ = some (.bool sc) ∧ w'.cell? ⟨b, o + j * 4 + 1, none⟩ = some (.int .u8 sa) ∧ w'.cell? ⟨b, o + j * 4 + 2, none⟩ = some (.int .u8 sn) ∧ w'.cell? ⟨b, o + j * 4 + 3, none⟩ = some (.int .u8 ss))) :=
            fun w' h => ⟨h, (h.cell (p := ⟨g3, m, none⟩) l3).trans n3, (h.cell (p := ⟨g4, m, none⟩) l4).trans n4, (h.cell (p := ⟨b, o + j * 4, none⟩) hbl).trans e0, (h.cell (p := ⟨b, o + j * 4 + 1, none⟩) hbl).trans e1, (h.cell (p := ⟨b, o + j * 4 + 2, none⟩) hbl).trans e2, (h.cell (p := ⟨b, o + j * 4 + 3, none⟩) hbl).trans e3⟩
          go_upto_region 11 with fail
          go_cut [7, 8, 9] from 22 to 74 (fun x7 x8 x9 wx => ∃ (va : Option Addr) (vl vc : Nat) (v2 : Value), x7 = .slice va vl vc ∧ x8 = v2 ∧ x9 = .int .i64 0 ∧ Hid (Row wx wr.heap.size (.slice va vl vc) (nx (li T) ⟨sc, sa, sn, ss⟩)) ∧ Below wr.heap.size wr wx)
          case first =>
            go_region_held3 (fun w' => Below wr.heap.size wr w' ∧ w'.cell? ⟨g3, m, none⟩ = some (.pointer p) ∧ w'.cell? ⟨g4, m, none⟩ = some (.slice ua (li T).length uc) ∧ w'.cell? ⟨b, o + j * 4, none⟩ = some (.bool sc) ∧ w'.cell? ⟨b, o + j * 4 + 1, none⟩ = some (.int .u8 sa) ∧ w'.cell? ⟨b, o + j * 4 + 2, none⟩ = some (.int .u8 sn) ∧ w'.cell? ⟨b, o + j * 4 + 3, none⟩ = some (.int .u8 ss))
              ((refine KS.out _ ?_; first | exact (Below.refl _ _).drew | exact hb3))
              (first | (go_at_call 18; refine Calls.mono (AP.out _ (Below.refl _ _).drew) ?_; rintro e w3 ⟨va, vl, vc, v2, rfl, HR, hb3⟩))
            go_wp2_with fail
            go_meet
            exact ⟨va, vl, vc, v2, rfl, rfl, rfl, HR, hb3⟩
          case rest =>
            obtain ⟨va, vl, vc, v2, rfl, hv2, rfl, HR, hbc⟩ := hcut
            obtain ⟨v2', hv2'⟩ : ∃ v2', v2' = v2 := ⟨_, rfl⟩
            rw [← hv2'] at hv2
            clear hv2' v2
            subst hv2
            obtain ⟨w3, hw3⟩ : ∃ w3, w3 = wc := ⟨_, rfl⟩
            rw [← hw3] at HR hbc ⊢
            clear hw3
            obtain ⟨_, n3', n4', e0', e1', e2', e3'⟩ := KS.out w3 hbc
            have KT : Hid (∀ w', Below w3.heap.size w3 w' → (Below w3.heap.size w3 w' ∧ w'.cell? ⟨g3, m, none⟩ = some (.pointer p) ∧ w'.cell? ⟨g4, m, none⟩ = some (.slice ua (li T).length uc) ∧ w'.cell? ⟨b, o + j * 4, none⟩ = some (.bool sc) ∧ w'.cell? ⟨b, o + j * 4 + 1, none⟩ = some (.int .u8 sa) ∧ w'.cell? ⟨b, o + j * 4 + 2, none⟩ = some (.int .u8 sn) ∧ w'.cell? ⟨b, o + j * 4 + 3, none⟩ = some (.int .u8 ss))) :=
              fun w' h => ⟨h, (KS.out w' (hbc.trans (h.mono hbc.size))).2⟩
            clear AP KS n3 n4 e0 e1 e2 e3
            go_upto_region 13 with fail
            go_cut [10, 11, 12] from 22 to 74 (fun x6 x7 x8 wx => ∃ (N : Nat) (q : Option Addr) (T' : BT X) (za : Option Addr) (zl zc : Nat), x6 = .pointer (some ⟨N, 0, none⟩) ∧ x7 = .slice za zl zc ∧ x8 = .int .i64 0 ∧ w3.heap.size ≤ N ∧ Blk wx N #[.pointer q] 26 ∧ At wx q T' ∧ avl T' ∧ li T' = nx (li T) ⟨sc, sa, sn, ss⟩ ∧ Below w3.heap.size w3 wx)
            case first =>
              have KN : Hid (Blk (w3.alloc (.cells #[.pointer none] 26)).drew w3.heap.size #[.pointer none] 26) := Lib.hid (Blk.new w3 _ 26)
              have AL0 : Hid (Below w3.heap.size w3 (w3.alloc (.cells #[.pointer none] 26))) := Lib.hid ((Below.refl _ w3).alloc (Nat.le_refl _) _)
              have STC := Lib.hid (fun w' (hw : Below w3.heap.size w3 w') => ST.out w3 w' hbc hw)
              clear ST
              go_region_held3 (fun w' => Below w3.heap.size w3 w' ∧ w'.cell? ⟨g3, m, none⟩ = some (.pointer p) ∧ w'.cell? ⟨g4, m, none⟩ = some (.slice ua (li T).length uc) ∧ w'.cell? ⟨b, o + j * 4, none⟩ = some (.bool sc) ∧ w'.cell? ⟨b, o + j * 4 + 1, none⟩ = some (.int .u8 sa) ∧ w'.cell? ⟨b, o + j * 4 + 2, none⟩ = some (.int .u8 sn) ∧ w'.cell? ⟨b, o + j * 4 + 3, none⟩ = some (.int .u8 ss))
                ((refine KT.out _ ?_; first | exact (Below.refl _ _).drew | exact AL0.out.drew | exact AL0.out | exact hb5 | exact hb5.alloc hb5.size _ | exact (hb5.alloc hb5.size _).setCell (p := ⟨_, 0, none⟩) hb5.size _ | exact hb5.setCell (p := ⟨w3.heap.size, 0, none⟩) (Nat.le_refl _) _))
                (first | (go_at_call 19; refine Calls.mono (STC.out _ (by first | exact (Below.refl _ _).drew | exact AL0.out.drew)) ?_; rintro e w5 ⟨q, T', za, zl, zc, rfl, HT', hb5, HK⟩; (try (have m0 := (HK.out w3.heap.size #[.pointer none] 26 KN.out).cell 0; have f0 := (HK.out w3.heap.size #[.pointer none] 26 KN.out).frozen 0; rw [c1] at m0))))
              · go_wp2_with fail
                go_meet
                have al3 := (Below.refl _ w5).alloc (Nat.le_refl _) (.cells #[.pointer q] 26)
                exact ⟨w5.heap.size, q, T', za, zl, zc, rfl, rfl, rfl, hb5.size, Blk.new _ _ 26, HT'.out.1.below al3, HT'.out.2.1, HT'.out.2.2.1, hb5.alloc hb5.size _⟩
              · go_wp2_with fail
                go_meet
                have kn := HK.out w3.heap.size #[.pointer none] 26 KN.out
                exact ⟨w3.heap.size, q, T', za, zl, zc, rfl, rfl, rfl, Nat.le_refl _, kn.set 0 _, IsT.turn (N := w3.heap.size) (W := w5) (n := w5.heap.size) (kn.cell 3) (fun k hk => by rw [Below.heap_setCell _ _ _ _ hk]) (by simp) HT'.out.1, HT'.out.2.1, HT'.out.2.2.1, hb5.setCell (p := ⟨w3.heap.size, 0, none⟩) (Nat.le_refl _) _⟩
            case rest =>
              obtain ⟨N, q, T', za, zl, zc, rfl, rfl, rfl, hN, kN, hT', av', hl', hbd⟩ := hcut
              have m0 := kN.cell 0
              rw [c1] at m0
              have cB := hbc.trans (hbd.mono hbc.size)
              obtain ⟨r3, r4, hV, hl⟩ := HE.out
              have r3' : R3 wc w.heap.size g3 c3 E := own_keep r3 cB
              have r4' : R4 wc w.heap.size g4 c4 E := own_keep r4 cB
              have hrr := HR.out.keep hbd
              have hne := rows_ne r3' r4'
              have hBc := hB.trans (cB.mono hB.size)
              have hsc := hBc.size
              have VE : Hid (Ver wc g3 g4 (j + 1) ⟨q, T', .slice va vl vc⟩) := Lib.hid ⟨hT', av', by rw [hl']; exact VN.out.1, by rw [hl']; exact VN.out.2, by rw [hl']; exact hrr.sl, by have := NL.out; rw [hl']; omega, fun k hk => by
                have g := (World.ownsRow.lt hrr) k hk
                refine ⟨?_, ?_, ?_⟩ <;> omega⟩
              have VA : Hid (∀ e ∈ E, Ver wc g3 g4 (j + 1) e) := Lib.hid fun e he => ((hV e he).below cB).more (by omega)
              have X3 := Lib.hid (r3'.alloc (.cells #[.pointer q] 26))
              have X4 := Lib.hid (r4'.alloc (.cells #[.pointer q] 26))
              have AL := Lib.hid ((Below.refl _ wc).alloc (Nat.le_refl _) (.cells #[.pointer q] 26))
              have NW := Lib.hid (cell_one_new wc (.pointer q) 26)
              clear r3 r4 hV hl hT' av' hl' hrr r3' r4' HE HR KT n3' n4' e0' e1' e2' e3' ST VN NL kN
              go_wp2_with (at_builtin; refine wpList_append_lies _ rfl _ _ 42 rfl w.heap.size 26 i26 _ 1 8 Try.underlying42 hi hz0 hz1 hz2 rfl (by decide) _ _ _ rfl X3.out ⟨wc.heap.size, 0, none⟩ 1 1 [.pointer q] rfl rfl NW.out (by simp [Value.oneCell']) (by decide) ?c3 ?c4 ?c5 _ rfl ?_)
              case c3 => unfold maxLen; omega
              case c4 => omega
              case c5 => first | omega | (rw [World.size_alloc]; omega)
              intro g3' c3' w5 hown5 hgrow5 hat5 hlt5
              have hg5 : (wc.alloc (.cells #[.pointer q] 26)).grownBy w5 (some g3) := hgrow5
              have ha5 : g3' = g3 ∨ (wc.alloc (.cells #[.pointer q] 26)).heap.size ≤ g3' := by
                rcases hat5 with h | h
                · left; simp [Value.ownBlock] at h; omega
                · right; rw [World.size_alloc]; omega
              have f3 := r3_first (E := E) X3.out hE1
              have V5 : Hid (∀ e ∈ E, Ver w5 g3' g4 (j + 1) e) := Lib.hid fun e he => ((VA.out e he).below AL.out).grow f3 hg5 (.inl rfl) ha5 (.inl rfl)
              have VE5 : Hid (Ver w5 g3' g4 (j + 1) ⟨q, T', .slice va vl vc⟩) := Lib.hid ((VE.out.below AL.out).grow f3 hg5 (.inl rfl) ha5 (.inl rfl))
              have r35 : R3 w5 w.heap.size g3' c3' (E ++ [⟨q, T', .slice va vl vc⟩]) := r3_more hown5
              have r45 : R4 w5 w.heap.size g4 c4 E := World.ownsRow.kept X4.out hg5 (.inr (fun h => hne (by simp [Value.ownBlock] at h; omega)))
              have hB5 : Below w.heap.size w w5 := (hBc.alloc hBc.size _).grown hg5 (by simp; omega) (fun k hk => by
                obtain rfl : g3 = k := by simpa using hk
                obtain ⟨_, _, _, h, _⟩ := own_at X3.out
                exact h)
              have hne5 := rows_ne r35 r45
              have hs5 := hB5.size
              have Y3 := Lib.hid (r35.alloc (.cells #[.slice va vl vc] 33))
              have Y4 := Lib.hid (r45.alloc (.cells #[.slice va vl vc] 33))
              have AL5 := Lib.hid ((Below.refl _ w5).alloc (Nat.le_refl _) (.cells #[.slice va vl vc] 33))
              have NW5 := Lib.hid (cell_one_new w5 (.slice va vl vc) 33)
              have HB5 := Lib.hid hB5
              clear hg5 ha5 f3 r35 r45 hown5 hgrow5 hat5 X3 X4 AL NW VA VE hB5 m0
              go_wp2_with (at_builtin; refine wpList_append_lies _ rfl _ _ 43 rfl w.heap.size 33 i33 _ 1 24 Try.underlying43 hj hy0 hy1 hy2 rfl (by decide) _ _ _ rfl Y4.out ⟨w5.heap.size, 0, none⟩ 1 1 [.slice va vl vc] rfl rfl NW5.out (by simp [Value.oneCell']) (by decide) ?c3 ?c4 ?c5 _ rfl ?_)
              case c3 => unfold maxLen; omega
              case c4 => omega
              case c5 => first | omega | (rw [World.size_alloc]; omega)
              intro g4' c4' w6 hown6 hgrow6 hat6 hlt6
              go_wp2_with fail
              go_roundw
              case rel =>
                have hg6 : (w5.alloc (.cells #[.slice va vl vc] 33)).grownBy w6 (some g4) := hgrow6
                have ha6 : g4' = g4 ∨ (w5.alloc (.cells #[.slice va vl vc] 33)).heap.size ≤ g4' := by
                  rcases hat6 with h | h
                  · left; simp [Value.ownBlock] at h; omega
                  · right; rw [World.size_alloc]; omega
                have f4 := r4_first (E := E) Y4.out hE1 V5.out
                have V6 : ∀ e ∈ E, Ver w6 g3' g4' (j + 1) e := fun e he => ((V5.out e he).below AL5.out).grow f4 hg6 (.inr rfl) (.inl rfl) ha6
                have VE6 : Ver w6 g3' g4' (j + 1) ⟨q, T', .slice va vl vc⟩ := (VE5.out.below AL5.out).grow f4 hg6 (.inr rfl) (.inl rfl) ha6
                have r36 : R3 w6 w.heap.size g3' c3' (E ++ [⟨q, T', .slice va vl vc⟩]) := World.ownsRow.kept Y3.out hg6 (.inr (fun h => hne5 (by simp [Value.ownBlock] at h; omega)))
                have r46 : R4 w6 w.heap.size g4' c4' (E ++ [⟨q, T', .slice va vl vc⟩]) := r4_more hown6
                have hB6 : Below w.heap.size w w6 := (HB5.out.alloc HB5.out.size _).grown hg6 (by rw [World.size_alloc]; omega) (fun k hk => by
                  obtain rfl : g4 = k := by simpa using hk
                  obtain ⟨_, _, _, h, _⟩ := own_at Y4.out
                  exact h)
                exact ⟨j + 1, E ++ [⟨q, T', .slice va vl vc⟩], g3', c3', g4', c4', by omega, by go_num, by simp, by simp, by simp, by simp; omega, r36, r46, fun e he => by
                  rcases List.mem_append.1 he with h | h
                  · exact V6 e h
                  · obtain rfl := List.mem_singleton.1 h; exact VE6, hB6⟩
              case measure => simp [intOf]; omega
        · have AP := Lib.hid (fun w' (hw : Below wr.heap.size wr w') => (apply_bad u (li T) s w' (hu.below hw) hv hok hf).mono fun e w3 (h : RetCE w' e w3) => (⟨h.1, hw.trans (h.2.mono hw.size)⟩ : RetAE wr e w3))
          unfold sv at AP
          obtain ⟨ua, uc, rfl⟩ := sl_shape hu
          have HE := Lib.hid (And.intro r3 (And.intro r4 hV))
          clear hT av hv hn hu hok hsh hsj hf r3 r4 hV hl he
          obtain ⟨sc, sa, sn, ss⟩ := s
          dsimp only at e0 e1 e2 e3 AP hrm o1 o2 o3 o4 o5 o6
          have KS : Hid (∀ w', Below wr.heap.size wr w' → (Below wr.heap.size wr w' ∧ w'.cell? ⟨g4, m, none⟩ = some (.slice ua (li T).length uc) ∧ w'.cell? ⟨b, o + j * 4, none⟩ = some (.bool sc) ∧ w'.cell? ⟨b, o + j * 4 + 1, none⟩ = some (.int .u8 sa) ∧ w'.cell? ⟨b, o + j * 4 + 2, none⟩ = some (.int .u8 sn) ∧ w'.cell? ⟨b, o + j * 4 + 3, none⟩ = some (.int .u8 ss))) :=
            fun w' h => ⟨h, (h.cell (p := ⟨g4, m, none⟩) l4).trans n4, (h.cell (p := ⟨b, o + j * 4, none⟩) hbl).trans e0, (h.cell (p := ⟨b, o + j * 4 + 1, none⟩) hbl).trans e1, (h.cell (p := ⟨b, o + j * 4 + 2, none⟩) hbl).trans e2, (h.cell (p := ⟨b, o + j * 4 + 3, none⟩) hbl).trans e3⟩
          go_upto_region 11 with fail
          go_cut [7, 8, 9] from 22 to 74 (fun x7 x8 x9 wx => x7 = .slice none 0 0 ∧ x8 = .slice none 0 0 ∧ x9 = .int .i64 1 ∧ Below wr.heap.size wr wx)
          case first =>
            go_region_held3 (fun w' => Below wr.heap.size wr w' ∧ w'.cell? ⟨g4, m, none⟩ = some (.slice ua (li T).length uc) ∧ w'.cell? ⟨b, o + j * 4, none⟩ = some (.bool sc) ∧ w'.cell? ⟨b, o + j * 4 + 1, none⟩ = some (.int .u8 sa) ∧ w'.cell? ⟨b, o + j * 4 + 2, none⟩ = some (.int .u8 sn) ∧ w'.cell? ⟨b, o + j * 4 + 3, none⟩ = some (.int .u8 ss))
              ((refine KS.out _ ?_; first | exact (Below.refl _ _).drew | exact hb3))
              (first | (go_at_call 18; refine Calls.mono (AP.out _ (Below.refl _ _).drew) ?_; rintro e w3 ⟨rfl, hb3⟩))
            go_wp2_with fail
            go_meet
            exact ⟨rfl, rfl, rfl, hb3⟩
          case rest =>
            obtain ⟨rfl, rfl, rfl, hbc⟩ := hcut
            clear KS AP n3 n4 e0 e1 e2 e3
            go_wp2_with fail
            go_roundw
            case rel =>
              exact ⟨j + 1, E, g3, c3, g4, c4, by omega, by go_num, rfl, rfl, hE1, by omega, own_keep HE.out.1 hbc, own_keep HE.out.2.1 hbc, fun e he => ((HE.out.2.2 e he).below hbc).more (by omega), hB.trans (hbc.mono hB.size)⟩
            case measure => simp [intOf]; omega
      · have hjS : j = S.length := by omega
        have HE := Lib.hid (And.intro r3 (And.intro r4 hV))
        clear r3 r4 hV
        go_wp2_with fail
        obtain ⟨wq, hwq⟩ : ∃ wq, wq = wr := ⟨_, rfl⟩
        rw [← hwq] at HE hB ⊢
        clear hwq
        go_loopw [13] (fun i wz => ∃ k : Nat, k ≤ E.length ∧ i = .int .i64 k ∧ Below wq.heap.size wq wz) (fun i _ => E.length - (intOf i).toNat)
        case atStart => exact ⟨0, Nat.zero_le _, rfl, Below.refl _ _⟩
        case round =>
          obtain ⟨k, hk, rfl, hbz⟩ := hrel
          by_cases hlt2 : k < E.length
          · obtain ⟨e, he⟩ : ∃ e, E[k]? = some e := ⟨_, List.getElem?_eq_getElem hlt2⟩
            obtain ⟨hT, _, hv, _, hu, hl, _⟩ := (HE.out.2.2 e (List.mem_of_getElem? he)).below hbz
            have n3 := (show R3 wr w.heap.size g3 c3 E from own_keep HE.out.1 hbz).at he
            have n4 := (show R4 wr w.heap.size g4 c4 E from own_keep HE.out.2.1 hbz).at he
            have l3 := (show R3 wr w.heap.size g3 c3 E from own_keep HE.out.1 hbz).lt
            have l4 := (show R4 wr w.heap.size g4 c4 E from own_keep HE.out.2.1 hbz).lt
            obtain ⟨p, T, u⟩ := e
            dsimp only at hT hv hu hl n3 n4
            have hk1 : (0 : Int) ≤ (k : Int) := by omega
            have hk2 : (k : Int) < (E.length : Int) := by omega
            obtain ⟨ua, uc, rfl⟩ := sl_shape hu
            have AL : Hid (∀ w', Below wr.heap.size wr w' → Calls Try.prog 21 #[.agg #[.pointer p]] w' (RetN wr (li T))) := Lib.hid fun w' hw => by
              refine (all_any p T w' (hT.below hw) (by omega)).mono ?_
              rintro e w3 ⟨v, rfl, h1, h2⟩
              obtain ⟨a, c, rfl⟩ := sl_shape h1
              exact ⟨a, c, rfl, Lib.hid h1, hw.trans (h2.mono hw.size)⟩
            have SN : Hid (∀ w' a c, Sl w' (.slice a (li T).length c) (li T) → Below wr.heap.size wr w' → Calls Try.prog 20 #[.slice a (li T).length c, .slice ua (li T).length uc] w' fun e w3 => e = .returned (.bool true) ∧ Below wr.heap.size wr w3) := Lib.hid fun w' a c h hw =>
              (same_any _ _ (li T) w' h (hu.below hw) (by omega)).mono fun e w3 ⟨h1, h2⟩ => ⟨h1, hw.trans (h2.mono hw.size)⟩
            have KS : Hid (∀ w', Below wr.heap.size wr w' → (Below wr.heap.size wr w' ∧ w'.cell? ⟨g3, k, none⟩ = some (.pointer p) ∧ w'.cell? ⟨g4, k, none⟩ = some (.slice ua (li T).length uc))) :=
              fun w' h => ⟨h, (h.cell (p := ⟨g3, k, none⟩) l3).trans n3, (h.cell (p := ⟨g4, k, none⟩) l4).trans n4⟩
            clear hT hv hu hl he
            go_upto_region 20 with fail
            go_region_held3 (fun w' => Below wr.heap.size wr w' ∧ w'.cell? ⟨g3, k, none⟩ = some (.pointer p) ∧ w'.cell? ⟨g4, k, none⟩ = some (.slice ua (li T).length uc))
              ((refine KS.out _ ?_; first | exact hb9 | exact hb8 | exact (Below.refl _ _).drew))
              (first | (have hh8 := h8.out; go_at_call 20; refine Calls.mono (SN.out _ _ _ hh8 hb8) ?_; clear hh8; rintro e w9 ⟨rfl, hb9⟩) | (go_at_call 21; refine Calls.mono (AL.out _ (Below.refl _ _).drew) ?_; rintro e w8 ⟨a8, c8, rfl, h8, hb8⟩))
            go_wp2_with fail
            go_roundw
            case rel => exact ⟨k + 1, by omega, by go_num, hbz.trans (hb9.mono hbz.size)⟩
            case measure => simp [intOf]; omega
          · go_wp2_with fail
            go_ret
            exact ⟨rfl, hB.trans (hbz.mono hB.size)⟩

end Go.Proofs.Ytdfdnimledcfbaa
