/- The laws' own build: a script put into a tree and into a list. Conditions: the script has at most 40 steps. -/
import Derived.Test.YtdfdnimledcfbaaScriptLaw
namespace Go.Proofs.Ytdfdnimledcfbaa
open Go.RowKit
open Go.Deep (BT)

/-- A tree and a slice that hold the same list. -/
def RetBd (w : World) (k : Nat) (e : Ending) (w' : World) : Prop := ∃ (q : Option Addr) (T : BT X) (v : Value), e = .returned (.tuple #[.agg #[.pointer q], v]) ∧ At w' q T ∧ avl T ∧ vld (li T) ∧ nf (li T) ∧ Sl w' v (li T) ∧ (li T).length ≤ k ∧ Below w.heap.size w w'

set_option maxHeartbeats 2000000 in
set_option maxRecDepth 100000 in
theorem lawbuild_any (v : Value) (S : List St) (w : World) (hS : SS w v S) (hlen : S.length ≤ 40) : Calls Try.prog 22 #[v] w (RetBd w (2 * S.length)) := by
  have HS := Lib.hid hS
  obtain ⟨ao, cap, rfl⟩ := hS.shape
  clear hS
  have B0 := Lib.hid ((Below.refl _ w).alloc (Nat.le_refl _) (.cells #[.pointer none] 26))
  have K0 := Lib.hid (Blk.new w #[.pointer none] 26)
  go_enter Try.func22, Try.ntmps22
  go_wp2_with fail
  refine (new_any _).mono ?_
  rintro e w2 ⟨rfl, hb2⟩
  go_wp2_with fail
  have c2 : Below w.heap.size w w2 := B0.out.trans (hb2.mono B0.out.size)
  have c3 := Lib.hid (c2.alloc c2.size (.cells #[.pointer none] 26))
  have KR := Lib.hid (show Blk (w2.alloc (.cells #[.pointer none] 26)) w.heap.size #[.pointer none] 26 from (K0.out.keep hb2).alloc _)
  have hsz := c2.size
  have hsr : w.heap.size < w2.heap.size := (K0.out.keep hb2).lt
  go_loopw [5, 6] (fun u i wr => ∃ (j : Nat) (p : Option Addr) (T : BT X) (u' : Value), j ≤ S.length ∧ i = .int .i64 j ∧ u = u' ∧ Blk wr w.heap.size #[.pointer none] 26 ∧ Blk wr w2.heap.size #[.pointer p] 26 ∧ At wr p T ∧ avl T ∧ vld (li T) ∧ nf (li T) ∧ Sl wr u' (li T) ∧ (li T).length ≤ 2 * j ∧ Below w.heap.size w wr) (fun _ i _ => S.length - (intOf i).toNat)
  case atStart => exact ⟨0, none, .nil, _, Nat.zero_le _, rfl, rfl, KR.out, Blk.new _ _ _, rfl, trivial, vld.nil, List.Pairwise.nil, .inl ⟨⟨_, _, rfl⟩, rfl⟩, Nat.zero_le _, c3.out⟩
  case round =>
    obtain ⟨j, p, T, u, hj, rfl, hu0, kr, kb, hT, av, hv, hn, hu, hl, hB⟩ := hrel
    have hu0' := hu0.symm
    subst hu0'
    clear hu0
    have n0 : wr.cell? ⟨w2.heap.size, 0, none⟩ = some (.pointer p) := kb.cell 0
    have hkb := kb.lt
    by_cases hlt : j < S.length
    · obtain ⟨b, o, cap', s, hsh, hsj, hok, hbl, e0, e1, e2, e3⟩ := (HS.out.below hB).at hlt
      obtain ⟨rfl, rfl⟩ : ao = some ⟨b, o, none⟩ ∧ cap = cap' := by simpa using hsh
      have hj1 : (0 : Int) ≤ (j : Int) := by omega
      have hj2 : (j : Int) < (S.length : Int) := by omega
      by_cases hf : fine s
      · have ST := Lib.hid (fun w' (hw : Below wr.heap.size wr w') => step_any p T s w' (hT.below hw) av hv hn hok hf)
        have AP := Lib.hid (apply_any u (li T) s wr hu hv hn hok hf)
        have VN := Lib.hid (nx_vn hv hok hf)
        have NL := Lib.hid (nx_len (s := s) hv hok)
        have KB := Lib.hid (And.intro kr kb)
        unfold sv tv at ST
        unfold sv at AP
        obtain ⟨ua, uc, rfl⟩ := sl_shape hu
        clear hT av hv hn hu hok hsh hsj kb kr hf
        obtain ⟨sc, sa, sn, ss⟩ := s
        dsimp only at e0 e1 e2 e3 ST AP VN NL
        have KS : Hid (∀ w', Below wr.heap.size wr w' → (Below wr.heap.size wr w' ∧ w'.cell? ⟨w2.heap.size, 0, none⟩ = some (.pointer p) ∧ w'.cell? ⟨b, o + j * 4, none⟩ = some (.bool sc) ∧ w'.cell? ⟨b, o + j * 4 + 1, none⟩ = some (.int .u8 sa) ∧ w'.cell? ⟨b, o + j * 4 + 2, none⟩ = some (.int .u8 sn) ∧ w'.cell? ⟨b, o + j * 4 + 3, none⟩ = some (.int .u8 ss))) :=
          fun w' h => ⟨h, (h.cell (p := ⟨w2.heap.size, 0, none⟩) hkb).trans n0, (h.cell (p := ⟨b, o + j * 4, none⟩) hbl).trans e0, (h.cell (p := ⟨b, o + j * 4 + 1, none⟩) hbl).trans e1, (h.cell (p := ⟨b, o + j * 4 + 2, none⟩) hbl).trans e2, (h.cell (p := ⟨b, o + j * 4 + 3, none⟩) hbl).trans e3⟩
        go_wp2_with fail
        refine AP.out.mono ?_
        rintro e w5 ⟨v1, v2, rfl, h1, h2, hb5⟩
        obtain ⟨a1, c1', rfl⟩ := sl_shape h1
        obtain ⟨a2, c2', rfl⟩ := sl_shape h2
        have H1 := Lib.hid h1; clear h1 h2
        obtain ⟨_, n0', e0', e1', e2', e3'⟩ := KS.out w5 hb5
        have kb5 := KB.out.2.keep hb5
        have f0 := kb5.frozen 0
        have HB5 := Lib.hid hb5
        clear n0 e0 e1 e2 e3 kb5
        go_upto_region 8 with fail
        go_cut [7] from 11 to 39 (fun x7 wx => ∃ (q : Option Addr) (T' : BT X), x7 = .slice a1 (nx (li T) ⟨sc, sa, sn, ss⟩).length c1' ∧ Blk wx w.heap.size #[.pointer none] 26 ∧ Blk wx w2.heap.size #[.pointer q] 26 ∧ At wx q T' ∧ avl T' ∧ li T' = nx (li T) ⟨sc, sa, sn, ss⟩ ∧ Sl wx (.slice a1 (nx (li T) ⟨sc, sa, sn, ss⟩).length c1') (nx (li T) ⟨sc, sa, sn, ss⟩) ∧ Below w.heap.size w wx)
        case first =>
          have FN : Hid (∀ w6, Below w5.drew.heap.size w5.drew w6 → w6.cell? ⟨w2.heap.size, 0, none⟩ = some (.pointer p) ∧ w6.frozen? ⟨w2.heap.size, 0, none⟩ = false) := Lib.hid (fun w6 hb6 => ⟨((KB.out.2.keep HB5.out).keep ((Below.refl _ w5).drew.trans hb6)).cell 0, ((KB.out.2.keep HB5.out).keep ((Below.refl _ w5).drew.trans hb6)).frozen 0⟩)
          go_region_with (go_at_call 19; refine (ST.out _ HB5.out.drew).mono ?_; rintro e w6 ⟨q, T', vv, rfl, hT', av', hl', hr', hb6⟩; obtain ⟨va, vc, rfl⟩ := sl_shape hr'.sl; have HT' := Lib.hid (And.intro hT' (And.intro av' hl')); clear hT' av' hl' hr'; obtain ⟨m1, f1⟩ := FN.out w6 hb6)
          all_goals
            go_wp2_with fail
            go_meet
            have b56 : Below w5.heap.size w5 w6 := (Below.refl _ w5).drew.trans hb6
            have kb6 := (KB.out.2.keep HB5.out).keep b56
            have kr6 := (KB.out.1.keep HB5.out).keep b56
            have b06 : Below w.heap.size w w6 := (hB.trans (HB5.out.mono hB.size)).trans (b56.mono (Nat.le_trans hB.size HB5.out.size))
            exact ⟨q, T', rfl, kr6.other (b' := w2.heap.size) (by omega) 0 (.pointer q), kb6.set 0 (.pointer q), IsT.turn (N := w2.heap.size) (W := w6) (n := w6.heap.size) (kb6.cell 3) (fun k hk => by rw [Below.heap_setCell _ _ _ _ hk]) (by simp) HT'.out.1, HT'.out.2.1, HT'.out.2.2, (H1.out.below b56).turn (y := .pointer q) kb6, b06.setCell (p := ⟨w2.heap.size, 0, none⟩) hsz (.pointer q)⟩
        case rest =>
          obtain ⟨q, T', rfl, kr7, kb7, tt, av', hl', s7, b07⟩ := hcut
          have TT := Lib.hid (And.intro kr7 (And.intro kb7 (And.intro tt (And.intro av' (And.intro hl' (And.intro s7 b07)))))); clear kr7 kb7 tt av' hl' s7 b07
          go_wp2_with fail
          obtain ⟨kr7, kb7, tt, av', hl', s7, b07⟩ := TT.out
          go_roundw
          case rel => exact ⟨j + 1, q, T', _, by omega, by go_num, rfl, kr7, kb7, tt, av', by rw [hl']; exact VN.out.1, by rw [hl']; exact VN.out.2, by rw [hl']; exact s7, by rw [hl']; have := NL.out; omega, b07⟩
          case measure => simp [intOf]; omega
      · have AP := Lib.hid (apply_bad u (li T) s wr hu hv hok hf)
        have HX := Lib.hid (And.intro hT (And.intro av (And.intro hv (And.intro hn (And.intro hu (And.intro hl (And.intro kr kb)))))))
        unfold sv at AP
        obtain ⟨ua, uc, rfl⟩ := sl_shape hu
        clear hT av hv hn hu hl hok hsh hsj kb kr hf
        obtain ⟨sc, sa, sn, ss⟩ := s
        dsimp only at e0 e1 e2 e3 AP
        go_wp2_with fail
        refine AP.out.mono ?_
        rintro e w5 ⟨rfl, b6⟩
        clear n0 e0 e1 e2 e3
        go_wp2_with fail
        go_roundw
        case rel => exact ⟨j + 1, p, T, _, by omega, by go_num, rfl, HX.out.2.2.2.2.2.2.1.keep b6, HX.out.2.2.2.2.2.2.2.keep b6, HX.out.1.below b6, HX.out.2.1, HX.out.2.2.1, HX.out.2.2.2.1, HX.out.2.2.2.2.1.below b6, by have := HX.out.2.2.2.2.2.1; omega, hB.trans (b6.mono hB.size)⟩
        case measure => simp [intOf]; omega
    · have r0 := kr.cell 0
      have rf := kr.frozen 0
      rw [c1] at r0
      have HX := Lib.hid (And.intro hT (And.intro av (And.intro hv (And.intro hn (And.intro hu (And.intro hl kr))))))
      obtain ⟨ua, uc, rfl⟩ := sl_shape hu
      clear hT av hv hn hu hl kb kr
      go_wp2_with fail
      obtain ⟨hT, av, hv, hn, hu, hl, kr⟩ := HX.out
      have kr2 := kr.set 0 (.pointer p)
      have r2 := kr2.cell 0
      rw [show (#[Value.pointer none].setIfInBounds 0 (Value.pointer p))[0]? = some (Value.pointer p) from rfl] at r2
      refine bodyPost_ret (v := .tuple #[.agg #[.pointer p], .slice ua (li T).length uc]) (by simp [results, Try.results22, go_sem, r2]) rfl ?_
      exact ⟨p, T, _, rfl, IsT.turn (N := w.heap.size) (W := wr) (n := wr.heap.size) (kr.cell 3) (fun k hk => by rw [Below.heap_setCell _ _ _ _ hk]) (by simp) hT, av, hv, hn, hu.turn kr, by omega, hB.setCell (p := ⟨w.heap.size, 0, none⟩) (Nat.le_refl _) _⟩

end Go.Proofs.Ytdfdnimledcfbaa
