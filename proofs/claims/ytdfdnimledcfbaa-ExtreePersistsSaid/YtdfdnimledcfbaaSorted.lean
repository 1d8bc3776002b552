/- ExtreeSorted returns true for every number and direction. Conditions: none. -/
import Derived.Test.YtdfdnimledcfbaaAwake
namespace Go.Proofs.Ytdfdnimledcfbaa
open Go.RowKit
open Go.Deep (BT)

theorem sl_shape {W : World} {v : Value} {L : List X} (h : Sl W v L) : ∃ ao cap, v = .slice ao L.length cap := by
  rcases h with ⟨⟨ao, cap, h1⟩, rfl⟩ | ⟨b, o, cap, h1, _⟩
  · exact ⟨ao, cap, h1⟩
  · exact ⟨_, _, h1⟩

theorem Sl.at {W : World} {ao : Option Addr} {cap : Nat} {L : List X} (h : Sl W (.slice ao L.length cap) L) {i : Nat} (hi : i < L.length) : ∃ b o x, ao = some ⟨b, o, none⟩ ∧ L[i]? = some x ∧
    W.cell? ⟨b, o + i * 3, none⟩ = some (.int .i64 x.a) ∧ W.cell? ⟨b, o + i * 3 + 1, none⟩ = some (.int .i64 x.n) ∧ W.cell? ⟨b, o + i * 3 + 2, none⟩ = some (.int .i64 x.s) := by
  rcases h with ⟨_, rfl⟩ | ⟨b, o, cap', h1, h2, h3, h4⟩
  · simp at hi
  · have hs := List.getElem?_eq_getElem hi
    simp only [Value.slice.injEq] at h1
    exact ⟨b, o, _, h1.1, hs, h4 i _ hs⟩

theorem put_after {L : List X} {x : X} (hv : vld L) (hn : nf L) (hx : okx x) (h : ∀ y ∈ L, y.a + y.n < x.a) : put L x = L ++ [x] ∧ mid L x.a x.n = [] := by
  have h1 := hdL_ahead (t := x.a) (l := L) (fun y hy => by have := h y hy; have := hv.1 y hy; unfold okx at this; omega)
  have h2 := hdL_ahead (t := x.a + x.n) (l := L) (fun y hy => by have := h y hy; have := hv.1 y hy; unfold okx at *; omega)
  constructor
  · unfold put
    rw [h1.1, h2.2]
    refine jn_nf (nf_append.2 ⟨hn, by simp [nf], fun p hp q hq => ?_⟩)
    simp only [List.mem_singleton] at hq
    subst hq
    have := h p hp
    unfold adj
    omega
  · unfold mid
    rw [h1.2]
    simp [hdL]

theorem put_before {L : List X} {x : X} (hn : nf L) (hx : okx x) (h : ∀ y ∈ L, x.a + x.n < y.a) : put L x = x :: L ∧ mid L x.a x.n = [] := by
  have h1 := hdL_behind (t := x.a) (l := L) (fun y hy => by have := h y hy; unfold okx at hx; omega)
  have h2 := hdL_behind (t := x.a + x.n) (l := L) (fun y hy => by have := h y hy; omega)
  constructor
  · unfold put
    rw [h1.1, h2.2]
    refine jn_nf (nf_append.2 ⟨List.Pairwise.nil, nf_cons.2 ⟨fun q hq => ?_, hn⟩, by simp⟩)
    have := h q hq
    unfold adj
    omega
  · unfold mid
    rw [h1.2, h2.1]

/-- The list after i rounds, whichever way: as many blocks and extents, all of them within bounds. -/
def Sd (k i : Nat) (down : Bool) (L : List X) : Prop := vld L ∧ nf L ∧ L.length = i ∧ su L = i ∧ ∀ y ∈ L, y.n = 1 ∧ (if down then 2 * ((k : Int) - i) ≤ y.a else y.a + 2 ≤ 2 * (i : Int))

theorem Sd.next {k i : Nat} {down : Bool} {L : List X} (h : Sd k i down L) (hi : i < k) (hk : k ≤ 300) (a : Int) (ha : a = if down then 2 * ((k : Int) - 1 - i) else 2 * i) :
    okx ⟨a, 1, 7⟩ ∧ mid L a 1 = [] ∧ Sd k (i + 1) down (put L ⟨a, 1, 7⟩) := by
  obtain ⟨h1, h2, h3, h4, h5⟩ := h
  cases down with
  | false =>
    simp only [Bool.false_eq_true, if_false] at ha h5
    have hx : okx ⟨a, 1, 7⟩ := by unfold okx; dsimp only; omega
    have hp := put_after h1 h2 hx (fun y hy => by have := h5 y hy; dsimp only; omega)
    refine ⟨hx, hp.2, (put_vn h1 hx).1, (put_vn h1 hx).2, ?_, ?_, fun y hy => ?_⟩
    · rw [hp.1]; simp [h3]
    · rw [hp.1, su_append, h4]; simp [su]
    · rw [hp.1] at hy
      rcases List.mem_append.1 hy with hy | hy
      · have := h5 y hy; simp only [Bool.false_eq_true, if_false]; omega
      · simp only [List.mem_singleton] at hy; subst hy; simp only [Bool.false_eq_true, if_false]; exact ⟨trivial, by omega⟩
  | true =>
    simp only [if_true] at ha h5
    have hx : okx ⟨a, 1, 7⟩ := by unfold okx; dsimp only; omega
    have hp := put_before h2 hx (fun y hy => by have := h5 y hy; dsimp only; omega)
    refine ⟨hx, hp.2, (put_vn h1 hx).1, (put_vn h1 hx).2, ?_, ?_, fun y hy => ?_⟩
    · rw [hp.1]; simp [h3]
    · rw [hp.1]; simp only [su, h4]; omega
    · rw [hp.1] at hy
      rcases List.mem_cons.1 hy with hy | hy
      · subst hy; simp only [if_true]; exact ⟨trivial, by omega⟩
      · have := h5 y hy; simp only [if_true]; omega

set_option maxHeartbeats 1000000 in
set_option maxRecDepth 100000 in
theorem sorted_walk (n : Int) (hn : 0 ≤ n ∧ n ≤ 65535) (down : Bool) (w : World) : Calls Try.prog 4 #[.int .u16 n, .bool down] w fun e w' => e = .returned (.bool true) ∧ Below w.heap.size w w' := by
  obtain ⟨hn1, hn2⟩ := hn
  go_enter Try.func4, Try.ntmps4
  go_wp2_with fail
  refine (awake_any _).mono ?_
  rintro e w1 ⟨rfl, hb1⟩
  go_wp2_with fail
  refine (new_any _).mono ?_
  rintro e w2 ⟨rfl, hb2⟩
  go_wp2_with fail
  obtain ⟨k, hk⟩ : ∃ k : Nat, (k : Int) = n % 301 := ⟨(n % 301).toNat, by omega⟩
  rw [← hk]
  have hk3 : k ≤ 300 := by omega
  clear hk
  have al2 := Lib.hid ((Below.refl _ w2).alloc (Nat.le_refl _) (.cells #[.pointer none] 26))
  have c2 := hb1.trans (hb2.mono hb1.size)
  have c3 := Lib.hid (c2.trans (al2.out.mono c2.size))
  have hsz := c2.size
  go_loopw [7] (fun i wr => ∃ (j : Nat) (p : Option Addr) (T : BT X), j ≤ k ∧ i = .int .i64 j ∧ Blk wr w2.heap.size #[.pointer p] 26 ∧ At wr p T ∧ avl T ∧ Sd k j down (li T) ∧ Below w.heap.size w wr) (fun i _ => k - (intOf i).toNat)
  case atStart => exact ⟨0, none, .nil, Nat.zero_le _, rfl, Blk.new _ _ _, rfl, trivial, ⟨vld.nil, List.Pairwise.nil, rfl, rfl, by simp [li]⟩, c3.out⟩
  case round =>
    obtain ⟨j, p, T, hj, rfl, kb, hT, av, hS, hB⟩ := hrel
    have n0 := kb.cell 0
    rw [c1] at n0
    by_cases hlt : j < k
    · obtain ⟨a, ha⟩ : ∃ a : Int, a = if down then 2 * ((k : Int) - 1 - j) else 2 * j := ⟨_, rfl⟩
      obtain ⟨ox, hm, hS2⟩ := hS.next hlt hk3 a ha
      have PU := Lib.hid (put_any p T ⟨a, 1, 7⟩ wr hT av hS.1 hS.2.1 ox)
      unfold tv ag at PU
      dsimp only at PU
      rw [hm] at PU
      have HS := Lib.hid (And.intro hS2 hm)
      clear hT av hS hS2 hm ox
      cases down with
      | false =>
        simp only [Bool.false_eq_true, if_false] at ha
        subst ha
        go_wp2_with fail
        refine PU.out.mono ?_
        rintro e w3 ⟨q, T', v, rfl, hT', av', hl', hr', hb3⟩
        obtain ⟨ao, cap, rfl⟩ := sl_shape hr'.sl
        have hlen : (li T').length ≤ 65536 := by rw [hl']; exact HS.out.1.1.bounds.1
        have al3 := Lib.hid ((Below.refl _ w3).alloc (Nat.le_refl _) (.cells #[.pointer q] 26))
        have HT' := Lib.hid (And.intro hT' (And.intro av' (And.intro hl' hlen))); clear hT' av' hl' hlen hr'
        have kb := (kb.keep hb3).keep al3.out
        have kn := Blk.new w3 #[.pointer q] 26
        have m0 := kn.cell 0
        rw [c1] at m0
        clear n0
        go_wp2_with fail
        refine (balanced_any q T' _ (HT'.out.1.below al3.out) HT'.out.2.1 HT'.out.2.2.2).mono ?_
        rintro e w4 ⟨rfl, hb4⟩
        have kb := kb.keep hb4
        have kn := kn.keep hb4
        have m0 := kn.cell 0
        have n0 := kb.cell 0
        have f0 := kb.frozen 0
        rw [c1] at m0 n0
        go_wp2_with fail
        have d3 := hB.trans (hb3.mono hB.size)
        have d4 := d3.trans (al3.out.mono d3.size)
        have d5 := d4.trans (hb4.mono d4.size)
        have tt : At (w4.setCell ⟨w2.heap.size, 0, none⟩ (.pointer q)) q T' :=
          IsT.turn (N := w2.heap.size) (W := w4) (n := w4.heap.size) (kb.cell 3) (fun k hk => by rw [Below.heap_setCell _ _ _ _ hk]) (by simp) ((HT'.out.1.below al3.out).below hb4)
        go_roundw
        case rel => exact ⟨j + 1, q, T', by omega, by go_num, kb.set 0 _, tt, HT'.out.2.1, by rw [HT'.out.2.2.1]; exact HS.out.1, d5.setCell hsz _⟩
        case measure => simp [intOf]; omega
      | true =>
        simp only [if_true] at ha
        subst ha
        go_wp2_with fail
        refine PU.out.mono ?_
        rintro e w3 ⟨q, T', v, rfl, hT', av', hl', hr', hb3⟩
        obtain ⟨ao, cap, rfl⟩ := sl_shape hr'.sl
        have hlen : (li T').length ≤ 65536 := by rw [hl']; exact HS.out.1.1.bounds.1
        have al3 := Lib.hid ((Below.refl _ w3).alloc (Nat.le_refl _) (.cells #[.pointer q] 26))
        have HT' := Lib.hid (And.intro hT' (And.intro av' (And.intro hl' hlen))); clear hT' av' hl' hlen hr'
        have kb := (kb.keep hb3).keep al3.out
        have kn := Blk.new w3 #[.pointer q] 26
        have m0 := kn.cell 0
        rw [c1] at m0
        clear n0
        go_wp2_with fail
        refine (balanced_any q T' _ (HT'.out.1.below al3.out) HT'.out.2.1 HT'.out.2.2.2).mono ?_
        rintro e w4 ⟨rfl, hb4⟩
        have kb := kb.keep hb4
        have kn := kn.keep hb4
        have m0 := kn.cell 0
        have n0 := kb.cell 0
        have f0 := kb.frozen 0
        rw [c1] at m0 n0
        go_wp2_with fail
        have d3 := hB.trans (hb3.mono hB.size)
        have d4 := d3.trans (al3.out.mono d3.size)
        have d5 := d4.trans (hb4.mono d4.size)
        have tt : At (w4.setCell ⟨w2.heap.size, 0, none⟩ (.pointer q)) q T' :=
          IsT.turn (N := w2.heap.size) (W := w4) (n := w4.heap.size) (kb.cell 3) (fun k hk => by rw [Below.heap_setCell _ _ _ _ hk]) (by simp) ((HT'.out.1.below al3.out).below hb4)
        go_roundw
        case rel => exact ⟨j + 1, q, T', by omega, by go_num, kb.set 0 _, tt, HT'.out.2.1, by rw [HT'.out.2.2.1]; exact HS.out.1, d5.setCell hsz _⟩
        case measure => simp [intOf]; omega
    · have hjk : j = k := by omega
      subst hjk
      go_wp2_with fail
      refine (len_any p T _ hT).mono ?_
      rintro e w3 ⟨rfl, hb3⟩
      rw [hS.2.2.1]
      have kb := kb.keep hb3
      have n0 := kb.cell 0
      rw [c1] at n0
      have BL := Lib.hid (blocks_any p T _ (hT.below hb3))
      rw [hS.2.2.2.1] at BL
      clear hS hT
      go_wp2_with fail
      refine BL.out.mono ?_
      rintro e w4 ⟨rfl, hb4⟩
      go_wp2_with fail
      go_ret
      have d3 := hB.trans (hb3.mono hB.size)
      exact ⟨ret_bool (by simp), d3.trans (hb4.mono d3.size)⟩

end Go.Proofs.Ytdfdnimledcfbaa
