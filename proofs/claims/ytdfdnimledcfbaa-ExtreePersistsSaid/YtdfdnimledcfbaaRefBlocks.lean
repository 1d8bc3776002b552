/- The reference's Blocks; how long a list is after a step. Conditions: the list is valid. -/
import Derived.Test.YtdfdnimledcfbaaAll
namespace Go.Proofs.Ytdfdnimledcfbaa
open Go.RowKit
open Go.Deep (BT)

theorem psh_leng (o : List X) (x : X) : (psh o x).length ≤ o.length + 1 := by
  rcases List.eq_nil_or_concat o with rfl | ⟨o', y, rfl⟩
  · simp [psh]
  · rw [show o'.concat y = o' ++ [y] by simp, psh_snoc]
    split <;> simp
theorem foldl_psh_len (l : List X) : ∀ o : List X, (l.foldl psh o).length ≤ o.length + l.length := by
  induction l with
  | nil => intro o; simp
  | cons x l ih =>
    intro o
    have h1 := ih (psh o x)
    have h2 := psh_leng o x
    simp only [List.foldl_cons, List.length_cons]
    omega
theorem jn_len (l : List X) : (jn l).length ≤ l.length := by
  have := foldl_psh_len l []
  simpa [jn] using this

theorem part_len {t u : Int} (htu : t ≤ u) (l : List X) (h : vld l) : (hdL t l).length + (tlL u l).length ≤ l.length + 1 := by
  induction l with
  | nil => simp [hdL, tlL]
  | cons x l ih =>
    obtain ⟨hx, hl, hb⟩ := vld_cons.1 h
    rw [hdL_cons, tlL_cons]
    simp only [List.length_append, List.length_cons]
    have h1 := ih hl
    by_cases h2 : x.a < t ∧ u < x.a + x.n
    · have e1 := (hdL_behind (t := t) (l := l) (fun y hy => by have := hb y hy; omega)).1
      have e2 := (hdL_behind (t := u) (l := l) (fun y hy => by have := hb y hy; omega)).2
      rw [e1, e2]
      unfold hd tl
      rw [if_neg (by omega : ¬ t ≤ x.a), if_neg (by omega : ¬ x.a + x.n ≤ t), if_neg (by omega : ¬ u ≤ x.a), if_neg (by omega : ¬ x.a + x.n ≤ u)]
      simp only [List.length_cons]
      simp only [List.length_nil]
      omega
    · have : (hd t x).length + (tl u x).length ≤ 1 := by
        unfold okx at hx
        unfold hd tl
        by_cases q1 : t ≤ x.a
        · rw [if_pos q1]
          simp only [List.length_nil]
          split; · simp
          split <;> simp
        · have q2 : x.a + x.n ≤ u := by omega
          have q3 : ¬ u ≤ x.a := by omega
          rw [if_neg q1, if_neg q3, if_pos q2]
          split <;> simp
      omega

theorem nx_len {L : List X} {s : St} (hv : vld L) (h : s.ok) : (nx L s).length ≤ L.length + 2 := by
  unfold St.ok at h
  unfold nx
  split
  · have h1 := part_len (t := s.a) (u := s.a + s.n) (by omega) L hv
    have h2 := jn_len (hdL s.a L ++ tlL (s.a + s.n) L)
    unfold cut
    simp only [List.length_append] at h2
    omega
  · have h1 := part_len (t := s.a) (u := s.a + s.n) (by omega) L hv
    have h2 := jn_len (hdL s.a L ++ (⟨s.a, s.n, s.s⟩ : X) :: tlL (s.a + s.n) L)
    unfold put
    simp only [List.length_append, List.length_cons] at h2
    dsimp only
    omega

theorem su_take {L : List X} (hv : vld L) (k : Nat) : 0 ≤ su (L.take k) ∧ su (L.take k) ≤ 65536 := by
  have : vld (L.take k) := by
    have h := hv
    rw [← List.take_append_drop k L] at h
    exact (vld_append.1 h).1
  have := this.bounds
  omega
theorem su_take_succ {L : List X} {k : Nat} {x : X} (h : L[k]? = some x) : su (L.take (k + 1)) = su (L.take k) + x.n := by
  rw [List.take_add_one, h, su_append]
  simp [su]

set_option maxHeartbeats 2000000 in
set_option maxRecDepth 100000 in
theorem refblocks_any (v : Value) (L : List X) (w : World) (hs : Sl w v L) (hv : vld L) : Calls Try.prog 26 #[v] w fun e w' => e = .returned (.int .i64 (su L)) ∧ Below w.heap.size w w' := by
  have HA := Lib.hid hs
  have hm := hv.bounds.1
  have RV := Lib.hid (refvalid_any v L w hs (by omega))
  obtain ⟨aa, ca, rfl⟩ := sl_shape hs
  have SU := Lib.hid (fun k => su_take hv k)
  have HV := Lib.hid hv
  clear hs hv
  go_enter Try.func26, Try.ntmps26
  go_wp2_with fail
  refine RV.out.mono ?_
  rintro e w1 ⟨b, rfl, hb, hb1⟩
  obtain rfl : b = true := hb.2 HV.out
  clear hb
  go_wp2_with fail
  go_loopw [3, 4] (fun t i wr => ∃ k : Nat, k ≤ L.length ∧ i = .int .i64 k ∧ t = .int .i64 (su (L.take k)) ∧ Below w.heap.size w wr) (fun _ i _ => L.length - (intOf i).toNat)
  case atStart => exact ⟨0, Nat.zero_le _, rfl, by simp [su], hb1⟩
  case round =>
    obtain ⟨k, hk, rfl, rfl, hbel⟩ := hrel
    by_cases hlt : k < L.length
    · obtain ⟨b1, o1, x, rfl, hx, e0, e1, e2⟩ := (HA.out.below hbel).at hlt
      obtain ⟨xa, xn, xs⟩ := x
      have g1 := SU.out k
      have g2 := SU.out (k + 1)
      have g3 := su_take_succ hx
      dsimp only at e0 e1 e2 g3
      clear hx
      have hk1 : (0 : Int) ≤ (k : Int) := by omega
      have hk2 : (k : Int) < (L.length : Int) := by omega
      generalize su (L.take k) = S0 at *
      go_wp2_with fail
      go_roundw
      case rel => exact ⟨k + 1, by omega, by go_num, by rw [g3], hbel⟩
      case measure => simp [intOf]; omega
    · have hkl : k = L.length := by omega
      subst hkl
      go_wp2_with fail
      go_ret
      exact ⟨by simp, hbel⟩

end Go.Proofs.Ytdfdnimledcfbaa
