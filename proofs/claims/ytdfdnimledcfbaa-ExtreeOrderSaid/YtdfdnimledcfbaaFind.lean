/- Finding the store's block of a logical block: in a list and in a tree. Conditions: the list is valid. -/
import Derived.Test.YtdfdnimledcfbaaLawBuild
namespace Go.Proofs.Ytdfdnimledcfbaa
open Go.RowKit
open Go.Deep (BT)

/-- Where a block lies in a list. -/
def fd (t : Int) : List X → Int × Bool
  | [] => (0, false)
  | x :: l => if x.a ≤ t ∧ t < x.a + x.n then (x.s + t - x.a, true) else fd t l

theorem fd_none {t : Int} {l : List X} (h : ∀ x ∈ l, ¬ (x.a ≤ t ∧ t < x.a + x.n)) : fd t l = (0, false) := by
  induction l with
  | nil => rfl
  | cons x l ih =>
    rw [fd, if_neg (h x (by simp))]
    exact ih fun y hy => h y (by simp [hy])
theorem fd_skip {t : Int} {l m : List X} (h : ∀ x ∈ l, ¬ (x.a ≤ t ∧ t < x.a + x.n)) : fd t (l ++ m) = fd t m := by
  induction l with
  | nil => rfl
  | cons x l ih =>
    rw [List.cons_append, fd, if_neg (h x (by simp))]
    exact ih fun y hy => h y (by simp [hy])
theorem fd_head {t : Int} {l m : List X} (h : ∀ x ∈ m, ¬ (x.a ≤ t ∧ t < x.a + x.n)) : fd t (l ++ m) = fd t l := by
  induction l with
  | nil => exact fd_none h
  | cons x l ih =>
    rw [List.cons_append, fd, fd, ih]
theorem fd_left {t : Int} {l r : List X} {x : X} (h : vld (l ++ x :: r)) (ht : t < x.a) : fd t (l ++ x :: r) = fd t l := by
  obtain ⟨_, h2, _⟩ := vld_append.1 h
  obtain ⟨h3, h4, h5⟩ := vld_cons.1 h2
  unfold okx at h3
  refine fd_head fun y hy => ?_
  rcases List.mem_cons.1 hy with rfl | hy
  · omega
  · have := h5 y hy; omega
theorem fd_right {t : Int} {l r : List X} {x : X} (h : vld (l ++ x :: r)) (ht : x.a + x.n ≤ t) : fd t (l ++ x :: r) = fd t r := by
  obtain ⟨h1, h2, h6⟩ := vld_append.1 h
  obtain ⟨h3, h4, h5⟩ := vld_cons.1 h2
  unfold okx at h3
  rw [show l ++ x :: r = (l ++ [x]) ++ r by simp]
  refine fd_skip fun y hy => ?_
  rcases List.mem_append.1 hy with hy | hy
  · have := h6 y hy x (by simp); omega
  · simp at hy; subst hy; omega
theorem fd_here {t : Int} {l r : List X} {x : X} (h : vld (l ++ x :: r)) (h1 : x.a ≤ t) (h2 : t < x.a + x.n) : fd t (l ++ x :: r) = (x.s + t - x.a, true) := by
  obtain ⟨_, _, h6⟩ := vld_append.1 h
  rw [fd_skip fun y hy => by have := h6 y hy x (by simp); omega, fd, if_pos ⟨h1, h2⟩]

/-- The outcome of a search. -/
def RetD (w : World) (r : Int × Bool) (e : Ending) (w' : World) : Prop := e = .returned (.tuple #[.int .i64 r.1, .bool r.2]) ∧ Below w.heap.size w w'

set_option maxHeartbeats 2000000 in
set_option maxRecDepth 100000 in
theorem reffind_any (v : Value) (L : List X) (t : Int) (w : World) (hs : Sl w v L) (hv : vld L) : Calls Try.prog 28 #[v, .int .i64 t] w (RetD w (fd t L)) := by
  have HA := Lib.hid hs
  have hm := hv.bounds.1
  have RV := Lib.hid (refvalid_any v L w hs (by omega))
  obtain ⟨aa, ca, rfl⟩ := sl_shape hs
  have HV := Lib.hid hv
  clear hs hv
  go_enter Try.func28, Try.ntmps28
  go_wp2_with fail
  refine RV.out.mono ?_
  rintro e w1 ⟨b, rfl, hb, hb1⟩
  obtain rfl : b = true := hb.2 HV.out
  clear hb
  go_wp2_with fail
  go_loopw [6] (fun i wr => ∃ k : Nat, k ≤ L.length ∧ i = .int .i64 k ∧ Hid (fd t L = fd t (L.drop k)) ∧ Below w.heap.size w wr) (fun i _ => L.length - (intOf i).toNat)
  case atStart => exact ⟨0, Nat.zero_le _, rfl, Lib.hid (by simp), hb1⟩
  case round =>
    obtain ⟨k, hk, rfl, hfd, hbel⟩ := hrel
    by_cases hlt : k < L.length
    · obtain ⟨b1, o1, x, rfl, hx, e0, e1, e2⟩ := (HA.out.below hbel).at hlt
      have hox := HV.out.1 x (List.mem_of_getElem? hx)
      have hdr : Hid (L.drop k = x :: L.drop (k + 1)) := Lib.hid (by
        rw [List.drop_eq_getElem_cons hlt]
        congr 1
        exact (List.getElem?_eq_some_iff.1 hx).2)
      obtain ⟨xa, xn, xs⟩ := x
      unfold okx at hox
      dsimp only at e0 e1 e2 hox
      clear hx
      have hk1 : (0 : Int) ≤ (k : Int) := by omega
      have hk2 : (k : Int) < (L.length : Int) := by omega
      have hw1 : IntKind.i64.wrap (xa + xn) = xa + xn := IntWalk.i64_in _ (by omega)
      by_cases h1 : xa ≤ t
      · have d1 : decide (xa ≤ t) = true := by simpa using h1
        by_cases h2 : t < xa + xn
        · have d2 : decide (t < xa + xn) = true := by simpa using h2
          go_wp2_with fail
          go_quiet (fail)
          have bq : Below wr.heap.size wr (wr.drewN nq) := ⟨rfl, rfl, rfl, Nat.le_refl _, fun _ _ => rfl⟩
          have g0 := (bq.cell (p := ⟨b1, _, none⟩) (lt_of_cell e0)).trans e0
          have g2 := (bq.cell (p := ⟨b1, _, none⟩) (lt_of_cell e2)).trans e2
          obtain ⟨Wq, hq⟩ : ∃ Wq, Wq = wr.drewN nq := ⟨_, rfl⟩
          rw [← hq] at g0 g2 bq ⊢
          clear hq
          have hw2 : IntKind.i64.wrap (xs + t) = xs + t := IntWalk.i64_in _ (by omega)
          have hw3 : IntKind.i64.wrap (xs + t - xa) = xs + t - xa := IntWalk.i64_in _ (by omega)
          clear e0 e1 e2
          go_wp2_with fail
          go_quiet (fail)
          have bq2 : Below Wq.heap.size Wq (Wq.drewN nq) := ⟨rfl, rfl, rfl, Nat.le_refl _, fun _ _ => rfl⟩
          have bq3 : Below w.heap.size w (Wq.drewN nq) := (hbel.trans (bq.mono hbel.size)).trans (bq2.mono (Nat.le_trans hbel.size bq.size))
          go_wp2_with fail
          go_ret2
          refine ⟨?_, bq3⟩
          rw [hfd.out, hdr.out, fd, if_pos ⟨h1, h2⟩]
          rfl
        · have d2 : decide (t < xa + xn) = false := by simpa using h2
          go_wp2_with fail
          go_quiet (fail)
          have bq : Below w.heap.size w (wr.drewN nq) := ⟨hbel.os, hbel.tape, hbel.output, hbel.size, hbel.block⟩
          go_wp2_with fail
          go_roundw
          case rel => exact ⟨k + 1, by omega, by go_num, Lib.hid (by rw [hfd.out, hdr.out, fd, if_neg (fun h => by have h' := h.2; dsimp only at h'; omega)]), bq⟩
          case measure => simp [intOf]; omega
      · have d1 : decide (xa ≤ t) = false := by simpa using h1
        go_wp2_with fail
        go_quiet (fail)
        have bq : Below w.heap.size w (wr.drewN nq) := ⟨hbel.os, hbel.tape, hbel.output, hbel.size, hbel.block⟩
        go_wp2_with fail
        go_roundw
        case rel => exact ⟨k + 1, by omega, by go_num, Lib.hid (by rw [hfd.out, hdr.out, fd, if_neg (fun h => by have h' := h.1; dsimp only at h'; omega)]), bq⟩
        case measure => simp [intOf]; omega
    · have hkl : k = L.length := by omega
      subst hkl
      go_wp2_with fail
      go_ret2
      exact ⟨by rw [hfd.out]; simp [fd], hbel⟩

/-- The depth that a node tells. -/
def msr (v : Value) (W : World) : Nat :=
  match v with
  | .pointer (some a) => match W.cell? ⟨a.block, 5, none⟩ with
    | some (.int _ i) => i.toNat
    | _ => 0
  | _ => 0
theorem msr_eq {n : Nat} {W : World} {p : Option Addr} {T : BT X} (h : IsT n W p T) : msr (.pointer p) W = dp T := by
  cases T with
  | nil => obtain rfl : p = none := h; rfl
  | node i j x l r =>
    obtain ⟨b, pl, pr, rfl, hb, c0, c1, c2, c3, c4, c5, _⟩ := h
    simp only [msr, c5, dp]
    omega

set_option maxHeartbeats 2000000 in
set_option maxRecDepth 100000 in
theorem treefind_any (p : Option Addr) (T : BT X) (t : Int) (w : World) (hT : At w p T) (hv : vld (li T)) : Calls Try.prog 27 #[.agg #[.pointer p], .int .i64 t] w (RetD w (fd t (li T))) := by
  have B0 := Lib.hid ((Below.refl _ w).alloc (Nat.le_refl _) (.cells #[.pointer p] 26))
  have HT := Lib.hid hT
  have HV := Lib.hid hv
  clear hT hv
  go_enter Try.func27, Try.ntmps27
  go_wp2_with fail
  go_loopw [6] (fun u wr => ∃ (q : Option Addr) (T' : BT X), u = .pointer q ∧ IsT w.heap.size wr q T' ∧ Hid (vld (li T') ∧ fd t (li T) = fd t (li T')) ∧ Below w.heap.size w wr) (fun u wr => msr u wr)
  case atStart => exact ⟨p, T, rfl, IsT.below B0.out (Nat.le_refl _) HT.out, Lib.hid ⟨HV.out, rfl⟩, B0.out⟩
  case round =>
    obtain ⟨q, T', rfl, hq, hfd, hB⟩ := hrel
    have HQ := Lib.hid hq
    cases T' with
    | nil =>
      obtain rfl : q = none := hq
      go_wp2_with fail
      go_ret2
      exact ⟨by rw [hfd.out.2]; rfl, hB⟩
    | node i j x l r =>
      obtain ⟨b, pl, pr, rfl, hb, c0, c1', c2, c3, c4, c5, c6, c7, hl, hr⟩ := hq
      have hv := hfd.out.1
      simp only [li] at hv
      have hox := hv.1 x (by simp)
      have HL := Lib.hid hl
      have HR := Lib.hid hr
      have HV2 := Lib.hid hv
      clear c5 c6 c7 hl hr hv
      obtain ⟨xa, xn, xs⟩ := x
      unfold okx at hox
      dsimp only at c0 c1' c2 hox
      have hw1 : IntKind.i64.wrap (xa + xn) = xa + xn := IntWalk.i64_in _ (by omega)
      by_cases h1 : t < xa
      · go_wp2_with fail
        go_roundw
        case rel => exact ⟨pl, l, rfl, HL.out, Lib.hid ⟨(vld_append.1 HV2.out).1, by rw [hfd.out.2]; exact fd_left HV2.out h1⟩, hB⟩
        case measure => rw [msr_eq HL.out, msr_eq HQ.out]; simp only [dp]; omega
      · have hbl : b < wr.heap.size := Nat.lt_of_lt_of_le hb hB.size
        by_cases h2 : t < xa + xn
        · have d2 : ¬ xa + xn ≤ t := by omega
          go_wp2_with fail
          go_quiet (fail)
          obtain ⟨Wq, hq, bq⟩ : ∃ Wq, Wq = wr.drewN nq ∧ Below wr.heap.size wr Wq := ⟨_, rfl, ⟨rfl, rfl, rfl, Nat.le_refl _, fun _ _ => rfl⟩⟩
          have g0 := (bq.cell (p := ⟨b, 0, none⟩) hbl).trans c0
          have g2 := (bq.cell (p := ⟨b, 2, none⟩) hbl).trans c2
          rw [← hq]
          clear hq
          have hw2 : IntKind.i64.wrap (xs + t) = xs + t := IntWalk.i64_in _ (by omega)
          have hw3 : IntKind.i64.wrap (xs + t - xa) = xs + t - xa := IntWalk.i64_in _ (by omega)
          clear c0 c1' c2
          go_wp2_with fail
          go_quiet (fail)
          have bq2 : Below Wq.heap.size Wq (Wq.drewN nq) := ⟨rfl, rfl, rfl, Nat.le_refl _, fun _ _ => rfl⟩
          have bq3 : Below w.heap.size w (Wq.drewN nq) := (hB.trans (bq.mono hB.size)).trans (bq2.mono (Nat.le_trans hB.size bq.size))
          go_wp2_with fail
          go_ret2
          refine ⟨?_, bq3⟩
          rw [hfd.out.2]
          simp only [li]
          rw [fd_here HV2.out (by dsimp only; omega) (by dsimp only; omega)]
          rfl
        · have d2 : xa + xn ≤ t := by omega
          go_wp2_with fail
          go_quiet (fail)
          obtain ⟨Wq, hq, bq⟩ : ∃ Wq, Wq = wr.drewN nq ∧ Below wr.heap.size wr Wq := ⟨_, rfl, ⟨rfl, rfl, rfl, Nat.le_refl _, fun _ _ => rfl⟩⟩
          have g4 := (bq.cell (p := ⟨b, 4, none⟩) hbl).trans c4
          rw [← hq]
          clear hq
          clear c0 c1' c2 c3 c4
          go_wp2_with fail
          go_roundw
          case rel => exact ⟨pr, r, rfl, IsT.below (bq.mono hB.size) (Nat.le_refl _) HR.out, Lib.hid ⟨(vld_cons.1 (vld_append.1 HV2.out).2.1).2.1, by rw [hfd.out.2]; exact fd_right HV2.out d2⟩, hB.trans (bq.mono hB.size)⟩
          case measure => rw [msr_eq (IsT.below (bq.mono hB.size) (Nat.le_refl _) HR.out), msr_eq HQ.out]; simp only [dp]; omega

end Go.Proofs.Ytdfdnimledcfbaa
