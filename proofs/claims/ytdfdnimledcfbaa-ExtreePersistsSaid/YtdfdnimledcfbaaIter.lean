/- The iterator over a tree of extents: it hands on the extents in order, until a round says no more. Conditions: no bound on the depth of calls is asked. -/
import Derived.Test.YtdfdnimledcfbaaStep
import Derived.RangeFuncNested
import Derived.RangeFuncBound
import Derived.RangeFuncCalls
import Derived.RangeFuncLeaves
import Derived.Shelf.Abstract
import Derived.Shelf.RegionOpen
import Derived.OwnWalkIn
import Derived.TacticsInMore
import Derived.LoopNIn
import Derived.LoopIn
namespace Go.Proofs.Ytdfdnimledcfbaa
open Go.RowKit Go.Shelf
open Go.Deep (BT)
attribute [local go_sem] Oper.semAt_some

theorem roomOf {F : Fence} (hd : F.depth = none) (k : Nat) : F.room k := fun d h => by rw [hd] at h; cases h
theorem roundAny {F : Fence} (hd : F.depth = none) {m m' : Nat} {P : Program} {l : Nat} {f : FuncId} {tmps : Array Value} {assign body : Code} {w : World} {R : Ending → World → Prop}
    (h : RoundIn F m P l f tmps assign body w R) : RoundIn F m' P l f tmps assign body w R := ⟨h.1, fun c cs _ => h.2 c cs (roomOf hd _)⟩
theorem yieldAny {F : Fence} (hd : F.depth = none) {m : Nat} (m' : Nat) {P : Program} {l : Nat} {args : Array Value} {W : World} {R : Ending → World → Prop} (h : YieldAt F m P l args W R) : YieldAt F m' P l args W R := by
  obtain ⟨fn, tmps, assign, body, hy, hR⟩ := h
  exact ⟨fn, tmps, assign, body, hy, roundAny hd hR⟩

set_option maxRecDepth 100000 in
set_option maxHeartbeats 2000000 in
theorem push_in (F : Fence) (hF : F = Fence.wide) (hd : F.depth = none) (h6 : F.fn 48) (hro : F.round = none) (l n₀ N : Nat) (J Jx : List X → World → Prop)
    (hY : ∀ m pre x W, J pre W → pre.length < N → YieldAt F m Try.prog l #[.agg #[.int .i64 x.a, .int .i64 x.n, .int .i64 x.s]] W fun e W' =>
      (e = .returned (.bool true) ∧ J (pre ++ [x]) W' ∧ Below n₀ W W') ∨ (e = .returned (.bool false) ∧ Jx (pre ++ [x]) W')) (T : BT X) :
    ∀ (n : Nat) (p : Option Addr) (pre : List X) (W : World), IsT n₀ W p T → J pre W → pre.length + (li T).length ≤ N →
      CallsIn F n Try.prog 48 #[.pointer p, .func (.yield l) #[] #[]] W fun e W' =>
        (e = .returned (.bool true) ∧ J (pre ++ li T) W' ∧ Below n₀ W W') ∨ (e = .returned (.bool false) ∧ ∃ q, q <+: li T ∧ Jx (pre ++ q) W') := by
  induction T with
  | nil =>
    intro n p pre W ht hJ _
    obtain rfl : p = none := ht
    subst hF
    refine callsIn_wide.2 ?_
    go_enter Try.func48, Try.ntmps48
    go_wp2
    go_ret
    exact .inl ⟨rfl, by simpa [li] using hJ, Below.refl _ _⟩
  | node i j x tl tr ihl ihr =>
    intro n p pre W ht hJ hN
    clear hF
    obtain ⟨b, p1, p2, rfl, hb, c0, c1, c2, c3, c4, c5, c6, c7, hl, hr⟩ := ht
    clear c5 c6 c7
    have hdd : ∀ k : Nat, (F.depth.isSome = true → 1 ≤ k) := fun k h => by rw [hd] at h; cases h
    simp only [li, List.length_append, List.length_cons] at hN
    obtain ⟨xa, xn, xs⟩ := x
    dsimp only at c0 c1 c2
    have hy2 : ∀ W1, J (pre ++ li tl) W1 → Below n₀ W W1 → YieldAt F (n - 1) Try.prog l #[.agg #[.int .i64 xa, .int .i64 xn, .int .i64 xs]] W1 fun e W2 =>
        (e = .returned (.bool true) ∧ J (pre ++ li tl ++ [⟨xa, xn, xs⟩]) W2 ∧ Below n₀ W W2 ∧ W2.cell? ⟨b, 4, none⟩ = some (.pointer p2) ∧ IsT n₀ W2 p2 tr) ∨ (e = .returned (.bool false) ∧ Jx (pre ++ li tl ++ [⟨xa, xn, xs⟩]) W2) := fun W1 hJ1 hb1 =>
      YieldAt.mono (hY (n - 1) _ ⟨xa, xn, xs⟩ W1 hJ1 (by simp; omega)) fun e W2 h => h.elim
        (fun ⟨he, hj, hb2⟩ => .inl ⟨he, hj, hb1.trans hb2, ((hb1.trans hb2).cell (p := ⟨b, 4, none⟩) hb).trans c4, IsT.below (hb1.trans hb2) (Nat.le_refl _) hr⟩) .inr
    have ih1 := (ihl (n - 1) p1 pre W hl hJ (by omega)).mono (R' := fun e W1 =>
        (e = .returned (.bool true) ∧ W1.cell? ⟨b, 0, none⟩ = some (.int .i64 xa) ∧ W1.cell? ⟨b, 1, none⟩ = some (.int .i64 xn) ∧ W1.cell? ⟨b, 2, none⟩ = some (.int .i64 xs) ∧ YieldAt F (n - 1) Try.prog l #[.agg #[.int .i64 xa, .int .i64 xn, .int .i64 xs]] W1 fun e W2 =>
          (e = .returned (.bool true) ∧ J (pre ++ li tl ++ [⟨xa, xn, xs⟩]) W2 ∧ Below n₀ W W2 ∧ W2.cell? ⟨b, 4, none⟩ = some (.pointer p2) ∧ IsT n₀ W2 p2 tr) ∨ (e = .returned (.bool false) ∧ Jx (pre ++ li tl ++ [⟨xa, xn, xs⟩]) W2)) ∨
        (e = .returned (.bool false) ∧ ∃ q, q <+: li tl ∧ Jx (pre ++ q) W1))
      (fun e W1 h => h.elim (fun ⟨he, hj, hb1⟩ => .inl ⟨he, (hb1.cell (p := ⟨b, 0, none⟩) hb).trans c0, (hb1.cell (p := ⟨b, 1, none⟩) hb).trans c1, (hb1.cell (p := ⟨b, 2, none⟩) hb).trans c2, hy2 W1 hj hb1⟩) .inr)
    clear hy2 ihl
    refine callsIn_of_wp Try.func48 rfl h6 ?_ hro
    simp only [Try.ntmps48, List.size_toArray, List.length_cons, List.length_nil, Nat.reduceAdd, Nat.reduceSub, Array.replicate_succ, Array.replicate_zero, List.push_toArray, List.append_toArray, List.nil_append, List.cons_append]
    gi_wp2_with (first | ((try refine ⟨hdd _, ?_⟩); gi_at_call 48; refine ih1.mono ?_; clear ih1; rintro e W1 (⟨rfl, c0', c1', c2', fn, tmps, assign, body, hy, hR⟩ | ⟨rfl, q, hq, hx1⟩)) | ((try refine ⟨hdd _, ?_⟩); refine hR.mono ?_; clear hR; rintro e W2 (⟨rfl, hJ2, hb2, c4', hr2⟩ | ⟨rfl, hx2⟩)) | ((try refine ⟨hdd _, ?_⟩); gi_at_call 48; refine (ihr (n - 1) p2 _ _ hr2 hJ2 (by simp; omega)).mono ?_; rintro e W3 (⟨rfl, hJ3, hb3⟩ | ⟨rfl, q, hq, hx3⟩)))
    · go_ret
      exact .inl ⟨rfl, by simpa [li, List.append_assoc] using hJ3, hb2.trans hb3⟩
    · go_ret
      obtain ⟨r, hr'⟩ := hq
      exact .inr ⟨rfl, li tl ++ ⟨xa, xn, xs⟩ :: q, ⟨r, by simp [li, ← hr']⟩, by simpa [List.append_assoc] using hx3⟩
    · go_ret
      exact .inr ⟨rfl, li tl ++ [⟨xa, xn, xs⟩], ⟨li tr, by simp [li]⟩, by simpa [List.append_assoc] using hx2⟩
    · refine ⟨fun _ h => (by cases h), ?_⟩
      gi_wp2
      go_ret
      exact .inr ⟨rfl, q, hq.trans (by simp [li]), hx1⟩

end Go.Proofs.Ytdfdnimledcfbaa
