/- The trees of extents in memory, and what the small functions on nodes return. Conditions: the numbers are small. -/
import Derived.Test.YtdfdnimledcfbaaProg
import Derived.Test.YtdfdnimledcfbaaPlain
import Derived.WalkKit
import Derived.WalkSpells
import Derived.WalkLawsBesides
import Derived.Lib.Hide
import Derived.Deep.QuietTactic
import Derived.BigQuiet
namespace Go.Proofs.Ytdfdnimledcfbaa
open Go.RowKit
open Go.Deep (BT)

theorem ret_int {k : IntKind} {a b : Int} (h : a = b) : Ending.returned (.int k a) = .returned (.int k b) := by rw [h]

/-- The value of an extent. -/
def ag (x : X) : Value := .agg #[.int .i64 x.a, .int .i64 x.n, .int .i64 x.s]

/-- The memory holds the tree T at p, in blocks below n₀. -/
def IsT (n₀ : Nat) (W : World) : Option Addr → BT X → Prop
  | p, .nil => p = none
  | p, .node _ _ x l r => ∃ (b : Nat) (pl pr : Option Addr), p = some ⟨b, 0, none⟩ ∧ b < n₀ ∧
      W.cell? ⟨b, 0, none⟩ = some (.int .i64 x.a) ∧ W.cell? ⟨b, 1, none⟩ = some (.int .i64 x.n) ∧ W.cell? ⟨b, 2, none⟩ = some (.int .i64 x.s) ∧
      W.cell? ⟨b, 3, none⟩ = some (.pointer pl) ∧ W.cell? ⟨b, 4, none⟩ = some (.pointer pr) ∧
      W.cell? ⟨b, 5, none⟩ = some (.int .i64 ((1 + max (dp l) (dp r) : Nat) : Int)) ∧ W.cell? ⟨b, 6, none⟩ = some (.int .i64 (((li l).length + 1 + (li r).length : Nat) : Int)) ∧ W.cell? ⟨b, 7, none⟩ = some (.int .i64 (x.n + su (li l) + su (li r))) ∧
      IsT n₀ W pl l ∧ IsT n₀ W pr r

theorem IsT.below {n₀ n₁ : Nat} {A B : World} (h : Below n₀ A B) (hn : n₀ ≤ n₁) : ∀ {p : Option Addr} {T : BT X}, IsT n₀ A p T → IsT n₁ B p T
  | _, .nil, ht => ht
  | _, .node _ _ _ _ _, ⟨b, pl, pr, hp, hb, c0, c1, c2, c3, c4, c5, c6, c7, hl, hr⟩ =>
    ⟨b, pl, pr, hp, Nat.lt_of_lt_of_le hb hn, (h.cell (p := ⟨b, 0, none⟩) hb).trans c0, (h.cell (p := ⟨b, 1, none⟩) hb).trans c1, (h.cell (p := ⟨b, 2, none⟩) hb).trans c2, (h.cell (p := ⟨b, 3, none⟩) hb).trans c3,
      (h.cell (p := ⟨b, 4, none⟩) hb).trans c4, (h.cell (p := ⟨b, 5, none⟩) hb).trans c5, (h.cell (p := ⟨b, 6, none⟩) hb).trans c6, (h.cell (p := ⟨b, 7, none⟩) hb).trans c7, IsT.below h hn hl, IsT.below h hn hr⟩

/-- The memory holds the tree T at p. -/
def At (W : World) (p : Option Addr) (T : BT X) : Prop := IsT W.heap.size W p T

theorem At.below {A B : World} {p : Option Addr} {T : BT X} (ht : At A p T) (h : Below A.heap.size A B) : At B p T := IsT.below h h.size ht

set_option maxHeartbeats 400000 in
theorem deep_any (p : Option Addr) (T : BT X) (w : World) (n₀ : Nat) (h : IsT n₀ w p T) :
    Calls Try.prog 51 #[.pointer p] w fun e w' => e = .returned (.int .i64 (dp T : Int)) ∧ w = w' := by
  cases T with
  | nil =>
    obtain rfl : p = none := h
    go_enter Try.func51, Try.ntmps51
    go_wp2
    go_ret
    exact ⟨rfl, rfl⟩
  | node _ _ x l r =>
    obtain ⟨b, pl, pr, rfl, hb, c0, c1, c2, c3, c4, c5, c6, c7, hl, hr⟩ := h
    clear c0 c1 c2 c3 c4 c6 c7 hl hr
    go_enter Try.func51, Try.ntmps51
    go_wp2
    go_ret
    exact ⟨rfl, rfl⟩

set_option maxHeartbeats 400000 in
theorem size_any (p : Option Addr) (T : BT X) (w : World) (n₀ : Nat) (h : IsT n₀ w p T) :
    Calls Try.prog 42 #[.pointer p] w fun e w' => e = .returned (.int .i64 ((li T).length : Int)) ∧ w = w' := by
  cases T with
  | nil =>
    obtain rfl : p = none := h
    go_enter Try.func42, Try.ntmps42
    go_wp2
    go_ret
    exact ⟨rfl, rfl⟩
  | node _ _ x l r =>
    obtain ⟨b, pl, pr, rfl, hb, c0, c1, c2, c3, c4, c5, c6, c7, hl, hr⟩ := h
    clear c0 c1 c2 c3 c4 c5 c7 hl hr
    go_enter Try.func42, Try.ntmps42
    go_wp2
    go_ret
    exact ⟨ret_int (by simp only [li, List.length_append, List.length_cons]; omega), rfl⟩

set_option maxHeartbeats 400000 in
theorem mapped_any (p : Option Addr) (T : BT X) (w : World) (n₀ : Nat) (h : IsT n₀ w p T) :
    Calls Try.prog 43 #[.pointer p] w fun e w' => e = .returned (.int .i64 (su (li T))) ∧ w = w' := by
  cases T with
  | nil =>
    obtain rfl : p = none := h
    go_enter Try.func43, Try.ntmps43
    go_wp2
    go_ret
    exact ⟨rfl, rfl⟩
  | node _ _ x l r =>
    obtain ⟨b, pl, pr, rfl, hb, c0, c1, c2, c3, c4, c5, c6, c7, hl, hr⟩ := h
    clear c0 c1 c2 c3 c4 c5 c6 hl hr
    go_enter Try.func43, Try.ntmps43
    go_wp2
    go_ret
    exact ⟨ret_int (by simp only [li, su_append, su]; omega), rfl⟩

end Go.Proofs.Ytdfdnimledcfbaa
