/- Plain facts on extents, lists of extents and balanced trees; no program in sight. Conditions: none. -/
import Derived.Deep.Trees
namespace Go.Proofs.Ytdfdnimledcfbaa
open Go.Deep (BT)

/-- An extent: the first block, the number of blocks, the first slot. -/
structure X where
  a : Int
  n : Int
  s : Int

/-- The depth of a tree. -/
def dp : BT X → Nat
  | .nil => 0
  | .node _ _ _ l r => 1 + max (dp l) (dp r)

/-- The extents of a tree, in order. -/
def li : BT X → List X
  | .nil => []
  | .node _ _ x l r => li l ++ x :: li r

/-- The number of blocks of a list. -/
def su : List X → Int
  | [] => 0
  | x :: l => x.n + su l

theorem su_append (l m : List X) : su (l ++ m) = su l + su m := by
  induction l with
  | nil => simp [su]
  | cons x l ih => simp only [List.cons_append, su, ih]; omega

/-- Each node's subtrees differ in depth by at most one. -/
def avl : BT X → Prop
  | .nil => True
  | .node _ _ _ l r => avl l ∧ avl r ∧ dp l ≤ dp r + 1 ∧ dp r ≤ dp l + 1

theorem dp_zero {T : BT X} (h : dp T = 0) : T = .nil := by
  cases T with
  | nil => rfl
  | node _ _ _ l r => simp [dp] at h

theorem dp_le (T : BT X) : dp T ≤ (li T).length := by
  induction T with
  | nil => simp [dp]
  | node _ _ x l r hl hr => simp only [dp, li, List.length_append, List.length_cons]; omega

theorem dp_pos {T : BT X} (h : T ≠ .nil) : 1 ≤ dp T := by
  cases T with
  | nil => exact absurd rfl h
  | node _ _ _ l r => simp only [dp]; omega

/-- Numbers small enough that no sum of the code wraps. -/
def sml (l : List X) : Prop := l.length ≤ 1000000 ∧ ∀ x ∈ l, 0 ≤ x.a ∧ x.a ≤ 1000000 ∧ 0 ≤ x.n ∧ x.n ≤ 1000000 ∧ 0 ≤ x.s ∧ x.s ≤ 1000000

theorem su_bd (l : List X) (h : ∀ x ∈ l, 0 ≤ x.n ∧ x.n ≤ 1000000) : 0 ≤ su l ∧ su l ≤ 1000000 * l.length := by
  induction l with
  | nil => simp [su]
  | cons x l ih =>
    have h1 := h x (by simp)
    have h2 := ih (fun y hy => h y (by simp [hy]))
    simp only [su, List.length_cons]
    omega

theorem sml.su {l : List X} (h : sml l) : 0 ≤ su l ∧ su l ≤ 1000000000000 := by
  have := su_bd l (fun x hx => ⟨(h.2 x hx).2.2.1, (h.2 x hx).2.2.2.1⟩)
  have := h.1
  omega

theorem sml.left {l m : List X} (h : sml (l ++ m)) : sml l :=
  ⟨by have := h.1; simp at this; omega, fun x hx => h.2 x (by simp [hx])⟩
theorem sml.right {l m : List X} (h : sml (l ++ m)) : sml m :=
  ⟨by have := h.1; simp at this; omega, fun x hx => h.2 x (by simp [hx])⟩
theorem sml.head {x : X} {m : List X} (h : sml (x :: m)) : 0 ≤ x.a ∧ x.a ≤ 1000000 ∧ 0 ≤ x.n ∧ x.n ≤ 1000000 ∧ 0 ≤ x.s ∧ x.s ≤ 1000000 := h.2 x (by simp)
theorem sml.tail {x : X} {m : List X} (h : sml (x :: m)) : sml m :=
  ⟨by have := h.1; simp at this; omega, fun y hy => h.2 y (by simp [hy])⟩
theorem sml.sub {l m : List X} (h : sml l) (hl : m.length ≤ l.length) (hm : ∀ x ∈ m, x ∈ l) : sml m :=
  ⟨Nat.le_trans hl h.1, fun x hx => h.2 x (hm x hx)⟩

end Go.Proofs.Ytdfdnimledcfbaa
