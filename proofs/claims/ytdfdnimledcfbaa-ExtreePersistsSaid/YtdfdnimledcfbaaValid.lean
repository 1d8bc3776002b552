/- What the tests of extents and ranges return. Conditions: the numbers are of 64 bits. -/
import Derived.Test.YtdfdnimledcfbaaList
namespace Go.Proofs.Ytdfdnimledcfbaa
open Go.RowKit
open Go.Deep (BT)

/-- A number of 64 bits. -/
def w64 (n : Int) : Prop := -9223372036854775808 ≤ n ∧ n ≤ 9223372036854775807

/-- A part of a space lies in it. -/
def wth (t n z : Int) : Bool := decide (0 ≤ t ∧ 0 ≤ n ∧ t ≤ z ∧ n ≤ z - t)

theorem ret_bool {a b : Bool} (h : a = b) : Ending.returned (.bool a) = .returned (.bool b) := by rw [h]

set_option maxHeartbeats 1000000 in
theorem within_any (t n z : Int) (hz : 0 ≤ z) (hz2 : z ≤ 1000000) (w : World) : Calls Try.prog 60 #[.int .i64 t, .int .i64 n, .int .i64 z] w fun e w' => e = .returned (.bool (wth t n z)) ∧ w = w' := by
  by_cases h1 : 0 ≤ t
  · by_cases h2 : 0 ≤ n
    · by_cases h3 : t ≤ z
      · by_cases h4 : n ≤ z - t
        · have HF : Hid (true = wth t n z) := by show true = wth t n z; simp [wth, h1, h2, h3, h4]
          go_enter Try.func60, Try.ntmps60
          go_wp2
          go_ret
          exact ⟨ret_bool HF.out, rfl⟩
        · have HF : Hid (false = wth t n z) := by show false = wth t n z; simp [wth, h4]
          go_enter Try.func60, Try.ntmps60
          go_wp2
          go_ret
          exact ⟨ret_bool HF.out, rfl⟩
      · have HF : Hid (false = wth t n z) := by show false = wth t n z; simp [wth, h3]
        go_enter Try.func60, Try.ntmps60
        go_wp2
        go_ret
        exact ⟨ret_bool HF.out, rfl⟩
    · have HF : Hid (false = wth t n z) := by show false = wth t n z; simp [wth, h2]
      go_enter Try.func60, Try.ntmps60
      go_wp2
      go_ret
      exact ⟨ret_bool HF.out, rfl⟩
  · have HF : Hid (false = wth t n z) := by show false = wth t n z; simp [wth, h1]
    go_enter Try.func60, Try.ntmps60
    go_wp2
    go_ret
    exact ⟨ret_bool HF.out, rfl⟩

instance (x : X) : Decidable (okx x) := by unfold okx; exact inferInstance

/-- An extent is valid, as a bool. -/
def okb (x : X) : Bool := decide (okx x)
theorem okb_true {x : X} : okb x = true ↔ okx x := by simp [okb]
theorem okb_false {x : X} : okb x = false ↔ ¬ okx x := by simp [okb]

theorem okb_of (x : X) : okb x = (decide (1 ≤ x.n) && (wth x.a x.n 65536 && wth x.s x.n 65536)) := by
  rw [Bool.eq_iff_iff, okb_true]
  simp only [wth, decide_eq_true_eq, Bool.and_eq_true]
  unfold okx
  constructor
  · rintro ⟨h1, h2, h3, h4, h5⟩
    exact ⟨h2, ⟨h1, by omega, by omega, by omega⟩, h3, by omega, by omega, by omega⟩
  · rintro ⟨h1, ⟨h2, h3, h4, h5⟩, h6, h7, h8, h9⟩
    exact ⟨h2, h1, h6, by omega, by omega⟩

/-- What an extent's test returns: a bool, and a box more. -/
def RetB (w : World) (b : Bool) (e : Ending) (w' : World) : Prop := e = .returned (.bool b) ∧ Below w.heap.size w w'

set_option maxHeartbeats 1000000 in
theorem proper_any (x : X) (w : World) : Calls Try.prog 53 #[ag x] w (RetB w (okb x)) := by
  rw [okb_of]
  have BB := Lib.hid (fun o => ((Below.refl _ w).alloc (Nat.le_refl _) o : Below w.heap.size w (w.alloc o)))
  obtain ⟨xa, xn, xs⟩ := x
  unfold ag
  dsimp only
  by_cases h1 : 1 ≤ xn
  · cases h2 : wth xa xn 65536 with
    | true =>
      have H2 := Lib.hid h2; clear h2
      go_enter Try.func53, Try.ntmps53
      go_wp2_with fail
      refine (within_any _ _ _ (by omega) (by omega) _).mono ?_
      rintro e w' ⟨rfl, rfl⟩
      rw [H2.out]
      go_wp2_with fail
      refine (within_any _ _ _ (by omega) (by omega) _).mono ?_
      rintro e w' ⟨rfl, rfl⟩
      go_wp2_with fail
      go_ret
      exact ⟨by simp [h1], BB.out _⟩
    | false =>
      have H2 := Lib.hid h2; clear h2
      go_enter Try.func53, Try.ntmps53
      go_wp2_with fail
      refine (within_any _ _ _ (by omega) (by omega) _).mono ?_
      rintro e w' ⟨rfl, rfl⟩
      rw [H2.out]
      go_wp2_with fail
      go_ret
      exact ⟨by simp, BB.out _⟩
  · have HF : Hid (decide (1 ≤ xn) = false) := by show decide (1 ≤ xn) = false; simp; omega
    go_enter Try.func53, Try.ntmps53
    go_wp2_with fail
    go_ret
    exact ⟨by rw [HF.out]; rfl, BB.out _⟩

set_option maxHeartbeats 1000000 in
theorem end_any (x : X) (hx : okx x) (w : World) : Calls Try.prog 54 #[ag x] w fun e w' => e = .returned (.int .i64 (x.a + x.n)) ∧ Below w.heap.size w w' := by
  have BB := Lib.hid (fun o => ((Below.refl _ w).alloc (Nat.le_refl _) o : Below w.heap.size w (w.alloc o)))
  unfold okx at hx
  obtain ⟨h1, h2, h3, h4, h5⟩ := hx
  obtain ⟨xa, xn, xs⟩ := x
  unfold ag
  dsimp only at *
  go_enter Try.func54, Try.ntmps54
  go_wp2
  go_ret
  exact ⟨rfl, BB.out _⟩

end Go.Proofs.Ytdfdnimledcfbaa
