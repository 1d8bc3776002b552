/- An argument that is a slice of steps or of extents, opened to its cells. Conditions: it can be read as data. -/
import Derived.Test.YtdfdnimledcfbaaRows
import Derived.Test.YtdfdnimledcfbaaSteps
import Derived.ProofKit
import Derived.OpenShut
import Derived.ChangeOld
import Derived.Deep.Slices
import Derived.Deep.Fields
import Derived.ChangeSame
namespace Go.Proofs.Ytdfdnimledcfbaa
open Go.ChangeShapes Go.WideShapes Go.ChangeAt Go.RowKit Go.Deep

section
variable {H : Type} {enc : TypeId × Value → H} {P : Program} {w : World} {base : Nat} {spare : Nat → Bool} {held : Bool}
/-- A slice of structs of one-cell fields: every element's every field. -/
theorem open_rows {t e : TypeId} {fs : Array Field} {fuel : Nat} {cs : List Value} {x : DataW H × List MemPlace} (ht : P.underlying t = some (.slice e)) (he : P.underlying e = some (.struct fs))
    (hone : oneCellFields P fs = true) (hC : P.cellsOf e = fs.size) (h : DataW.trod enc P w base spare held fuel t cs = some x) :
    cs = [.slice none 0 0] ∨
    ∃ (a : Addr) (len cap : Nat), cs = [.slice (some a) len cap] ∧ len ≤ cap ∧ cap ≤ maxLen ∧
      ∀ i, i < len → ∃ n : Nat, ∀ (j : Nat) (f : Field), fs[j]? = some f → ∃ (v : Value) (y : DataW H × List MemPlace), w.cell? (a.add (i * fs.size + j)) = some v ∧ DataW.trod enc P w base spare held n f.type [v] = some y := by
  rcases open_slice ht h with ⟨h0, _⟩ | ⟨a, len, cap, m, n, D, Pl, hcs, hb, hl, hm, hmm, hx, hi⟩
  · exact .inl h0
  · refine .inr ⟨a, len, cap, hcs, hl, hm, fun i him => ?_⟩
    have him' : i < m := by rw [hmm]; split <;> omega
    obtain ⟨cs', hc, ht'⟩ := hi i him'
    rw [hC] at hc
    obtain ⟨ys, n', hn', hy, hlen, hyl, hf⟩ := DataW.trod_struct he ht'
    obtain ⟨_, hcl, hat⟩ := World.cells?_some hc
    refine ⟨n', fun j f hj => ?_⟩
    obtain ⟨ho, hk⟩ := hone_of hone j f hj
    have hjl : j < fs.size := (Array.getElem?_eq_some_iff.1 hj).1
    have hcell := hat j hjl
    have hv : cs'[j]? = some (cs'[j]'(by omega)) := List.getElem?_eq_getElem (by omega)
    have h1 := hf j f hj
    rw [ho, hk] at h1
    have hone' : (cs'.drop j).take 1 = [cs'[j]'(by omega)] := by
      rw [List.drop_eq_getElem_cons (by omega)]
      rfl
    rw [hone'] at h1
    have hys : ys[j]? = some (ys[j]'(by omega)) := List.getElem?_eq_getElem (by omega)
    refine ⟨_, _, ?_, h1.trans hys⟩
    rw [← Go.Deep.add_add, hcell, hv]
end

theorem add_off (b o k : Nat) (sp : Option _) (h : sp = none) : (⟨b, o, sp⟩ : Addr).add k = ⟨b, o + k, none⟩ := by
  subst h; unfold Addr.add; split <;> simp_all

/-- From a fact for every index to a list. -/
theorem list_of {α : Type} (n : Nat) (Q : Nat → α → Prop) (h : ∀ i, i < n → ∃ x, Q i x) : ∃ L : List α, L.length = n ∧ ∀ i x, L[i]? = some x → Q i x := by
  induction n with
  | zero => exact ⟨[], rfl, by simp⟩
  | succ n ih =>
    obtain ⟨L, hl, hq⟩ := ih (fun i hi => h i (by omega))
    obtain ⟨x, hx⟩ := h n (by omega)
    refine ⟨L ++ [x], by simp [hl], fun i y hy => ?_⟩
    rcases Nat.lt_or_ge i L.length with h1 | h1
    · rw [List.getElem?_append_left h1] at hy; exact hq i y hy
    · have h2 : i < (L ++ [x]).length := (List.getElem?_eq_some_iff.1 hy).1
      simp at h2
      have : i = L.length := by omega
      subst this
      simp at hy
      subst hy
      rw [hl]; exact hx

theorem add_zero' (a : Addr) : a.add 0 = a := by unfold Addr.add; rfl

theorem spot_none {W : World} {a : Addr} {v : Value} (h : W.cell? a = some v) : ∃ b o, a = ⟨b, o, none⟩ := by
  obtain ⟨b, o, sp⟩ := a
  have := World.cell?_spot h
  dsimp only at this
  subst this
  exact ⟨b, o, rfl⟩

theorem open_steps {H : Type} {enc : TypeId × Value → H} {w : World} {base : Nat} {spare : Nat → Bool} {held : Bool} {fuel : Nat} {v : Value} {x : DataW H × List MemPlace}
    (h : DataW.trod enc Try.prog w base spare held fuel 22 [v] = some x) : ∃ S : List St, SS w v S ∧ S.length ≤ maxLen := by
  rcases open_rows Try.underlying22 Try.underlying29 (by kernel_rfl) (by kernel_rfl) h with h0 | ⟨a, len, cap, h0, hl, hm, hi⟩
  · simp only [List.cons.injEq, and_true] at h0
    exact ⟨[], ⟨by simp, .inl ⟨⟨_, _, h0⟩, rfl⟩⟩, by simp⟩
  · simp only [List.cons.injEq, and_true] at h0
    have key : ∀ i, i < len → ∃ s : St, s.ok ∧ w.cell? (a.add (i * 4 + 0)) = some (.bool s.c) ∧ w.cell? (a.add (i * 4 + 1)) = some (.int .u8 s.a) ∧ w.cell? (a.add (i * 4 + 2)) = some (.int .u8 s.n) ∧ w.cell? (a.add (i * 4 + 3)) = some (.int .u8 s.s) := by
      intro i hlt
      obtain ⟨n, hn⟩ := hi i hlt
      obtain ⟨v0, y0, e0, t0⟩ := hn 0 _ rfl
      obtain ⟨v1, y1, e1, t1⟩ := hn 1 _ rfl
      obtain ⟨v2, y2, e2, t2⟩ := hn 2 _ rfl
      obtain ⟨v3, y3, e3, t3⟩ := hn 3 _ rfl
      obtain ⟨z0, g0, _⟩ := DataW.trod_bool Try.underlying4 t0
      obtain ⟨z1, g1, _, k1⟩ := DataW.trod_int Try.underlying5 t1
      obtain ⟨z2, g2, _, k2⟩ := DataW.trod_int Try.underlying5 t2
      obtain ⟨z3, g3, _, k3⟩ := DataW.trod_int Try.underlying5 t3
      simp only [List.cons.injEq, and_true] at g0 g1 g2 g3
      subst g0 g1 g2 g3
      have b1 := bounds_u8 k1
      have b2 := bounds_u8 k2
      have b3 := bounds_u8 k3
      exact ⟨⟨z0, z1, z2, z3⟩, ⟨b1.1, b1.2, b2.1, b2.2, b3.1, b3.2⟩, e0, e1, e2, e3⟩
    obtain ⟨S, hS, hq⟩ := list_of len _ key
    subst h0
    refine ⟨S, ⟨fun s hs => ?_, ?_⟩, by omega⟩
    · obtain ⟨i, hi', rfl⟩ := List.getElem_of_mem hs
      exact (hq i _ (List.getElem?_eq_getElem hi')).1
    · rcases Nat.eq_zero_or_pos len with hz | hpos
      · subst hz
        obtain rfl : S = [] := List.length_eq_zero_iff.1 hS
        exact .inl ⟨⟨_, _, rfl⟩, rfl⟩
      · obtain ⟨s0, _, c0, _⟩ := key 0 hpos
        obtain ⟨b, o, rfl⟩ : ∃ b o, a = ⟨b, o, none⟩ := spot_none (W := w) (by rw [add_zero' a] at c0; exact c0)
        refine .inr ⟨b, o, cap, by rw [hS], by omega, hm, fun i s hs => ?_⟩
        obtain ⟨_, d0, d1, d2, d3⟩ := hq i s hs
        rw [add_off _ _ _ _ rfl] at d0 d1 d2 d3
        exact ⟨d0, d1, d2, d3⟩

theorem wf64 {n : Int} (h : (Lit.int .i64 n).wf = true) : w64 n := bounds_i64 h

theorem open_exts {H : Type} {enc : TypeId × Value → H} {w : World} {base : Nat} {spare : Nat → Bool} {held : Bool} {fuel : Nat} {v : Value} {x : DataW H × List MemPlace}
    (h : DataW.trod enc Try.prog w base spare held fuel 33 [v] = some x) : ∃ L : List X, Sl w v L ∧ L.length ≤ maxLen ∧ ∀ x ∈ L, w64 x.a ∧ w64 x.n ∧ w64 x.s := by
  rcases open_rows Try.underlying33 Try.underlying31 (by kernel_rfl) (by kernel_rfl) h with h0 | ⟨a, len, cap, h0, hl, hm, hi⟩
  · simp only [List.cons.injEq, and_true] at h0
    exact ⟨[], .inl ⟨⟨_, _, h0⟩, rfl⟩, by simp, by simp⟩
  · simp only [List.cons.injEq, and_true] at h0
    have key : ∀ i, i < len → ∃ x : X, (w64 x.a ∧ w64 x.n ∧ w64 x.s) ∧ w.cell? (a.add (i * 3 + 0)) = some (.int .i64 x.a) ∧ w.cell? (a.add (i * 3 + 1)) = some (.int .i64 x.n) ∧ w.cell? (a.add (i * 3 + 2)) = some (.int .i64 x.s) := by
      intro i hlt
      obtain ⟨n, hn⟩ := hi i hlt
      obtain ⟨v1, y1, e1, t1⟩ := hn 0 _ rfl
      obtain ⟨v2, y2, e2, t2⟩ := hn 1 _ rfl
      obtain ⟨v3, y3, e3, t3⟩ := hn 2 _ rfl
      obtain ⟨z1, g1, _, k1⟩ := DataW.trod_int Try.underlying3 t1
      obtain ⟨z2, g2, _, k2⟩ := DataW.trod_int Try.underlying3 t2
      obtain ⟨z3, g3, _, k3⟩ := DataW.trod_int Try.underlying3 t3
      simp only [List.cons.injEq, and_true] at g1 g2 g3
      subst g1 g2 g3
      exact ⟨⟨z1, z2, z3⟩, ⟨wf64 k1, wf64 k2, wf64 k3⟩, e1, e2, e3⟩
    obtain ⟨S, hS, hq⟩ := list_of len _ key
    subst h0
    refine ⟨S, ?_, by omega, fun s hs => ?_⟩
    · rcases Nat.eq_zero_or_pos len with hz | hpos
      · subst hz
        obtain rfl : S = [] := List.length_eq_zero_iff.1 hS
        exact .inl ⟨⟨_, _, rfl⟩, rfl⟩
      · obtain ⟨s0, _, c0, _⟩ := key 0 hpos
        obtain ⟨b, o, rfl⟩ : ∃ b o, a = ⟨b, o, none⟩ := spot_none (W := w) (by rw [add_zero' a] at c0; exact c0)
        refine .inr ⟨b, o, cap, by rw [hS], by omega, hm, fun i s hs => ?_⟩
        obtain ⟨_, d1, d2, d3⟩ := hq i s hs
        rw [add_off _ _ _ _ rfl] at d1 d2 d3
        exact ⟨d1, d2, d3⟩
    · obtain ⟨i, hi', rfl⟩ := List.getElem_of_mem hs
      exact (hq i _ (List.getElem?_eq_getElem hi')).1

end Go.Proofs.Ytdfdnimledcfbaa
