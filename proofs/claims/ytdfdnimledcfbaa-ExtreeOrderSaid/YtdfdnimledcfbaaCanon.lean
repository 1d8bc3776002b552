/- A valid list in normal form is told by where its blocks lie. Conditions: none. -/
import Derived.Test.YtdfdnimledcfbaaOf
namespace Go.Proofs.Ytdfdnimledcfbaa

theorem fd_true {t : Int} {l : List X} (h : (fd t l).2 = true) : ∃ x ∈ l, x.a ≤ t ∧ t < x.a + x.n := by
  induction l with
  | nil => simp [fd] at h
  | cons x l ih =>
    rw [fd] at h
    split at h
    · rename_i h1
      exact ⟨x, by simp, h1⟩
    · obtain ⟨y, hy, h2⟩ := ih h
      exact ⟨y, by simp [hy], h2⟩

theorem fd_cons_in {t : Int} {x : X} {l : List X} (h1 : x.a ≤ t) (h2 : t < x.a + x.n) : fd t (x :: l) = (x.s + t - x.a, true) := by
  rw [fd, if_pos ⟨h1, h2⟩]
theorem fd_cons_out {t : Int} {x : X} {l : List X} (h : ¬ (x.a ≤ t ∧ t < x.a + x.n)) : fd t (x :: l) = fd t l := by
  rw [fd, if_neg h]

/-- The first block of a valid list is that of its first extent. -/
theorem fd_min {x : X} {l : List X} (h : vld (x :: l)) {t : Int} (ht : (fd t (x :: l)).2 = true) : x.a ≤ t := by
  obtain ⟨hx, hl, hb⟩ := vld_cons.1 h
  obtain ⟨y, hy, h1, h2⟩ := fd_true ht
  unfold okx at hx
  rcases List.mem_cons.1 hy with rfl | hy
  · omega
  · have := hb y hy; omega

theorem canon_len {x y : X} {A B : List X} (hA : vld (x :: A)) (nA : nf (x :: A)) (hB : vld (y :: B)) (ha : x.a = y.a) (hs : x.s = y.s) (he : ∀ t, fd t (x :: A) = fd t (y :: B)) : ¬ x.n < y.n := by
  intro hlt
  obtain ⟨hx, hA', hbA⟩ := vld_cons.1 hA
  obtain ⟨hy, _, _⟩ := vld_cons.1 hB
  unfold okx at hx hy
  have h1 := he (x.a + x.n)
  rw [fd_cons_in (x := y) (by omega) (by omega), fd_cons_out (x := x) (by omega)] at h1
  obtain ⟨z, hz, h2, h3⟩ := fd_true (l := A) (t := x.a + x.n) (by rw [h1])
  have h4 := hbA z hz
  have h5 : z.a = x.a + x.n := by omega
  obtain ⟨l1, l2, rfl⟩ := List.append_of_mem hz
  rw [fd_here hA' h2 h3] at h1
  have h6 := (Prod.mk.injEq _ _ _ _).mp h1
  exact (nf_cons.1 nA).1 z hz ⟨by omega, by omega⟩

theorem canon : ∀ (A B : List X), vld A → nf A → vld B → nf B → (∀ t, fd t A = fd t B) → A = B := by
  intro A
  induction A with
  | nil =>
    intro B _ _ hB _ he
    cases B with
    | nil => rfl
    | cons y B =>
      have hy := (vld_cons.1 hB).1
      unfold okx at hy
      have := he y.a
      rw [fd_cons_in (by omega) (by omega)] at this
      simp [fd] at this
  | cons x A ih =>
    intro B hA nA hB nB he
    have hx := (vld_cons.1 hA).1
    unfold okx at hx
    cases B with
    | nil =>
      have := he x.a
      rw [fd_cons_in (by omega) (by omega)] at this
      simp [fd] at this
    | cons y B =>
      have hy := (vld_cons.1 hB).1
      unfold okx at hy
      have e1 := he x.a
      rw [fd_cons_in (by omega) (by omega)] at e1
      have m1 := fd_min hB (t := x.a) (by rw [← e1])
      have e2 := he y.a
      rw [fd_cons_in (x := y) (by omega) (by omega)] at e2
      have m2 := fd_min hA (t := y.a) (by rw [e2])
      have ha : x.a = y.a := by omega
      rw [fd_cons_in (x := y) (by omega) (by omega)] at e1
      have hs : x.s = y.s := by have := congrArg Prod.fst e1; dsimp only at this; omega
      have n1 := canon_len hA nA hB ha hs he
      have n2 := canon_len hB nB hA ha.symm hs.symm (fun t => (he t).symm)
      have hxy : x = y := by
        obtain ⟨a, b, c⟩ := x
        obtain ⟨a', b', c'⟩ := y
        dsimp only at *
        obtain rfl : a = a' := ha
        obtain rfl : c = c' := hs
        obtain rfl : b = b' := by omega
        rfl
      subst hxy
      congr 1
      refine ih B (vld_cons.1 hA).2.1 (nf_cons.1 nA).2 (vld_cons.1 hB).2.1 (nf_cons.1 nB).2 fun t => ?_
      by_cases ht : x.a ≤ t ∧ t < x.a + x.n
      · rw [fd_none fun z hz => by have := (vld_cons.1 hA).2.2 z hz; omega, fd_none fun z hz => by have := (vld_cons.1 hB).2.2 z hz; omega]
      · have := he t
        rwa [fd_cons_out ht, fd_cons_out ht] at this

theorem fd_append (t : Int) (l m : List X) : fd t (l ++ m) = if (fd t l).2 then fd t l else fd t m := by
  induction l with
  | nil => simp [fd]
  | cons x l ih =>
    rw [List.cons_append, fd, fd, ih]
    split <;> simp

theorem fd_one (t : Int) (x : X) : fd t [x] = if x.a ≤ t ∧ t < x.a + x.n then (x.s + t - x.a, true) else (0, false) := rfl

theorem fd_psh (t : Int) (o : List X) (x : X) (ho : ∀ y ∈ o, okx y) (hx : okx x) : fd t (psh o x) = fd t (o ++ [x]) := by
  rcases List.eq_nil_or_concat o with rfl | ⟨o', y, rfl⟩
  · simp [psh]
  · rw [List.concat_eq_append, psh_snoc]
    have hy := ho y (by simp)
    unfold okx at hx hy
    split
    · rename_i h
      unfold adj at h
      rw [List.append_assoc, fd_append, fd_append]
      have : fd t [⟨y.a, y.n + x.n, y.s⟩] = fd t ([y] ++ [x]) := by
        rw [fd_append, fd_one, fd_one, fd_one]
        by_cases h1 : y.a ≤ t ∧ t < y.a + y.n
        · rw [if_pos (by dsimp only; omega), if_pos h1]; simp
        · rw [if_neg h1]
          by_cases h2 : x.a ≤ t ∧ t < x.a + x.n
          · rw [if_pos (by dsimp only; omega), if_pos h2]
            simp
            omega
          · rw [if_neg (by dsimp only; omega), if_neg h2]; simp
      rw [this]
    · rfl

theorem fd_jo (t : Int) (L : List X) (hv : vld L) (k : Nat) : fd t (jo L k) = fd t (L.take k) := by
  induction k with
  | zero => simp [jo]
  | succ k ih =>
    by_cases hk : k < L.length
    · have hx := List.getElem?_eq_getElem hk
      rw [jo_next hx, take_one hx, fd_psh t _ _ (jo_vn hv k).1.1 (hv.1 _ (List.getElem_mem hk)), fd_append, fd_append, ih]
    · rw [jo_full (by omega), ← jo_full (L := L) (k := k) (by omega), ih, List.take_of_length_le (by omega), List.take_of_length_le (by omega)]

theorem fd_jn (t : Int) (L : List X) (hv : vld L) : fd t (jn L) = fd t L := by
  rw [← jo_full (Nat.le_refl _), fd_jo t L hv, List.take_length]

theorem fd_hdL (t u : Int) (L : List X) (hv : vld L) : fd t (hdL u L) = if t < u then fd t L else (0, false) := by
  induction L with
  | nil => simp [hdL, fd]
  | cons x l ih =>
    obtain ⟨hx, hl, hb⟩ := vld_cons.1 hv
    unfold okx at hx
    rw [hdL_cons, fd_append, ih hl]
    unfold hd
    by_cases h2 : t < u
    · simp only [h2, if_true]
      by_cases h1 : u ≤ x.a
      · rw [if_pos h1, fd_cons_out (by omega)]; simp [fd]
      · rw [if_neg h1]
        by_cases h3 : x.a + x.n ≤ u
        · rw [if_pos h3, fd_one]
          by_cases h4 : x.a ≤ t ∧ t < x.a + x.n
          · rw [if_pos h4, fd_cons_in h4.1 h4.2]; simp
          · rw [if_neg h4, fd_cons_out h4]; simp
        · rw [if_neg h3, fd_one]
          by_cases h4 : x.a ≤ t
          · rw [if_pos (show x.a ≤ t ∧ t < x.a + (u - x.a) by omega), fd_cons_in h4 (by omega)]; simp
          · rw [if_neg (show ¬ (x.a ≤ t ∧ t < x.a + (u - x.a)) by omega), fd_cons_out (by omega)]; simp
    · simp only [h2, if_false]
      have : fd t (if u ≤ x.a then [] else if x.a + x.n ≤ u then [x] else [⟨x.a, u - x.a, x.s⟩]) = (0, false) := by
        refine fd_none fun y hy => ?_
        split at hy
        · simp at hy
        · split at hy
          · simp at hy; subst hy; omega
          · simp at hy; subst hy; dsimp only; omega
      rw [this]; simp

theorem fd_tlL (t u : Int) (L : List X) (hv : vld L) : fd t (tlL u L) = if u ≤ t then fd t L else (0, false) := by
  induction L with
  | nil => simp [tlL, fd]
  | cons x l ih =>
    obtain ⟨hx, hl, hb⟩ := vld_cons.1 hv
    unfold okx at hx
    rw [tlL_cons, fd_append, ih hl]
    unfold tl
    by_cases h2 : u ≤ t
    · simp only [h2, if_true]
      by_cases h1 : u ≤ x.a
      · rw [if_pos h1, fd_one]
        by_cases h4 : x.a ≤ t ∧ t < x.a + x.n
        · rw [if_pos h4, fd_cons_in h4.1 h4.2]; simp
        · rw [if_neg h4, fd_cons_out h4]; simp
      · rw [if_neg h1]
        by_cases h3 : x.a + x.n ≤ u
        · rw [if_pos h3, fd_cons_out (by omega)]; simp [fd]
        · rw [if_neg h3, fd_one]
          by_cases h4 : t < x.a + x.n
          · rw [if_pos (show u ≤ t ∧ t < u + (x.n - (u - x.a)) by omega), fd_cons_in (by omega) h4]
            simp
            omega
          · rw [if_neg (show ¬ (u ≤ t ∧ t < u + (x.n - (u - x.a))) by omega), fd_cons_out (by omega)]; simp
    · simp only [h2, if_false]
      have : fd t (if u ≤ x.a then [x] else if x.a + x.n ≤ u then [] else [⟨u, x.n - (u - x.a), x.s + (u - x.a)⟩]) = (0, false) := by
        refine fd_none fun y hy => ?_
        split at hy
        · simp at hy; subst hy; omega
        · split at hy
          · simp at hy
          · simp at hy; subst hy; dsimp only; omega
      rw [this]; simp

theorem fd_put (t : Int) (L : List X) (x : X) (hv : vld L) (hx : okx x) : fd t (put L x) = if x.a ≤ t ∧ t < x.a + x.n then (x.s + t - x.a, true) else fd t L := by
  have hx' := hx
  unfold okx at hx'
  unfold put
  rw [fd_jn t _ (put_vld hv hx), fd_append, fd_hdL t _ L hv]
  by_cases h1 : t < x.a
  · simp only [h1, if_true]
    rw [if_neg (show ¬ (x.a ≤ t ∧ t < x.a + x.n) by omega), fd_cons_out (by omega), fd_tlL t _ L hv, if_neg (show ¬ x.a + x.n ≤ t by omega)]
    cases h : (fd t L).2 with
    | true => simp
    | false =>
      simp only [Bool.false_eq_true, if_false]
      by_cases h3 : ∃ y ∈ L, y.a ≤ t ∧ t < y.a + y.n
      · obtain ⟨y, hy, h4, h5⟩ := h3
        obtain ⟨l1, l2, rfl⟩ := List.append_of_mem hy
        rw [fd_here hv h4 h5] at h
        cases h
      · exact (fd_none fun y hy h6 => h3 ⟨y, hy, h6⟩).symm
  · simp only [h1, if_false, Bool.false_eq_true]
    by_cases h2 : t < x.a + x.n
    · rw [fd_cons_in (by omega) h2, if_pos ⟨by omega, h2⟩]
    · rw [fd_cons_out (by omega), fd_tlL t _ L hv, if_pos (show x.a + x.n ≤ t by omega), if_neg (by omega)]

end Go.Proofs.Ytdfdnimledcfbaa
