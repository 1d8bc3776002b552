/- Plain facts on lists of extents: valid lists, parts of them, the normal form. Conditions: none. -/
import Derived.Test.YtdfdnimledcfbaaPlain
namespace Go.Proofs.Ytdfdnimledcfbaa
open Go.Deep (BT)

theorem X.ext {x y : X} (h1 : x.a = y.a) (h2 : x.n = y.n) (h3 : x.s = y.s) : x = y := by
  cases x; cases y; simp_all

/-- A valid extent. -/
def okx (x : X) : Prop := 0 ≤ x.a ∧ 1 ≤ x.n ∧ 0 ≤ x.s ∧ x.a + x.n ≤ 65536 ∧ x.s + x.n ≤ 65536

/-- A valid list. -/
def vld (l : List X) : Prop := (∀ x ∈ l, okx x) ∧ l.Pairwise (fun x y => x.a + x.n ≤ y.a)

theorem vld.nil : vld [] := ⟨by simp, List.Pairwise.nil⟩

theorem vld_append {l m : List X} : vld (l ++ m) ↔ vld l ∧ vld m ∧ ∀ x ∈ l, ∀ y ∈ m, x.a + x.n ≤ y.a := by
  unfold vld
  rw [List.pairwise_append]
  constructor
  · rintro ⟨h1, h2, h3, h4⟩
    exact ⟨⟨fun x hx => h1 x (by simp [hx]), h2⟩, ⟨fun x hx => h1 x (by simp [hx]), h3⟩, h4⟩
  · rintro ⟨⟨h1, h2⟩, ⟨h3, h4⟩, h5⟩
    refine ⟨fun x hx => ?_, h2, h4, h5⟩
    rcases List.mem_append.1 hx with h | h
    · exact h1 x h
    · exact h3 x h

theorem vld_cons {x : X} {l : List X} : vld (x :: l) ↔ okx x ∧ vld l ∧ ∀ y ∈ l, x.a + x.n ≤ y.a := by
  unfold vld
  rw [List.pairwise_cons]
  constructor
  · rintro ⟨h1, h2, h3⟩
    exact ⟨h1 x (by simp), ⟨fun y hy => h1 y (by simp [hy]), h3⟩, h2⟩
  · rintro ⟨h1, ⟨h2, h3⟩, h4⟩
    refine ⟨fun y hy => ?_, h4, h3⟩
    rcases List.mem_cons.1 hy with h | h
    · rw [h]; exact h1
    · exact h2 y h

theorem vld.su_le {l : List X} : ∀ (lo : Int), vld l → (∀ x ∈ l, lo ≤ x.a) → lo ≤ 65536 → lo + su l ≤ 65536 ∧ (l.length : Int) ≤ su l := by
  induction l with
  | nil => intro lo _ _ h; simp [su]; omega
  | cons x l ih =>
    intro lo hv hlo _
    obtain ⟨h1, h2, h3⟩ := vld_cons.1 hv
    have h4 := hlo x (by simp)
    unfold okx at h1
    have h5 := ih (x.a + x.n) h2 h3 (by omega)
    simp only [su, List.length_cons]
    omega

theorem vld.bounds {l : List X} (h : vld l) : l.length ≤ 65536 ∧ 0 ≤ su l ∧ su l ≤ 65536 := by
  have h1 := vld.su_le 0 h (fun x hx => (h.1 x hx).1) (by omega)
  omega

theorem vld.sml {l : List X} (h : vld l) : sml l := by
  have := h.bounds
  refine ⟨by omega, fun x hx => ?_⟩
  have := h.1 x hx
  unfold okx at this
  omega

/-- The part of an extent ahead of a block. -/
def hd (t : Int) (x : X) : List X := if t ≤ x.a then [] else if x.a + x.n ≤ t then [x] else [⟨x.a, t - x.a, x.s⟩]
/-- The part of an extent from a block on. -/
def tl (t : Int) (x : X) : List X := if t ≤ x.a then [x] else if x.a + x.n ≤ t then [] else [⟨t, x.n - (t - x.a), x.s + (t - x.a)⟩]

def hdL (t : Int) (l : List X) : List X := l.flatMap (hd t)
def tlL (t : Int) (l : List X) : List X := l.flatMap (tl t)

theorem hdL_append (t : Int) (l m : List X) : hdL t (l ++ m) = hdL t l ++ hdL t m := by simp [hdL]
theorem tlL_append (t : Int) (l m : List X) : tlL t (l ++ m) = tlL t l ++ tlL t m := by simp [tlL]
theorem hdL_cons (t : Int) (x : X) (m : List X) : hdL t (x :: m) = hd t x ++ hdL t m := by simp [hdL]
theorem tlL_cons (t : Int) (x : X) (m : List X) : tlL t (x :: m) = tl t x ++ tlL t m := by simp [tlL]

theorem hdL_behind {t : Int} {l : List X} (h : ∀ x ∈ l, t ≤ x.a) : hdL t l = [] ∧ tlL t l = l := by
  induction l with
  | nil => simp [hdL, tlL]
  | cons x l ih =>
    have h1 := h x (by simp)
    have h2 := ih (fun y hy => h y (by simp [hy]))
    rw [hdL_cons, tlL_cons, h2.1, h2.2]
    simp [hd, tl, h1]

theorem hdL_ahead {t : Int} {l : List X} (h : ∀ x ∈ l, 1 ≤ x.n ∧ x.a + x.n ≤ t) : hdL t l = l ∧ tlL t l = [] := by
  induction l with
  | nil => simp [hdL, tlL]
  | cons x l ih =>
    have h1 := h x (by simp)
    have h2 := ih (fun y hy => h y (by simp [hy]))
    rw [hdL_cons, tlL_cons, h2.1, h2.2]
    have h3 : ¬ t ≤ x.a := by omega
    simp [hd, tl, h1.2, h3]

theorem hd_mem {t : Int} {x y : X} (h : y ∈ hd t x) (hx : okx x) : okx y ∧ x.a = y.a ∧ y.a + y.n ≤ x.a + x.n ∧ y.a + y.n ≤ t ∧ x.s = y.s := by
  unfold hd at h
  unfold okx at *
  split at h
  · simp at h
  · split at h
    · simp only [List.mem_singleton] at h; subst h; omega
    · simp only [List.mem_singleton] at h; subst h; dsimp only; omega

theorem tl_mem {t : Int} {x y : X} (h : y ∈ tl t x) (hx : okx x) : okx y ∧ x.a ≤ y.a ∧ y.a + y.n = x.a + x.n ∧ t ≤ y.a ∧ y.s + y.n = x.s + x.n := by
  unfold tl at h
  unfold okx at *
  split at h
  · simp only [List.mem_singleton] at h; subst h; omega
  · split at h
    · simp at h
    · simp only [List.mem_singleton] at h; subst h; dsimp only; omega

theorem hd_len (t : Int) (x : X) : (hd t x).length ≤ 1 := by unfold hd; split <;> (try split) <;> simp
theorem tl_len (t : Int) (x : X) : (tl t x).length ≤ 1 := by unfold tl; split <;> (try split) <;> simp

theorem vld_short {l : List X} (h : l.length ≤ 1) (h2 : ∀ x ∈ l, okx x) : vld l := by
  refine ⟨h2, ?_⟩
  cases l with
  | nil => exact List.Pairwise.nil
  | cons a l => cases l with
    | nil => simp
    | cons b l => simp at h

theorem hdL_mem {t : Int} {l : List X} {y : X} (h : y ∈ hdL t l) (hl : vld l) : ∃ x ∈ l, okx y ∧ x.a = y.a ∧ y.a + y.n ≤ x.a + x.n ∧ y.a + y.n ≤ t ∧ x.s = y.s := by
  obtain ⟨x, hx, hy⟩ := List.mem_flatMap.1 h
  exact ⟨x, hx, hd_mem hy (hl.1 x hx)⟩
theorem tlL_mem {t : Int} {l : List X} {y : X} (h : y ∈ tlL t l) (hl : vld l) : ∃ x ∈ l, okx y ∧ x.a ≤ y.a ∧ y.a + y.n = x.a + x.n ∧ t ≤ y.a ∧ y.s + y.n = x.s + x.n := by
  obtain ⟨x, hx, hy⟩ := List.mem_flatMap.1 h
  exact ⟨x, hx, tl_mem hy (hl.1 x hx)⟩

theorem vld_hdL {t : Int} {l : List X} (h : vld l) : vld (hdL t l) := by
  induction l with
  | nil => exact vld.nil
  | cons x l ih =>
    obtain ⟨h1, h2, h3⟩ := vld_cons.1 h
    rw [hdL_cons]
    refine vld_append.2 ⟨vld_short (hd_len t x) (fun y hy => (hd_mem hy h1).1), ih h2, fun y hy z hz => ?_⟩
    obtain ⟨z', hz', g⟩ := hdL_mem hz h2
    have g2 := hd_mem hy h1
    have g3 := h3 z' hz'
    omega

theorem vld_tlL {t : Int} {l : List X} (h : vld l) : vld (tlL t l) := by
  induction l with
  | nil => exact vld.nil
  | cons x l ih =>
    obtain ⟨h1, h2, h3⟩ := vld_cons.1 h
    rw [tlL_cons]
    refine vld_append.2 ⟨vld_short (tl_len t x) (fun y hy => (tl_mem hy h1).1), ih h2, fun y hy z hz => ?_⟩
    obtain ⟨z', hz', g⟩ := tlL_mem hz h2
    have g2 := tl_mem hy h1
    have g3 := h3 z' hz'
    omega

/-- Two extents could be one. -/
def adj (x y : X) : Prop := x.a + x.n = y.a ∧ x.s + x.n = y.s
instance (x y : X) : Decidable (adj x y) := by unfold adj; exact inferInstance

/-- No extent of the list could be one with a later one. -/
def nf (l : List X) : Prop := l.Pairwise (fun x y => ¬ adj x y)

theorem nf_append {l m : List X} : nf (l ++ m) ↔ nf l ∧ nf m ∧ ∀ x ∈ l, ∀ y ∈ m, ¬ adj x y := by
  unfold nf; rw [List.pairwise_append]
theorem nf_cons {x : X} {l : List X} : nf (x :: l) ↔ (∀ y ∈ l, ¬ adj x y) ∧ nf l := by
  unfold nf; rw [List.pairwise_cons]
theorem nf_short {l : List X} (h : l.length ≤ 1) : nf l := by
  cases l with
  | nil => exact List.Pairwise.nil
  | cons a l => cases l with
    | nil => simp [nf]
    | cons b l => simp at h

theorem nf_hdL {t : Int} {l : List X} (h : vld l) (hn : nf l) : nf (hdL t l) := by
  induction l with
  | nil => exact List.Pairwise.nil
  | cons x l ih =>
    obtain ⟨h1, h2, h3⟩ := vld_cons.1 h
    obtain ⟨n1, n2⟩ := nf_cons.1 hn
    rw [hdL_cons]
    refine nf_append.2 ⟨nf_short (hd_len t x), ih h2 n2, fun y hy z hz => ?_⟩
    obtain ⟨z', hz', g⟩ := hdL_mem hz h2
    have g2 := hd_mem hy h1
    have g3 := h3 z' hz'
    have g4 := n1 z' hz'
    unfold adj okx at *
    intro hq
    exact g4 ⟨by omega, by omega⟩

theorem nf_tlL {t : Int} {l : List X} (h : vld l) (hn : nf l) : nf (tlL t l) := by
  induction l with
  | nil => exact List.Pairwise.nil
  | cons x l ih =>
    obtain ⟨h1, h2, h3⟩ := vld_cons.1 h
    obtain ⟨n1, n2⟩ := nf_cons.1 hn
    rw [tlL_cons]
    refine nf_append.2 ⟨nf_short (tl_len t x), ih h2 n2, fun y hy z hz => ?_⟩
    have g2 := tl_mem hy h1
    have hz2 : tlL t l = l := (hdL_behind (fun u hu => by have := h3 u hu; unfold okx at *; omega)).2
    rw [hz2] at hz
    have g4 := n1 z hz
    unfold adj okx at *
    intro hq
    exact g4 ⟨by omega, by omega⟩

/-- Appends an extent to a normal form. -/
def psh (o : List X) (x : X) : List X :=
  match o.getLast? with
  | some y => if adj y x then o.dropLast ++ [⟨y.a, y.n + x.n, y.s⟩] else o ++ [x]
  | none => [x]

/-- The normal form of a list. -/
def jn (l : List X) : List X := l.foldl psh []

theorem psh_snoc (o : List X) (y x : X) : psh (o ++ [y]) x = if adj y x then o ++ [⟨y.a, y.n + x.n, y.s⟩] else o ++ [y] ++ [x] := by
  simp [psh]
theorem psh_nil (x : X) : psh [] x = [x] := rfl

theorem psh_far {o : List X} {x : X} (h : ∀ y ∈ o, ¬ adj y x) : psh o x = o ++ [x] := by
  rcases List.eq_nil_or_concat o with rfl | ⟨o', y, rfl⟩
  · rfl
  · rw [List.concat_eq_append] at *
    rw [psh_snoc, if_neg (h y (by simp))]

theorem foldl_far {l : List X} : ∀ {o : List X}, nf (o ++ l) → l.foldl psh o = o ++ l := by
  induction l with
  | nil => intro o _; simp
  | cons x l ih =>
    intro o h
    have h1 := nf_append.1 h
    rw [List.foldl_cons, psh_far (fun y hy => h1.2.2 y hy x (by simp)), ih (by simpa using h)]
    simp

theorem jn_nf {l : List X} (h : nf l) : jn l = l := by
  unfold jn; rw [foldl_far (by simpa using h)]; simp

theorem psh_vn {o : List X} {x : X} {l : List X} (h : vld (o ++ x :: l)) (hn : nf o) : vld (psh o x ++ l) ∧ nf (psh o x) ∧ su (psh o x) = su o + x.n := by
  rcases List.eq_nil_or_concat o with rfl | ⟨o', y, rfl⟩
  · rw [psh_nil]; exact ⟨by simpa using h, by simp [nf], by simp [su]⟩
  · rw [List.concat_eq_append] at *
    rw [psh_snoc]
    have h0 := h
    rw [List.append_assoc] at h
    obtain ⟨v1, v2, v3⟩ := vld_append.1 h
    rw [List.singleton_append] at v2
    obtain ⟨w1, w2, w3⟩ := vld_cons.1 v2
    obtain ⟨u1, u2, u3⟩ := vld_cons.1 w2
    obtain ⟨n1, n2, n3⟩ := nf_append.1 hn
    have w4 := w3 x (by simp)
    split
    · rename_i ha
      unfold adj at ha
      refine ⟨?_, ?_, by simp only [su_append, su]; omega⟩
      · rw [List.append_assoc, List.singleton_append]
        refine vld_append.2 ⟨v1, vld_cons.2 ⟨?_, u2, fun z hz => ?_⟩, fun p hp q hq => ?_⟩
        · unfold okx at *; dsimp only; omega
        · have := u3 z hz; dsimp only; omega
        · rcases List.mem_cons.1 hq with rfl | hq
          · exact v3 p hp y (by simp)
          · exact v3 p hp q (by simp [hq])
      · refine nf_append.2 ⟨n1, by simp [nf], fun p hp q hq => ?_⟩
        simp only [List.mem_singleton] at hq
        subst hq
        have := n3 p hp y (by simp)
        unfold adj at *
        exact this
    · rename_i ha
      refine ⟨by simpa using h0, ?_, by simp only [su_append, su]; omega⟩
      refine nf_append.2 ⟨hn, by simp [nf], fun p hp q hq => ?_⟩
      simp only [List.mem_singleton] at hq
      subst hq
      rcases List.mem_append.1 hp with hp | hp
      · have g1 := v3 p hp y (by simp)
        unfold adj okx at *
        omega
      · simp only [List.mem_singleton] at hp
        subst hp
        exact ha

theorem foldl_vn {l : List X} : ∀ {o : List X}, vld (o ++ l) → nf o → vld (l.foldl psh o) ∧ nf (l.foldl psh o) ∧ su (l.foldl psh o) = su o + su l := by
  induction l with
  | nil => intro o h hn; exact ⟨by simpa using h, hn, by simp [su]⟩
  | cons x l ih =>
    intro o h hn
    obtain ⟨h1, h2, h3⟩ := psh_vn h hn
    obtain ⟨g1, g2, g3⟩ := ih h1 h2
    rw [List.foldl_cons]
    exact ⟨g1, g2, by rw [g3, h3]; simp only [su]; omega⟩

theorem jn_vn {l : List X} (h : vld l) : vld (jn l) ∧ nf (jn l) ∧ su (jn l) = su l := by
  have := foldl_vn (o := []) (by simpa using h) List.Pairwise.nil
  simpa [jn, su] using this

/-- A list with an extent between two parts. -/
def put (l : List X) (x : X) : List X := jn (hdL x.a l ++ x :: tlL (x.a + x.n) l)
/-- A list without a range. -/
def cut (l : List X) (t n : Int) : List X := jn (hdL t l ++ tlL (t + n) l)
/-- The part of a list in a range. -/
def mid (l : List X) (t n : Int) : List X := hdL (t + n) (tlL t l)

theorem put_vld {l : List X} {x : X} (h : vld l) (hx : okx x) : vld (hdL x.a l ++ x :: tlL (x.a + x.n) l) := by
  refine vld_append.2 ⟨vld_hdL h, vld_cons.2 ⟨hx, vld_tlL h, fun y hy => ?_⟩, fun p hp q hq => ?_⟩
  · obtain ⟨z, hz, g⟩ := tlL_mem hy h; omega
  · obtain ⟨z, hz, g⟩ := hdL_mem hp h
    rcases List.mem_cons.1 hq with rfl | hq
    · omega
    · obtain ⟨z', hz', g'⟩ := tlL_mem hq h
      unfold okx at hx
      omega

theorem cut_vld {l : List X} {t n : Int} (h : vld l) (hn : 0 ≤ n) : vld (hdL t l ++ tlL (t + n) l) := by
  refine vld_append.2 ⟨vld_hdL h, vld_tlL h, fun p hp q hq => ?_⟩
  obtain ⟨z, hz, g⟩ := hdL_mem hp h
  obtain ⟨z', hz', g'⟩ := tlL_mem hq h
  omega

theorem put_vn {l : List X} {x : X} (h : vld l) (hx : okx x) : vld (put l x) ∧ nf (put l x) := ⟨(jn_vn (put_vld h hx)).1, (jn_vn (put_vld h hx)).2.1⟩
theorem cut_vn {l : List X} {t n : Int} (h : vld l) (hn : 0 ≤ n) : vld (cut l t n) ∧ nf (cut l t n) := ⟨(jn_vn (cut_vld h hn)).1, (jn_vn (cut_vld h hn)).2.1⟩
theorem mid_vn {l : List X} {t n : Int} (h : vld l) (hn : nf l) : vld (mid l t n) ∧ nf (mid l t n) := ⟨vld_hdL (vld_tlL h), nf_hdL (vld_tlL h) (nf_tlL h hn)⟩

/-- Where the range is not empty, nothing is joined. -/
theorem cut_far {l : List X} {t n : Int} (h : vld l) (hl : nf l) (hn : 0 < n) : cut l t n = hdL t l ++ tlL (t + n) l := by
  refine jn_nf (nf_append.2 ⟨nf_hdL h hl, nf_tlL h hl, fun p hp q hq => ?_⟩)
  obtain ⟨z, hz, g⟩ := hdL_mem hp h
  obtain ⟨z', hz', g'⟩ := tlL_mem hq h
  unfold adj
  omega

/-- An empty range: the list itself. -/
theorem cut_none {l : List X} {t : Int} (h : vld l) (hl : nf l) : cut l t 0 = l := by
  unfold cut jn
  rw [Int.add_zero]
  suffices H : ∀ (l o : List X), vld l → nf (o ++ l) → (hdL t l ++ tlL t l).foldl psh o = o ++ l by
    have := H l [] h (by simpa using hl)
    simpa using this
  intro l
  induction l with
  | nil => intro o _ _; simp [hdL, tlL]
  | cons x l ih =>
    intro o hv hn
    obtain ⟨v1, v2, v3⟩ := vld_cons.1 hv
    have hn1 : nf ((o ++ [x]) ++ l) := by simpa using hn
    have hn2 := (nf_append.1 hn).2.2
    rw [hdL_cons, tlL_cons]
    by_cases c1 : t ≤ x.a
    · have e := hdL_behind (t := t) (l := l) (fun u hu => by have := v3 u hu; unfold okx at v1; omega)
      rw [e.1, e.2]
      simp only [hd, tl, if_pos c1, List.nil_append, List.singleton_append]
      rw [foldl_far hn]
    · by_cases c2 : x.a + x.n ≤ t
      · simp only [hd, tl, if_neg c1, if_pos c2, List.nil_append, List.cons_append, List.foldl_cons]
        rw [psh_far (fun y hy => hn2 y hy x (by simp)), ih _ v2 hn1]
        simp
      · have e := hdL_behind (t := t) (l := l) (fun u hu => by have := v3 u hu; omega)
        rw [e.1, e.2]
        simp only [hd, tl, if_neg c1, if_neg c2, List.append_nil, List.singleton_append, List.foldl_cons]
        have a1 : ∀ y ∈ o, ¬ adj y ⟨x.a, t - x.a, x.s⟩ := fun y hy => by
          have := hn2 y hy x (by simp)
          unfold adj at *
          exact this
        rw [psh_far a1, psh_snoc, if_pos (by unfold adj; dsimp only; omega)]
        have ex : (⟨x.a, t - x.a + (x.n - (t - x.a)), x.s⟩ : X) = x := X.ext rfl (by dsimp only; omega) rfl
        rw [ex, foldl_far hn1]
        simp

/-- What Put does by hand: the neighbours are joined where they follow. -/
theorem put_by_hand {l : List X} {x : X} (h : vld l) (hl : nf l) (hx : okx x) (a b : List X) (ha : hdL x.a l = a) (hb : tlL (x.a + x.n) l = b)
    (x1 x2 : X) (a1 b1 : List X)
    (e1 : (∃ y, a = a1 ++ [y] ∧ adj y x ∧ x1 = ⟨y.a, y.n + x.n, y.s⟩) ∨ ((∀ y a', a = a' ++ [y] → ¬ adj y x) ∧ a1 = a ∧ x1 = x))
    (e2 : (∃ y, b = y :: b1 ∧ adj x1 y ∧ x2 = ⟨x1.a, x1.n + y.n, x1.s⟩) ∨ ((∀ y b', b = y :: b' → ¬ adj x1 y) ∧ b1 = b ∧ x2 = x1)) :
    put l x = a1 ++ x2 :: b1 := by
  have na : nf a := ha ▸ nf_hdL h hl
  have nb : nf b := hb ▸ nf_tlL h hl
  have vv := put_vld h hx
  unfold put jn
  rw [ha, hb] at *
  obtain ⟨va, vb, _⟩ := vld_append.1 vv
  obtain ⟨_, vb, _⟩ := vld_cons.1 vb
  rw [List.foldl_append, foldl_far (o := []) (by simpa using na), List.nil_append, List.foldl_cons]
  have s1 : psh a x = a1 ++ [x1] := by
    rcases e1 with ⟨y, rfl, h1, rfl⟩ | ⟨h1, rfl, rfl⟩
    · rw [psh_snoc, if_pos h1]
    · rcases List.eq_nil_or_concat a1 with rfl | ⟨o', y, rfl⟩
      · rfl
      · rw [List.concat_eq_append] at *
        rw [psh_snoc, if_neg (h1 y o' rfl)]
  have vn1 := psh_vn (o := a) (x := x) (l := b) vv na
  rw [s1] at vn1 ⊢
  obtain ⟨q1, q2, _⟩ := vn1
  cases b with
  | nil =>
    rcases e2 with ⟨y, h1, _⟩ | ⟨_, rfl, rfl⟩
    · cases h1
    · rfl
  | cons z b' =>
    rw [List.foldl_cons, psh_snoc]
    have nz := nf_cons.1 nb
    have vz := vld_cons.1 vb
    rcases e2 with ⟨y, h1, h2, rfl⟩ | ⟨h1, rfl, rfl⟩
    · cases h1
      rw [if_pos h2]
      rw [foldl_far]
      · simp
      · refine nf_append.2 ⟨?_, nz.2, fun p hp q hq => ?_⟩
        · refine nf_append.2 ⟨(nf_append.1 q2).1, by simp [nf], fun p hp q hq => ?_⟩
          simp only [List.mem_singleton] at hq
          subst hq
          have := (nf_append.1 q2).2.2 p hp x1 (by simp)
          unfold adj at *
          exact this
        · rcases List.mem_append.1 hp with hp | hp
          · have g1 := (vld_append.1 q1).2.2 p (by simp [hp]) z (by simp)
            have g2 := vz.2.2 q hq
            have g3 := vz.1
            unfold adj okx at *
            omega
          · simp only [List.mem_singleton] at hp
            subst hp
            have := nz.1 q hq
            unfold adj at *
            dsimp only
            intro hc
            exact this ⟨by omega, by omega⟩
    · rw [if_neg (h1 z b' rfl), foldl_far]
      · simp
      · rw [List.append_assoc, List.singleton_append]
        refine nf_append.2 ⟨q2, nb, fun p hp q hq => ?_⟩
        have g0 := (vld_append.1 q1).2.2 p hp z (by simp)
        rcases List.mem_cons.1 hq with rfl | hq
        · rcases List.mem_append.1 hp with hp | hp
          · have q3 := (vld_append.1 (vld_append.1 q1).1).2.2 p hp x2 (by simp)
            have q4 := (vld_append.1 q1).2.2 x2 (by simp) q (by simp)
            have q5 := (vld_append.1 (vld_append.1 q1).1).2.1.1 x2 (by simp)
            unfold adj okx at *
            omega
          · simp only [List.mem_singleton] at hp
            subst hp
            exact h1 q b' rfl
        · have g2 := vz.2.2 q hq
          have g3 := vz.1
          unfold adj okx at *
          omega

end Go.Proofs.Ytdfdnimledcfbaa
