/- What balanced returns: true. Conditions: the tree is balanced and small. -/
import Derived.Test.YtdfdnimledcfbaaCut
namespace Go.Proofs.Ytdfdnimledcfbaa
open Go.RowKit
open Go.Deep (BT)

theorem avl_pow (T : BT X) : avl T → 2 ^ dp T ≤ ((li T).length + 1) * ((li T).length + 1) := by
  induction T with
  | nil => intro _; simp [dp, li]
  | node _ _ x l r ihl ihr =>
    rintro ⟨a1, a2, a3, a4⟩
    have h1 := ihl a1
    have h2 := ihr a2
    simp only [dp, li, List.length_append, List.length_cons]
    generalize (li l).length = n at *
    generalize (li r).length = m at *
    generalize dp l = d at *
    generalize dp r = e at *
    have key : ∀ (c k : Nat), 2 ^ k ≤ (c + 1) * (c + 1) → c ≤ n → c ≤ m → 1 + max d e ≤ k + 2 → 2 ^ (1 + max d e) ≤ (n + (m + 1) + 1) * (n + (m + 1) + 1) := by
      intro c k hk hn hm hd
      have e1 : 2 ^ (1 + max d e) ≤ 2 ^ (k + 2) := Nat.pow_le_pow_right (by omega) hd
      have e2 : 2 ^ (k + 2) = 4 * 2 ^ k := by rw [Nat.pow_add]; omega
      have e3 : (2 * (c + 1)) * (2 * (c + 1)) ≤ (n + (m + 1) + 1) * (n + (m + 1) + 1) := Nat.mul_le_mul (by omega) (by omega)
      have e4 : (2 * (c + 1)) * (2 * (c + 1)) = 4 * ((c + 1) * (c + 1)) := by
        rw [Nat.mul_mul_mul_comm]
      omega
    rcases Nat.le_total n m with h | h
    · exact key n d h1 (Nat.le_refl _) h (by omega)
    · exact key m e h2 h (Nat.le_refl _) (by omega)

theorem avl_depth {T : BT X} (h : avl T) (hl : (li T).length ≤ 65536) : dp T < 60 := by
  have h1 := avl_pow T h
  have h2 : ((li T).length + 1) * ((li T).length + 1) ≤ 65537 * 65537 := Nat.mul_le_mul (by omega) (by omega)
  rcases Nat.lt_or_ge (dp T) 60 with h3 | h3
  · exact h3
  · have h4 : 2 ^ 60 ≤ 2 ^ dp T := Nat.pow_le_pow_right (by omega) h3
    have h5 : (2 : Nat) ^ 60 = 1152921504606846976 := by decide
    omega

theorem dp_len (T : BT X) : dp T = 0 ↔ (li T).length = 0 := by
  cases T with
  | nil => simp [dp, li]
  | node _ _ x l r => simp [dp, li]

theorem shl_fits {d n : Nat} (hl : n ≤ 65536) (h2 : 2 ^ d ≤ (n + 1) * (n + 1)) : decide (wrap64 ((2 : Int) ^ d) ≤ wrap64 (((n : Int) + 1) * ((n : Int) + 1))) = true := by
  have e1 : ((2 : Int) ^ d) = ((2 ^ d : Nat) : Int) := by simp
  have e2 : (((n : Int) + 1) * ((n : Int) + 1)) = (((n + 1) * (n + 1) : Nat) : Int) := by simp
  have e3 : (n + 1) * (n + 1) ≤ 65537 * 65537 := Nat.mul_le_mul (by omega) (by omega)
  rw [e1, e2]
  generalize (n + 1) * (n + 1) = m at *
  generalize 2 ^ d = k at *
  rw [IntWalk.wrap64_in _ ⟨by omega, by omega⟩, IntWalk.wrap64_in _ ⟨by omega, by omega⟩]
  simp
  omega

set_option maxHeartbeats 1000000 in
set_option maxRecDepth 100000 in
theorem balanced_any (p : Option Addr) (T : BT X) (w : World) (hT : At w p T) (av : avl T) (hl : (li T).length ≤ 65536) : Calls Try.prog 15 #[.agg #[.pointer p]] w fun e w' => e = .returned (.bool true) ∧ Below w.heap.size w w' := by
  have h1 := avl_depth av hl
  have h2 := avl_pow T av
  have h3 := dp_len T
  obtain ⟨W, hW, bW, k0⟩ : ∃ W, W = w.alloc (.cells #[.pointer p] 26) ∧ Below w.heap.size w W ∧ Blk W w.heap.size #[.pointer p] 26 := ⟨_, rfl, (Below.refl _ w).alloc (Nat.le_refl _) _, Blk.new _ _ _⟩
  have DP := Lib.hid (fun u : Gr W => depth_any p T u.w ((hT.below bW).below u.b))
  have LN := Lib.hid (fun u : Gr W => len_any p T u.w ((hT.below bW).below u.b))
  have BW := Lib.hid (fun u : Gr W => (bW.trans (u.b.mono bW.size) : Below w.heap.size w u.w))
  have y0 : ∀ u : Gr W, u.w.cell? ⟨w.heap.size, 0, none⟩ = some (.pointer p) := fun u => ((k0.keep u.b).cell 0)
  generalize (li T).length = n at *
  generalize dp T = d at *
  have H2 := Lib.hid h2; clear h2
  have H3 := Lib.hid h3; clear h3
  clear hT
  go_enter Try.func15, Try.ntmps15
  go_wp2_with fail
  rw [← hW]
  clear hW
  refine region_grow (by kernel_rfl) (by kernel_rfl) ?_
  repeat (first | go_big_quiet_skip | ((with_reducible refine wpQuiet_step (fun K hK => ?_)); go_simp; first | (refine hK _ ?_; clear hK K) | (apply Exists.intro; refine ⟨fun _ => ?_, hK _ ?_⟩; (first | (go_at_call 32; with_reducible exact grow_of (DP.out _)) | (go_at_call 16; with_reducible exact grow_of (LN.out _))); clear hK K)))
  with_reducible refine wpQuiet_nil ?_
  intro u
  have bu := BW.out u
  clear y0
  have e1 : (((n : Int) == 0) == ((d : Int) == 0)) = true := by
    have := H3.out
    rw [beq_iff_eq, Bool.eq_iff_iff]
    simp only [beq_iff_eq]
    omega
  have FIN : Hid (decide (wrap64 (2 ^ d) ≤ wrap64 (((n : Int) + 1) * ((n : Int) + 1))) = true) := shl_fits hl H2.out
  go_wp2_with fail
  go_ret
  exact ⟨ret_bool FIN.out, bu⟩

end Go.Proofs.Ytdfdnimledcfbaa
