/- The reference: may a node be: the walks. -/
import Derived.Test.YtmklieoikbgmpaaGreatDoorJ8
namespace Go.Proofs.YtmklieoikbgmpaaGreatDoor
open Go.RowKit Go.Shelf Tx
def bareR (x : Nd) (k : Nat) : Bool :=
  if x.op = 27 then x.b == -1 && x.c == -1
  else if x.op = 28 then x.c == -1
  else (decide (0 < k) || x.a == -1) && (decide (1 < k) || x.b == -1) && (decide (2 < k) || x.c == -1)
theorem bareR_is (x : Nd) : bareR x (kids x).length = bareB x := by
  obtain ⟨op, a, b, c, n, s⟩ := x
  unfold bareR bareB
  simp only []
  rw [Bool.eq_iff_iff, decide_eq_true_eq]
  by_cases h27 : op = 27
  · subst h27
    by_cases ha : a = -1
    · simp [kids, ha, Tx.aim, leaf]
    · simp [kids, ha, Tx.aim, leaf]
  by_cases h28 : op = 28
  · subst h28
    by_cases hb : b = -1
    · simp [kids, hb, Tx.aim, leaf]
    · simp [kids, hb, Tx.aim, leaf]
  rw [if_neg h27, if_neg h28]
  by_cases h26 : op = 26
  · subst h26; simp [kids, Tx.aim, leaf]
  by_cases h6 : 6 ≤ op ∧ op ≤ 20
  · have hk : kids ⟨op, a, b, c, n, s⟩ = [a, b] := by unfold kids; rw [if_neg h26, if_neg h28, if_neg h27, if_pos h6]
    simp [hk, Tx.aim, leaf, h28]
  by_cases h4 : op = 4 ∨ op = 5 ∨ (21 ≤ op ∧ op ≤ 25)
  · rw [kids_one h4]; simp [Tx.aim, leaf]
  · have hk : kids ⟨op, a, b, c, n, s⟩ = [] := by unfold kids; rw [if_neg h26, if_neg h28, if_neg h27, if_neg h6, if_neg h4]
    simp [hk, Tx.aim, leaf, and_assoc]
set_option maxRecDepth 100000 in
set_option maxHeartbeats 2000000 in
theorem bare_any (x : Nd) (w : World) : Calls Tryz.prog 25 #[ndV x] w fun e w' => e = .returned (.bool (bareB x)) ∧ Below w.heap.size w w' := by
  rw [← bareR_is]
  obtain ⟨k, hk⟩ : ∃ k, k = (kids x).length := ⟨_, rfl⟩
  have hk3 : k ≤ 3 := by have := kids_len x; omega
  have HK : Hid (k = (kids x).length) := hk
  rw [← hk]
  clear hk
  obtain ⟨op, a, b, c, n, s⟩ := x
  have B0 : Below w.heap.size w (w.alloc (.cells #[.int .i64 op, .int .i64 a, .int .i64 b, .int .i64 c, .int .i64 n, .string s] 60)) := (Below.refl _ _).alloc (Nat.le_refl _) _
  have k0 := Blk.new w #[.int .i64 op, .int .i64 a, .int .i64 b, .int .i64 c, .int .i64 n, .string s] 60
  have HR := rKids_any ⟨op, a, b, c, n, s⟩
  unfold ndV at HR ⊢
  simp only [] at HR ⊢
  go_enter Tryz.func25, Tryz.ntmps25
  go_wp2_with fail
  refine (HR _).mono ?_
  rintro e w1 ⟨v, rfl, hr, hb⟩
  obtain ⟨t0, t1, t2, t3, t4, t5⟩ := six_cells (k0.below hb)
  have HB := Lib.hid (below_next B0 hb)
  clear HR k0 B0 hb
  obtain ⟨aa, cc, rfl, _⟩ := hr.form
  rw [← HK.out]
  clear hr HK
  by_cases h27 : op = 27
  · have e27 : (op == 27) = true := by simp [h27]
    have HF : Hid (bareR ⟨op, a, b, c, n, s⟩ k = ((b == -1) && (c == -1))) := by show _ = _; simp [bareR, h27]
    clear h27
    cases hb1 : (b == -1) <;> cases hc1 : (c == -1)
    all_goals
      go_wp2_with fail
      go_ret
      exact ⟨ret_bool' (by rw [HF.out, hb1, hc1]; rfl), HB.out⟩
  have e27 : (op == 27) = false := by simp [h27]
  by_cases h28 : op = 28
  · have e28 : (op == 28) = true := by simp [h28]
    have HF : Hid (bareR ⟨op, a, b, c, n, s⟩ k = (c == -1)) := by show _ = _; simp [bareR, h28]
    clear h27 h28
    go_wp2_with fail
    go_ret
    exact ⟨ret_bool' HF.out.symm, HB.out⟩
  have e28 : (op == 28) = false := by simp [h28]
  have HF : Hid (bareR ⟨op, a, b, c, n, s⟩ k = ((decide (0 < k) || a == -1) && (decide (1 < k) || b == -1) && (decide (2 < k) || c == -1))) := by show _ = _; simp [bareR, h27, h28]
  clear h27 h28
  have hor : k = 0 ∨ k = 1 ∨ k = 2 ∨ k = 3 := by omega
  clear hk3
  rcases hor with rfl | rfl | rfl | rfl
  · cases ha1 : (a == -1)
    · go_wp2_with fail
      go_ret
      exact ⟨ret_bool' (by rw [HF.out, ha1]; rfl), HB.out⟩
    cases hb1 : (b == -1)
    · go_wp2_with fail
      go_ret
      exact ⟨ret_bool' (by rw [HF.out, ha1, hb1]; rfl), HB.out⟩
    cases hc1 : (c == -1)
    all_goals
      go_wp2_with fail
      go_ret
      exact ⟨ret_bool' (by rw [HF.out, ha1, hb1, hc1]; rfl), HB.out⟩
  · cases hb1 : (b == -1)
    · go_wp2_with fail
      go_ret
      exact ⟨ret_bool' (by rw [HF.out, hb1]; rfl), HB.out⟩
    cases hc1 : (c == -1)
    all_goals
      go_wp2_with fail
      go_ret
      exact ⟨ret_bool' (by rw [HF.out, hb1, hc1]; rfl), HB.out⟩
  · cases hc1 : (c == -1)
    all_goals
      go_wp2_with fail
      go_ret
      exact ⟨ret_bool' (by rw [HF.out, hc1]; rfl), HB.out⟩
  · go_wp2_with fail
    go_ret
    exact ⟨ret_bool' (by rw [HF.out]; rfl), HB.out⟩
end Go.Proofs.YtmklieoikbgmpaaGreatDoor
