/- The operands of a node: the walk. -/
import Derived.Test.YtmklieoikbgmpaaDoorJ2
namespace Go.Proofs.YtmklieoikbgmpaaDoor
open Go.RowKit Go.Shelf Tx
set_option maxRecDepth 100000 in
set_option maxHeartbeats 1000000 in
theorem Kids_any (x : Nd) (w : World) : Calls Tryd.prog 47 #[ndV x] w (KidsPost x w) := by
  obtain ⟨op, a, b, c, n, s⟩ := x
  unfold ndV
  simp only []
  have hB : Below w.heap.size w (w.alloc (.cells #[.int .i64 op, .int .i64 a, .int .i64 b, .int .i64 c, .int .i64 n, .string s] 33)) := (Below.refl _ _).alloc (Nat.le_refl _) _
  have hsz : (w.alloc (.cells #[.int .i64 op, .int .i64 a, .int .i64 b, .int .i64 c, .int .i64 n, .string s] 33)).heap.size = w.heap.size + 1 := by simp
  have row : ∀ l : List Value, Blk ((w.alloc (.cells #[.int .i64 op, .int .i64 a, .int .i64 b, .int .i64 c, .int .i64 n, .string s] 33)).alloc (.cells l.toArray 3)) (w.heap.size + 1) l.toArray 3 ∧ Below w.heap.size w ((w.alloc (.cells #[.int .i64 op, .int .i64 a, .int .i64 b, .int .i64 c, .int .i64 n, .string s] 33)).alloc (.cells l.toArray 3)) := fun l => by
    refine ⟨?_, hB.alloc (by rw [hsz]; omega) _⟩
    have := Blk.new (w.alloc (.cells #[.int .i64 op, .int .i64 a, .int .i64 b, .int .i64 c, .int .i64 n, .string s] 33)) l.toArray 3
    rwa [hsz] at this
  have R3 : Hid _ := row [.int .i64 a, .int .i64 b, .int .i64 c]
  have R2 : Hid _ := row [.int .i64 b, .int .i64 a]
  have R2' : Hid _ := row [.int .i64 a, .int .i64 b]
  have R1 : Hid _ := row [.int .i64 a]
  have HB : Hid _ := hB
  clear row hB hsz
  by_cases h26 : op = 26
  · have e1 : (op == 26) = true := by simp [h26]
    have HK : Hid (kids ⟨op, a, b, c, n, s⟩ = [a, b, c]) := by show _ = _; unfold kids; rw [if_pos h26]
    clear h26
    go_enter Tryd.func47, Tryd.ntmps47
    go_wp2_with fail
    go_ret
    exact kidsPost_row HK.out rfl (Nat.le_succ _) R3.out.1 R3.out.2
  have e26 : (op == 26) = false := by simp [h26]
  by_cases h28 : op = 28
  · have e28 : (op == 28) = true := by simp [h28]
    by_cases hb : b = -1
    · have eb : (b != -1) = false := by simp [hb]
      have HK : Hid (kids ⟨op, a, b, c, n, s⟩ = [a]) := by show _ = _; unfold kids; rw [if_neg h26, if_pos h28, if_pos hb]
      have f1 : (op == 27) = false := by rw [beq_eq_false_iff_ne]; omega
      have f2 : (6 : Int) ≤ op := by omega
      have f3 : ¬ op ≤ 20 := by omega
      have f4 : (op == 4) = false := by rw [beq_eq_false_iff_ne]; omega
      have f5 : (op == 5) = false := by rw [beq_eq_false_iff_ne]; omega
      have f6 : (21 : Int) ≤ op := by omega
      have f7 : op ≤ 28 := by omega
      clear h26 h28 hb
      go_enter Tryd.func47, Tryd.ntmps47
      go_wp2_with fail
      go_ret
      exact kidsPost_row HK.out rfl (Nat.le_succ _) R1.out.1 R1.out.2
    · have eb : (b != -1) = true := by simp [hb]
      have HK : Hid (kids ⟨op, a, b, c, n, s⟩ = [b, a]) := by show _ = _; unfold kids; rw [if_neg h26, if_pos h28, if_neg hb]
      clear h26 h28 hb
      go_enter Tryd.func47, Tryd.ntmps47
      go_wp2_with fail
      go_ret
      exact kidsPost_row HK.out rfl (Nat.le_succ _) R2.out.1 R2.out.2
  have e28 : (op == 28) = false := by simp [h28]
  by_cases h27 : op = 27
  · have e27 : (op == 27) = true := by simp [h27]
    by_cases ha : a = -1
    · have ea : (a == -1) = true := by simp [ha]
      have HK : Hid (kids ⟨op, a, b, c, n, s⟩ = []) := by show _ = _; unfold kids; rw [if_neg h26, if_neg h28, if_pos h27, if_pos ha]
      clear h26 h28 h27 ha
      go_enter Tryd.func47, Tryd.ntmps47
      go_wp2_with fail
      go_ret
      exact kidsPost_nil HK.out HB.out
    · have ea : (a == -1) = false := by simp [ha]
      have HK : Hid (kids ⟨op, a, b, c, n, s⟩ = [a]) := by show _ = _; unfold kids; rw [if_neg h26, if_neg h28, if_pos h27, if_neg ha]
      have f2 : (6 : Int) ≤ op := by omega
      have f3 : ¬ op ≤ 20 := by omega
      have f4 : (op == 4) = false := by rw [beq_eq_false_iff_ne]; omega
      have f5 : (op == 5) = false := by rw [beq_eq_false_iff_ne]; omega
      have f6 : (21 : Int) ≤ op := by omega
      have f7 : op ≤ 28 := by omega
      clear h26 h28 h27 ha
      go_enter Tryd.func47, Tryd.ntmps47
      go_wp2_with fail
      go_ret
      exact kidsPost_row HK.out rfl (Nat.le_succ _) R1.out.1 R1.out.2
  have e27 : (op == 27) = false := by simp [h27]
  by_cases h6 : 6 ≤ op ∧ op ≤ 20
  · have HK : Hid (kids ⟨op, a, b, c, n, s⟩ = [a, b]) := by show _ = _; unfold kids; rw [if_neg h26, if_neg h28, if_neg h27, if_pos h6]
    obtain ⟨f1, f2⟩ := h6
    clear h26 h28 h27
    go_enter Tryd.func47, Tryd.ntmps47
    go_wp2_with fail
    go_ret
    exact kidsPost_row HK.out rfl (Nat.le_succ _) R2'.out.1 R2'.out.2
  by_cases h4 : op = 4 ∨ op = 5 ∨ (21 ≤ op ∧ op ≤ 25)
  · have HK : Hid (kids ⟨op, a, b, c, n, s⟩ = [a]) := by show _ = _; unfold kids; rw [if_neg h26, if_neg h28, if_neg h27, if_neg h6, if_pos h4]
    have hor : ((op == 4) = true ∧ ¬ (6 : Int) ≤ op) ∨ ((op == 4) = false ∧ (op == 5) = true ∧ ¬ (6 : Int) ≤ op) ∨ ((op == 4) = false ∧ (op == 5) = false ∧ (6 : Int) ≤ op ∧ ¬ op ≤ 20 ∧ (21 : Int) ≤ op ∧ op ≤ 28) := by
      rcases h4 with h | h | ⟨h, h'⟩
      · exact Or.inl ⟨by simp [h], by omega⟩
      · exact Or.inr (Or.inl ⟨by simp [h], by simp [h], by omega⟩)
      · exact Or.inr (Or.inr ⟨by rw [beq_eq_false_iff_ne]; omega, by rw [beq_eq_false_iff_ne]; omega, by omega, by omega, by omega, by omega⟩)
    clear h26 h28 h27 h6 h4
    rcases hor with ⟨g1, g2⟩ | ⟨g1, g2, g3⟩ | ⟨g1, g2, g3, g4, g5, g6⟩
    all_goals
      go_enter Tryd.func47, Tryd.ntmps47
      go_wp2_with fail
      go_ret
      exact kidsPost_row HK.out rfl (Nat.le_succ _) R1.out.1 R1.out.2
  · have HK : Hid (kids ⟨op, a, b, c, n, s⟩ = []) := by show _ = _; unfold kids; rw [if_neg h26, if_neg h28, if_neg h27, if_neg h6, if_neg h4]
    have g1 : (op == 4) = false := by rw [beq_eq_false_iff_ne]; omega
    have g2 : (op == 5) = false := by rw [beq_eq_false_iff_ne]; omega
    have hor : ¬ (6 : Int) ≤ op ∧ ¬ (21 : Int) ≤ op ∨ ((6 : Int) ≤ op ∧ ¬ op ≤ 20 ∧ (21 : Int) ≤ op ∧ ¬ op ≤ 28) := by omega
    clear h26 h28 h27 h6 h4
    rcases hor with ⟨g3, g4⟩ | ⟨g3, g4, g5, g6⟩
    all_goals
      go_enter Tryd.func47, Tryd.ntmps47
      go_wp2_with fail
      go_ret
      exact kidsPost_nil HK.out HB.out
end Go.Proofs.YtmklieoikbgmpaaDoor
