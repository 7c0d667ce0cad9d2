/- The reference's operands of a node; a node with other operands; a leaf: the walks. -/
import Derived.Test.YtmklieoikbgmpaaGreatDoorJ7
namespace Go.Proofs.YtmklieoikbgmpaaGreatDoor
open Go.RowKit Go.Shelf Tx
theorem kids_one {op a b c n : Int} {s : ByteArray} (h : op = 4 ∨ op = 5 ∨ (21 ≤ op ∧ op ≤ 25)) : kids ⟨op, a, b, c, n, s⟩ = [a] := by
  have n1 : ¬ op = 26 := by omega
  have n2 : ¬ op = 28 := by omega
  have n3 : ¬ op = 27 := by omega
  have n4 : ¬ (6 ≤ op ∧ op ≤ 20) := by omega
  unfold kids
  rw [if_neg n1, if_neg n2, if_neg n3, if_neg n4, if_pos h]
set_option maxRecDepth 100000 in
set_option maxHeartbeats 2000000 in
theorem rKids_any (x : Nd) (w : World) : Calls Tryz.prog 27 #[ndV x] w (KidsPost x w) := by
  obtain ⟨op, a, b, c, n, s⟩ := x
  unfold ndV
  simp only []
  have hB : Below w.heap.size w (w.alloc (.cells #[.int .i64 op, .int .i64 a, .int .i64 b, .int .i64 c, .int .i64 n, .string s] 60)) := (Below.refl _ _).alloc (Nat.le_refl _) _
  have hsz : (w.alloc (.cells #[.int .i64 op, .int .i64 a, .int .i64 b, .int .i64 c, .int .i64 n, .string s] 60)).heap.size = w.heap.size + 1 := by simp
  have row : ∀ l : List Value, Blk ((w.alloc (.cells #[.int .i64 op, .int .i64 a, .int .i64 b, .int .i64 c, .int .i64 n, .string s] 60)).alloc (.cells l.toArray 3)) (w.heap.size + 1) l.toArray 3 ∧ Below w.heap.size w ((w.alloc (.cells #[.int .i64 op, .int .i64 a, .int .i64 b, .int .i64 c, .int .i64 n, .string s] 60)).alloc (.cells l.toArray 3)) := fun l => by
    refine ⟨?_, hB.alloc (by rw [hsz]; omega) _⟩
    have := Blk.new (w.alloc (.cells #[.int .i64 op, .int .i64 a, .int .i64 b, .int .i64 c, .int .i64 n, .string s] 60)) l.toArray 3
    rwa [hsz] at this
  have R3 : Hid _ := row [.int .i64 a, .int .i64 b, .int .i64 c]
  have R2 : Hid _ := row [.int .i64 b, .int .i64 a]
  have R2' : Hid _ := row [.int .i64 a, .int .i64 b]
  have R1 : Hid _ := row [.int .i64 a]
  have HB : Hid _ := hB
  clear row hB hsz
  by_cases h4 : op = 4 ∨ op = 5 ∨ (21 ≤ op ∧ op ≤ 25)
  · have HK : Hid (kids ⟨op, a, b, c, n, s⟩ = [a]) := by show _ = _; exact kids_one h4
    have hor : op = 4 ∨ op = 5 ∨ op = 21 ∨ op = 22 ∨ op = 23 ∨ op = 24 ∨ op = 25 := by omega
    clear h4
    rcases hor with rfl | rfl | rfl | rfl | rfl | rfl | rfl
    all_goals
      go_enter Tryz.func27, Tryz.ntmps27
      go_wp2_with fail
      go_ret
      exact kidsPost_row HK.out rfl (Nat.le_succ _) R1.out.1 R1.out.2
  have f1 : (op == 4) = false := by rw [beq_eq_false_iff_ne]; omega
  have f2 : (op == 5) = false := by rw [beq_eq_false_iff_ne]; omega
  have f3 : (op == 21) = false := by rw [beq_eq_false_iff_ne]; omega
  have f4 : (op == 22) = false := by rw [beq_eq_false_iff_ne]; omega
  have f5 : (op == 23) = false := by rw [beq_eq_false_iff_ne]; omega
  have f6 : (op == 24) = false := by rw [beq_eq_false_iff_ne]; omega
  have f7 : (op == 25) = false := by rw [beq_eq_false_iff_ne]; omega
  by_cases h26 : op = 26
  · have e1 : (op == 26) = true := by simp [h26]
    have HK : Hid (kids ⟨op, a, b, c, n, s⟩ = [a, b, c]) := by show _ = _; unfold kids; rw [if_pos h26]
    clear h26 h4
    go_enter Tryz.func27, Tryz.ntmps27
    go_wp2_with fail
    go_ret
    exact kidsPost_row HK.out rfl (Nat.le_succ _) R3.out.1 R3.out.2
  have e26 : (op == 26) = false := by simp [h26]
  by_cases h27 : op = 27
  · have e27 : (op == 27) = true := by simp [h27]
    have n28 : ¬ op = 28 := by omega
    by_cases ha : a = -1
    · have ea : (a != -1) = false := by simp [ha]
      have HK : Hid (kids ⟨op, a, b, c, n, s⟩ = []) := by show _ = _; unfold kids; rw [if_neg h26, if_neg n28, if_pos h27, if_pos ha]
      clear h26 h4 h27 ha n28
      go_enter Tryz.func27, Tryz.ntmps27
      go_wp2_with fail
      go_ret
      exact kidsPost_nil HK.out HB.out
    · have ea : (a != -1) = true := by simp [ha]
      have HK : Hid (kids ⟨op, a, b, c, n, s⟩ = [a]) := by show _ = _; unfold kids; rw [if_neg h26, if_neg n28, if_pos h27, if_neg ha]
      clear h26 h4 h27 ha n28
      go_enter Tryz.func27, Tryz.ntmps27
      go_wp2_with fail
      go_ret
      exact kidsPost_row HK.out rfl (Nat.le_succ _) R1.out.1 R1.out.2
  have e27 : (op == 27) = false := by simp [h27]
  by_cases h28 : op = 28
  · have e28 : (op == 28) = true := by simp [h28]
    by_cases hb : b = -1
    · have eb : (b != -1) = false := by simp [hb]
      have HK : Hid (kids ⟨op, a, b, c, n, s⟩ = [a]) := by show _ = _; unfold kids; rw [if_neg h26, if_pos h28, if_pos hb]
      clear h26 h4 h27 h28 hb
      go_enter Tryz.func27, Tryz.ntmps27
      go_wp2_with fail
      go_ret
      exact kidsPost_row HK.out rfl (Nat.le_succ _) R1.out.1 R1.out.2
    · have eb : (b != -1) = true := by simp [hb]
      have HK : Hid (kids ⟨op, a, b, c, n, s⟩ = [b, a]) := by show _ = _; unfold kids; rw [if_neg h26, if_pos h28, if_neg hb]
      clear h26 h4 h27 h28 hb
      go_enter Tryz.func27, Tryz.ntmps27
      go_wp2_with fail
      go_ret
      exact kidsPost_row HK.out rfl (Nat.le_succ _) R2.out.1 R2.out.2
  have e28 : (op == 28) = false := by simp [h28]
  by_cases h6 : 6 ≤ op ∧ op ≤ 20
  · have HK : Hid (kids ⟨op, a, b, c, n, s⟩ = [a, b]) := by show _ = _; unfold kids; rw [if_neg h26, if_neg h28, if_neg h27, if_pos h6]
    obtain ⟨g1, g2⟩ := h6
    clear h26 h28 h27 h4
    go_enter Tryz.func27, Tryz.ntmps27
    go_wp2_with fail
    go_ret
    exact kidsPost_row HK.out rfl (Nat.le_succ _) R2'.out.1 R2'.out.2
  · have HK : Hid (kids ⟨op, a, b, c, n, s⟩ = []) := by show _ = _; unfold kids; rw [if_neg h26, if_neg h28, if_neg h27, if_neg h6, if_neg h4]
    have hor : ¬ (6 : Int) ≤ op ∨ ((6 : Int) ≤ op ∧ ¬ op ≤ 20) := by omega
    clear h26 h28 h27 h6 h4
    rcases hor with g1 | ⟨g1, g2⟩
    all_goals
      go_enter Tryz.func27, Tryz.ntmps27
      go_wp2_with fail
      go_ret
      exact kidsPost_nil HK.out HB.out
end Go.Proofs.YtmklieoikbgmpaaGreatDoor
