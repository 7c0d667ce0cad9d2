/- The law BddStrange: its walk. -/
import Derived.Test.YtehknmcoccikhaaLa
namespace Go.Proofs.Ytehknmcoccikhaa
open Go.RowKit

set_option maxHeartbeats 400000 in
theorem Value_low (w : World) (s : St) (h : StoreAt w s) (f : Nat) (hf : f ≤ 1) (a : Option Addr) (n c : Nat) (hlen : n = s.vars) :
    Calls Try.prog 14 #[.pointer (some ⟨s.sb, 0, none⟩), .int .i64 f, .slice a n c] w fun e w' => e = .returned (.tuple #[.bool (decide (f = 1)), .int .i64 0]) ∧ Below w.heap.size w w' := by
  have hok : okIn s.ns.length [(f : Int)] = true := okIn_nat (l := [f]) (by have := h.wf.two; simp; omega)
  have hB : Below w.heap.size w (w.alloc (.cells #[.int .i64 f] 3)) := (Below.refl _ _).alloc (Nat.le_refl _) _
  have hne : ((n : Int) != (s.vars : Int)) = false := by simp; omega
  have HN : Hid (n = s.vars) := hlen
  clear hlen
  go_enter Try.func14, Try.ntmps14
  go_wp2_with fail
  refine (are_any _ s (h.below hB) _ [_] (SlInts.new1 w _)).mono ?_
  rintro e w1 ⟨rfl, hw1⟩
  rw [hok]
  have hS1 : StoreAt w1 s := by rw [hw1]; exact h.below hB
  have hB1 : Below w.heap.size w w1 := by rw [hw1]; exact hB
  have c0 := hS1.c0
  clear hw1 hB hok
  go_wp2_with fail
  clear hne
  go_loop [1] (fun x => x = .int .i64 f) (fun _ => 0)
  case atStart => rfl
  case round =>
    subst hrel
    go_wp2_with fail
    go_ret2
    have e : ((f : Int) == 1) = decide (f = 1) := by rw [Bool.eq_iff_iff]; simp; omega
    exact ⟨by rw [← e]; rfl, hB1⟩

/-- A store that is none, or one of which n is no node. -/
structure Bad (w0 w : World) (pa : Option Addr) (n : Int) : Prop where
  below : Below w0.heap.size w0 w
  kind : pa = none ∨ ∃ s : St, pa = some ⟨s.sb, 0, none⟩ ∧ StoreAt w s ∧ (n < 0 ∨ (s.ns.length : Int) ≤ n)

theorem Bad.pure {w0 w w' : World} {pa : Option Addr} {n : Int} (h : Bad w0 w pa n) (hb : Below w.heap.size w w') : Bad w0 w' pa n :=
  ⟨h.below.trans (hb.mono h.below.size), h.kind.imp id fun ⟨s, h1, h2, h3⟩ => ⟨s, h1, h2.below hb, h3⟩⟩

theorem okIn_bad {k : Nat} {n : Int} {l r : List Int} (h : n < 0 ∨ (k : Int) ≤ n) : okIn k (l ++ n :: r) = false := by
  unfold okIn
  rw [List.all_append, List.all_cons]
  have : decide (0 ≤ n ∧ n < (k : Int)) = false := by simp; omega
  rw [this]; simp

section
variable {w0 w : World} {pa : Option Addr} {n : Int} (B : Bad w0 w pa n)
include B
theorem ite_bad : Calls Try.prog 16 #[.pointer pa, .int .i64 n, .int .i64 0, .int .i64 1] w fun e w' => e = .returned (.tuple #[.int .i64 0, .int .i64 1]) ∧ Bad w0 w' pa n := by
  rcases B.kind with rfl | ⟨s, rfl, hS, hn⟩
  · exact (Ite_nil w n 0 1).mono fun e w' h => ⟨h.1, B.pure h.2⟩
  · exact (Ite_bad w s hS n 0 1 (okIn_bad (l := []) hn)).mono fun e w' h => ⟨h.1, B.pure h.2⟩
theorem not_bad : Calls Try.prog 17 #[.pointer pa, .int .i64 n] w fun e w' => e = .returned (.tuple #[.int .i64 0, .int .i64 1]) ∧ Bad w0 w' pa n := by
  rcases B.kind with rfl | ⟨s, rfl, hS, hn⟩
  · exact (Not_nil w n).mono fun e w' h => ⟨h.1, B.pure h.2⟩
  · exact (Not_bad w s hS n hn).mono fun e w' h => ⟨h.1, B.pure h.2⟩
theorem and_bad : Calls Try.prog 18 #[.pointer pa, .slice (some ⟨w.heap.size, 0, none⟩) 2 2] (w.alloc (.cells #[.int .i64 1, .int .i64 n] 3)) fun e w' => e = .returned (.tuple #[.int .i64 0, .int .i64 1]) ∧ Bad w0 w' pa n := by
  have B1 := B.pure ((Below.refl w.heap.size w).alloc (Nat.le_refl _) (.cells #[.int .i64 1, .int .i64 n] 3))
  rcases B1.kind with rfl | ⟨s, rfl, hS, hn⟩
  · exact (And_nil _ _ 1 [n] (SlInts.new2 w 1 n)).mono fun e w' h => ⟨h.1, by rw [h.2]; exact B1⟩
  · exact (And_bad _ s hS _ [1, n] (SlInts.new2 w 1 n) (okIn_bad (l := [1]) (r := []) hn)).mono fun e w' h => ⟨h.1, by rw [h.2]; exact B1⟩
theorem or_bad : Calls Try.prog 19 #[.pointer pa, .slice (some ⟨w.heap.size, 0, none⟩) 1 1] (w.alloc (.cells #[.int .i64 n] 3)) fun e w' => e = .returned (.tuple #[.int .i64 0, .int .i64 1]) ∧ Bad w0 w' pa n := by
  have B1 := B.pure ((Below.refl w.heap.size w).alloc (Nat.le_refl _) (.cells #[.int .i64 n] 3))
  rcases B1.kind with rfl | ⟨s, rfl, hS, hn⟩
  · exact (Or_nil _ _ n [] (SlInts.new1 w n)).mono fun e w' h => ⟨h.1, by rw [h.2]; exact B1⟩
  · exact (Or_bad _ s hS _ [n] (SlInts.new1 w n) (okIn_bad (l := []) (r := []) hn)).mono fun e w' h => ⟨h.1, by rw [h.2]; exact B1⟩
theorem restrict_bad : Calls Try.prog 20 #[.pointer pa, .int .i64 n, .int .i64 0, .bool true] w fun e w' => e = .returned (.tuple #[.int .i64 0, .int .i64 1]) ∧ Bad w0 w' pa n := by
  rcases B.kind with rfl | ⟨s, rfl, hS, hn⟩
  · exact (Restrict_nil w n 0 true).mono fun e w' h => ⟨h.1, B.pure h.2⟩
  · exact (Restrict_bad w s hS n 0 true (okIn_bad (l := []) hn)).mono fun e w' h => ⟨h.1, B.pure h.2⟩
theorem value_bad (a : Option Addr) (l c : Nat) : Calls Try.prog 14 #[.pointer pa, .int .i64 n, .slice a l c] w fun e w' => e = .returned (.tuple #[.bool false, .int .i64 1]) ∧ Bad w0 w' pa n := by
  rcases B.kind with rfl | ⟨s, rfl, hS, hn⟩
  · exact (Value_nil w n _).mono fun e w' h => ⟨h.1, B.pure h.2⟩
  · exact (Value_bad w s hS n a l c (Or.inl (okIn_bad (l := []) hn))).mono fun e w' h => ⟨h.1, B.pure h.2⟩
theorem witness_bad : Calls Try.prog 21 #[.pointer pa, .int .i64 n] w fun e w' => e = .returned (.tuple #[.slice none 0 0, .bool false]) ∧ Bad w0 w' pa n := by
  rcases B.kind with rfl | ⟨s, rfl, hS, hn⟩
  · exact (Witness_nil w n).mono fun e w' h => ⟨h.1, B.pure h.2⟩
  · exact (Witness_none w s hS n (Or.inl (okIn_bad (l := []) hn))).mono fun e w' h => ⟨h.1, B.pure h.2⟩
theorem count_bad : Calls Try.prog 22 #[.pointer pa, .int .i64 n] w fun e w' => e = .returned (.tuple #[.int .i64 0, .int .i64 1]) ∧ Bad w0 w' pa n := by
  rcases B.kind with rfl | ⟨s, rfl, hS, hn⟩
  · exact (Count_nil w n).mono fun e w' h => ⟨h.1, B.pure h.2⟩
  · exact (Count_bad w s hS n (okIn_bad (l := []) hn)).mono fun e w' h => ⟨h.1, B.pure h.2⟩
end

set_option maxHeartbeats 2000000 in
set_option maxRecDepth 100000 in
theorem strange_long (vars n i : Int) (ad : Option Addr) (len cap : Nat) (w : World) (hl : 100 < len) :
    Calls Try.prog 4 #[.agg #[.int .i64 vars, .int .i64 n, .int .i64 i, .slice ad len cap]] w fun e w' => e = .returned (.bool true) ∧ Below w.heap.size w w' := by
  have hBa : Below w.heap.size w (w.alloc (.cells #[.int .i64 vars, .int .i64 n, .int .i64 i, .slice ad len cap] 42)) := (Below.refl _ _).alloc (Nat.le_refl _) _
  go_enter Try.func4, Try.ntmps4
  go_wp2_with fail
  go_quiet (fail)
  go_wp2_with fail
  refine (live_any _).mono ?_
  rintro e w1 ⟨rfl, hb⟩
  have hB := (below_drewN hBa nq).trans (hb.mono (below_drewN hBa nq).size)
  clear hb hBa
  go_wp2_with fail
  go_ret
  exact ⟨rfl, hB⟩

end Go.Proofs.Ytehknmcoccikhaa
