/- The law BddStrange, where there is no store. -/
import Derived.Test.YtehknmcoccikhaaLb
namespace Go.Proofs.Ytehknmcoccikhaa
open Go.RowKit

set_option maxHeartbeats 4000000 in
set_option maxRecDepth 100000 in
theorem strange_nil (vars n i : Int) (ad : Option Addr) (len cap : Nat) (w : World) (hl : len ≤ 100) (hv : vars < 0 ∨ 30 < vars) :
    Calls Try.prog 4 #[.agg #[.int .i64 vars, .int .i64 n, .int .i64 i, .slice ad len cap]] w fun e w' => e = .returned (.bool true) ∧ Below w.heap.size w w' := by
  have hBa : Below w.heap.size w (w.alloc (.cells #[.int .i64 vars, .int .i64 n, .int .i64 i, .slice ad len cap] 42)) := (Below.refl _ _).alloc (Nat.le_refl _) _
  have hv1 : (decide (0 ≤ vars) && decide (vars ≤ 30)) = false := by
    rcases hv with h | h
    · have : decide (0 ≤ vars) = false := by simp; omega
      rw [this]; rfl
    · have : decide (vars ≤ 30) = false := by simp; omega
      rw [this]; simp
  go_enter Try.func4, Try.ntmps4
  go_wp2_with fail
  go_quiet (fail)
  go_wp2_with fail
  have hB0 := below_drewN hBa nq
  generalize (World.drewN _ nq) = w1 at hB0 ⊢
  refine (New_bad w1 vars 100 (by omega)).mono ?_
  rintro e w2 ⟨rfl, rfl⟩
  clear hBa
  have B0 : Bad w w2 none n := ⟨hB0, Or.inl rfl⟩
  clear hB0
  by_cases h0 : 0 ≤ vars
  · have h30 : 30 < vars := by omega
    clear hv hv1
    go_wp2_with fail
    refine (ite_bad B0).mono ?_
    rintro e v0 ⟨rfl, B1⟩
    clear B0
    go_wp2_with fail
    refine (not_bad B1).mono ?_
    rintro e v1 ⟨rfl, B2⟩
    clear B1
    go_wp2_with fail
    refine (and_bad B2).mono ?_
    rintro e v2 ⟨rfl, B3⟩
    clear B2
    go_wp2_with fail
    refine (or_bad B3).mono ?_
    rintro e v3 ⟨rfl, B4⟩
    clear B3
    go_wp2_with fail
    refine (restrict_bad B4).mono ?_
    rintro e v4 ⟨rfl, B5⟩
    clear B4
    go_wp2_with fail
    refine (value_bad B5 _ _ _).mono ?_
    rintro e v5 ⟨rfl, B6⟩
    clear B5
    go_wp2_with fail
    refine (witness_bad B6).mono ?_
    rintro e v6 ⟨rfl, B7⟩
    clear B6
    go_wp2_with fail
    refine (count_bad B7).mono ?_
    rintro e v7 ⟨rfl, B8⟩
    clear B7
    go_wp2_with fail
    refine (live_any _).mono ?_
    rintro e v9 ⟨rfl, hb9⟩
    have hB9 := B8.below.trans (hb9.mono B8.below.size)
    clear hb9 B8
    go_wp2_with fail
    go_ret
    exact ⟨rfl, hB9⟩
  · have h30 : vars < 0 := by omega
    clear hv hv1 h0
    go_wp2_with fail
    refine (ite_bad B0).mono ?_
    rintro e v0 ⟨rfl, B1⟩
    clear B0
    go_wp2_with fail
    refine (not_bad B1).mono ?_
    rintro e v1 ⟨rfl, B2⟩
    clear B1
    go_wp2_with fail
    refine (and_bad B2).mono ?_
    rintro e v2 ⟨rfl, B3⟩
    clear B2
    go_wp2_with fail
    refine (or_bad B3).mono ?_
    rintro e v3 ⟨rfl, B4⟩
    clear B3
    go_wp2_with fail
    refine (restrict_bad B4).mono ?_
    rintro e v4 ⟨rfl, B5⟩
    clear B4
    go_wp2_with fail
    refine (value_bad B5 _ _ _).mono ?_
    rintro e v5 ⟨rfl, B6⟩
    clear B5
    go_wp2_with fail
    refine (witness_bad B6).mono ?_
    rintro e v6 ⟨rfl, B7⟩
    clear B6
    go_wp2_with fail
    refine (count_bad B7).mono ?_
    rintro e v7 ⟨rfl, B8⟩
    clear B7
    go_wp2_with fail
    refine (live_any _).mono ?_
    rintro e v9 ⟨rfl, hb9⟩
    have hB9 := B8.below.trans (hb9.mono B8.below.size)
    clear hb9 B8
    go_wp2_with fail
    go_ret
    exact ⟨rfl, hB9⟩

end Go.Proofs.Ytehknmcoccikhaa
