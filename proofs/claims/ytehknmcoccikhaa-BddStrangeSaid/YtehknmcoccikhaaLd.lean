/- The law BddStrange, of a function that there is not. -/
import Derived.Test.YtehknmcoccikhaaLb
namespace Go.Proofs.Ytehknmcoccikhaa
open Go.RowKit

set_option maxHeartbeats 4000000 in
set_option maxRecDepth 100000 in
theorem strange_bad (n i : Int) (vars : Nat) (ad : Option Addr) (len cap : Nat) (w : World) (hl : len ≤ 100) (hv : vars ≤ 30) (hn : n < 0 ∨ 2 ≤ n) :
    Calls Try.prog 4 #[.agg #[.int .i64 vars, .int .i64 n, .int .i64 i, .slice ad len cap]] w fun e w' => e = .returned (.bool true) ∧ Below w.heap.size w w' := by
  have hBa : Below w.heap.size w (w.alloc (.cells #[.int .i64 vars, .int .i64 n, .int .i64 i, .slice ad len cap] 42)) := (Below.refl _ _).alloc (Nat.le_refl _) _
  go_enter Try.func4, Try.ntmps4
  go_wp2_with fail
  go_quiet (fail)
  go_wp2_with fail
  have hB0 := below_drewN hBa nq
  generalize (World.drewN _ nq) = w1 at hB0 ⊢
  refine (New_ok w1 vars 100 hv (by omega) (by omega)).mono ?_
  rintro e w2 ⟨s, rfl, hS, hv0, hb0, hn0, hB1, hup⟩
  have B0 : Bad w w2 (some ⟨s.sb, 0, none⟩) n := ⟨hB0.trans (hB1.mono hB0.size), Or.inr ⟨s, rfl, hS, by rw [hn0]; simp; exact hn⟩⟩
  clear hB0 hB1 hS hv0 hb0 hn0 hup hBa
  by_cases h0 : 0 ≤ n
  · have h30 : 2 ≤ n := by omega
    clear hn
    go_wp2_with fail
    refine (ite_bad B0).mono ?_
    rintro e v0 ⟨rfl, B1⟩
    clear B0
    go_wp2_with fail
    refine (not_bad B1).mono ?_
    rintro e v1 ⟨rfl, B2⟩
    clear B1
    go_wp2_with fail
    refine (and_bad B2).mono ?_
    rintro e v2 ⟨rfl, B3⟩
    clear B2
    go_wp2_with fail
    refine (or_bad B3).mono ?_
    rintro e v3 ⟨rfl, B4⟩
    clear B3
    go_wp2_with fail
    refine (restrict_bad B4).mono ?_
    rintro e v4 ⟨rfl, B5⟩
    clear B4
    go_wp2_with fail
    refine (value_bad B5 _ _ _).mono ?_
    rintro e v5 ⟨rfl, B6⟩
    clear B5
    go_wp2_with fail
    refine (witness_bad B6).mono ?_
    rintro e v6 ⟨rfl, B7⟩
    clear B6
    go_wp2_with fail
    refine (count_bad B7).mono ?_
    rintro e v7 ⟨rfl, B8⟩
    clear B7
    go_wp2_with fail
    refine (live_any _).mono ?_
    rintro e v9 ⟨rfl, hb9⟩
    have hB9 := B8.below.trans (hb9.mono B8.below.size)
    clear hb9 B8
    go_wp2_with fail
    go_ret
    exact ⟨rfl, hB9⟩
  · have h30 : n < 0 := by omega
    clear hn h0
    go_wp2_with fail
    refine (ite_bad B0).mono ?_
    rintro e v0 ⟨rfl, B1⟩
    clear B0
    go_wp2_with fail
    refine (not_bad B1).mono ?_
    rintro e v1 ⟨rfl, B2⟩
    clear B1
    go_wp2_with fail
    refine (and_bad B2).mono ?_
    rintro e v2 ⟨rfl, B3⟩
    clear B2
    go_wp2_with fail
    refine (or_bad B3).mono ?_
    rintro e v3 ⟨rfl, B4⟩
    clear B3
    go_wp2_with fail
    refine (restrict_bad B4).mono ?_
    rintro e v4 ⟨rfl, B5⟩
    clear B4
    go_wp2_with fail
    refine (value_bad B5 _ _ _).mono ?_
    rintro e v5 ⟨rfl, B6⟩
    clear B5
    go_wp2_with fail
    refine (witness_bad B6).mono ?_
    rintro e v6 ⟨rfl, B7⟩
    clear B6
    go_wp2_with fail
    refine (count_bad B7).mono ?_
    rintro e v7 ⟨rfl, B8⟩
    clear B7
    go_wp2_with fail
    refine (live_any _).mono ?_
    rintro e v9 ⟨rfl, hb9⟩
    have hB9 := B8.below.trans (hb9.mono B8.below.size)
    clear hb9 B8
    go_wp2_with fail
    go_ret
    exact ⟨rfl, hB9⟩

end Go.Proofs.Ytehknmcoccikhaa
