/- The law BddStrange, of a constant. -/
import Derived.Test.YtehknmcoccikhaaLb
namespace Go.Proofs.Ytehknmcoccikhaa
open Go.RowKit

set_option maxHeartbeats 4000000 in
set_option maxRecDepth 100000 in
theorem strange_low (n : Nat) (i : Int) (vars : Nat) (ad : Option Addr) (len cap : Nat) (w : World) (hl : len ≤ 100) (hv : vars ≤ 30) (hn : n ≤ 1) :
    Calls Try.prog 4 #[.agg #[.int .i64 vars, .int .i64 n, .int .i64 i, .slice ad len cap]] w fun e w' => e = .returned (.bool true) ∧ Below w.heap.size w w' := by
  have hBa : Below w.heap.size w (w.alloc (.cells #[.int .i64 vars, .int .i64 n, .int .i64 i, .slice ad len cap] 42)) := (Below.refl _ _).alloc (Nat.le_refl _) _
  go_enter Try.func4, Try.ntmps4
  go_wp2_with fail
  go_quiet (fail)
  go_wp2_with fail
  have hB0 := below_drewN hBa nq
  generalize (World.drewN _ nq) = w1 at hB0 ⊢
  refine (New_ok w1 vars 100 hv (by omega) (by omega)).mono ?_
  rintro e w2 ⟨s, rfl, hS, hv0, hb0, hn0, hB1, hup⟩
  obtain ⟨p, hp⟩ : ∃ p, s.sb = p := ⟨_, rfl⟩
  have R0 : Run w w2 s p := ⟨hS, hB0.trans (hB1.mono hB0.size), fun k hk => Nat.le_trans hB0.size (hup k hk), hp⟩
  have HV : Hid (s.vars = vars ∧ s.budget = 100 ∧ s.ns.length = 2) := ⟨hv0, hb0, by rw [hn0]; rfl⟩
  rw [hp]
  clear hB0 hB1 hS hv0 hb0 hn0 hup hBa hp
  go_wp2_with fail
  by_cases hlv : len = vars
  · have HH := Value_low w2 s R0.store n hn ad len cap (by rw [HV.out.1]; exact hlv)
    rw [R0.sb] at HH
    refine HH.mono ?_
    clear HH
    rintro e w3 ⟨rfl, hb3⟩
    have R1 := R0.pure hb3
    have hlv' : ((len : Int) == (vars : Int)) = true := by simp; omega
    clear hb3 R0 hlv
    go_wp2_with fail
    by_cases hiv : 0 ≤ i ∧ i < vars
    · obtain ⟨j, rfl⟩ : ∃ j : Nat, i = j := ⟨i.toNat, by omega⟩
      have hj : j < vars := by omega
      clear hiv
      refine (var_run R1 j (by have := HV.out; omega) (by have := HV.out; omega)).mono ?_
      rintro e w4 ⟨r, s4, rfl, R2, -, -, -, -⟩
      clear R1
      go_wp2_with fail
      refine (live_any _).mono ?_
      rintro e w5 ⟨rfl, hb5⟩
      have hB5 := (R2.pure hb5).below
      clear hb5 R2
      go_wp2_with fail
      go_ret
      exact ⟨rfl, hB5⟩
    · have HH := var_bad w3 s R1.store i (by have := HV.out; omega)
      rw [R1.sb] at HH
      refine HH.mono ?_
      clear HH
      rintro e w4 ⟨rfl, rfl⟩
      by_cases h0 : 0 ≤ i
      · have h1 : (vars : Int) ≤ i := by omega
        have hd : decide (i < (vars : Int)) = false := by simp; omega
        clear hiv
        go_wp2_with fail
        refine (live_any _).mono ?_
        rintro e w5 ⟨rfl, hb5⟩
        have hB5 := (R1.pure hb5).below
        clear hb5 R1
        go_wp2_with fail
        go_ret
        exact ⟨rfl, hB5⟩
      · have h1 : i < 0 := by omega
        have hd : decide ((0 : Int) ≤ i) = false := by simp; omega
        clear hiv h0
        go_wp2_with fail
        refine (live_any _).mono ?_
        rintro e w5 ⟨rfl, hb5⟩
        have hB5 := (R1.pure hb5).below
        clear hb5 R1
        go_wp2_with fail
        go_ret
        exact ⟨rfl, hB5⟩
  · have HH := Value_bad w2 s R0.store n ad len cap (Or.inr (by rw [HV.out.1]; exact hlv))
    rw [R0.sb] at HH
    refine HH.mono ?_
    clear HH
    rintro e w3 ⟨rfl, hb3⟩
    have R1 := R0.pure hb3
    have hlv' : ((len : Int) == (vars : Int)) = false := by simp; omega
    clear hb3 R0 hlv
    go_wp2_with fail
    by_cases hiv : 0 ≤ i ∧ i < vars
    · obtain ⟨j, rfl⟩ : ∃ j : Nat, i = j := ⟨i.toNat, by omega⟩
      have hj : j < vars := by omega
      clear hiv
      refine (var_run R1 j (by have := HV.out; omega) (by have := HV.out; omega)).mono ?_
      rintro e w4 ⟨r, s4, rfl, R2, -, -, -, -⟩
      clear R1
      go_wp2_with fail
      refine (live_any _).mono ?_
      rintro e w5 ⟨rfl, hb5⟩
      have hB5 := (R2.pure hb5).below
      clear hb5 R2
      go_wp2_with fail
      go_ret
      exact ⟨rfl, hB5⟩
    · have HH := var_bad w3 s R1.store i (by have := HV.out; omega)
      rw [R1.sb] at HH
      refine HH.mono ?_
      clear HH
      rintro e w4 ⟨rfl, rfl⟩
      by_cases h0 : 0 ≤ i
      · have h1 : (vars : Int) ≤ i := by omega
        have hd : decide (i < (vars : Int)) = false := by simp; omega
        clear hiv
        go_wp2_with fail
        refine (live_any _).mono ?_
        rintro e w5 ⟨rfl, hb5⟩
        have hB5 := (R1.pure hb5).below
        clear hb5 R1
        go_wp2_with fail
        go_ret
        exact ⟨rfl, hB5⟩
      · have h1 : i < 0 := by omega
        have hd : decide ((0 : Int) ≤ i) = false := by simp; omega
        clear hiv h0
        go_wp2_with fail
        refine (live_any _).mono ?_
        rintro e w5 ⟨rfl, hb5⟩
        have hB5 := (R1.pure hb5).below
        clear hb5 R1
        go_wp2_with fail
        go_ret
        exact ⟨rfl, hB5⟩
end Go.Proofs.Ytehknmcoccikhaa
