/- The law BddMakes: its walk. -/
import Derived.Test.YtehknmcoccikhaaNe
import Derived.Test.YtehknmcoccikhaaNb
namespace Go.Proofs.Ytehknmcoccikhaa
open Go.RowKit

set_option maxRecDepth 100000 in
set_option maxHeartbeats 8000000 in
theorem makes_walk (vars budget : Nat) (hbl : 2 ≤ budget) (hbh : budget ≤ 10000) (a : Option Addr) (n c : Nat) (hv1 : 1 ≤ vars) (hv5 : vars ≤ 5) (hn : n ≤ 30) (w : World) (hsc : ScrAt w a n) :
    Calls Try.prog 3 #[.int .i64 vars, .int .i64 budget, .slice a n c] w fun e w' => e = .returned (.bool true) ∧ Below w.heap.size w w' := by
  obtain ⟨i0, hi, hz0, hz1, hz2⟩ := info_parts infoMade
  go_enter Try.func3, Try.ntmps3
  go_wp2_with fail
  refine (New_ok w vars budget (by omega) (by omega) (by omega)).mono ?_
  rintro e w1 ⟨s0, rfl, hS0, hv0, hb0, hn0, hB0, hup0⟩
  obtain ⟨p, hp⟩ : ∃ p, s0.sb = p := ⟨_, rfl⟩
  rw [hp]
  have R0 : Run w w1 s0 p := ⟨hS0, hB0, hup0, hp⟩
  have L0 : s0.ns.length = 2 := by rw [hn0]; rfl
  have HV0 : Hid (s0.vars = vars ∧ s0.budget = budget ∧ s0.ns.length = 2) := ⟨hv0, hb0, L0⟩
  clear hv0 hb0 hn0 hB0 hup0 hp hS0 L0
  go_wp2_with fail
  refine (tConst (vars := vars) w1 false hv5).mono ?_
  rintro e w2 ⟨u, rfl, hN, hb2, hn2⟩
  obtain ⟨ub, uo, ul, uc, rfl⟩ := tab_spelt hN
  go_wp2_with fail
  refine (tConst (vars := vars) w2 true hv5).mono ?_
  rintro e w3 ⟨v, rfl, hY, hb3, hn3⟩
  obtain ⟨vb, vo, vl, vc, rfl⟩ := tab_spelt hY
  obtain ⟨L, LP, HL⟩ := Lp.start R0 HV0.out.2.2 HV0.out.1 HV0.out.2.1 hN hn2 hb2 hY hn3 hb3
  clear hN hn2 hb2 hY hn3 hb3 R0 HV0 HL
  go_wp2_with fail
  generalize w3.alloc (.cells #[.int .i64 0, .slice (some ⟨ub, uo, none⟩) ul uc, .int .i64 1, .slice (some ⟨vb, vo, none⟩) vl vc] 32) = w4 at LP ⊢
  generalize w3.heap.size = lb at LP ⊢
  go_loopw [9, 10, 11, 12, 13] (fun l i _ _ _ wr => ∃ (k : Nat) (s : St) (L : List Mk), k ≤ n ∧ i = .int .i64 k ∧ Lp w wr p vars budget k l s L) (fun _ i _ _ _ _ => n - (intOf i).toNat)
  case atStart => exact ⟨0, s0, L, Nat.zero_le _, rfl, LP⟩
  case round =>
    obtain ⟨k, s, L, hk, rfl, LP⟩ := hrel
    obtain ⟨lg, lc, rfl, hlg, hlt⟩ := LP.ap
    by_cases hkn : k < n
    · obtain ⟨sb, so, d, j, f, g, h, b, rfl, hsl, c0, c1, c2, c3, c4, c5, r1, r2, r3, r4⟩ := (hsc.below LP.run.below) k hkn
      go_wp2_with fail
      refine (show Calls Try.prog 11 #[.pointer (some ⟨p, 0, none⟩), .int .i64 vars, .agg #[.int .i64 d, .int .i64 j, .int .i64 f, .int .i64 g, .int .i64 h, .bool b], .slice (some ⟨lg, 0, none⟩) L.length lc] wr (CallPost w wr s p) from (by have := call_any w wr s p _ _ L LP.run (by rw [LP.hv]; exact hv1) (by rw [LP.hv]; exact hv5) LP.made (by have := LP.two; omega) (by have := LP.len; omega) d j f g h b r1 r2 r3 r4; rw [LP.hv] at this; exact this)).mono ?_
      rintro e w5 ⟨r, er, tv, φ, s', rfl, R', hM, hF, hT, hA, hnew, hns, hr, hor⟩
      by_cases her : er = 0
      · subst her
        have hφ : Fun s' r φ := by
          rcases hor with q | ⟨q, _⟩
          · exact q.2
          · omega
        obtain ⟨tb, to, tl, tc, rfl⟩ := tab_spelt hT
        have hown := (LP.made.step LP.run.store R'.store hM hF).own
        have hLP := LP.len
        have hLB := R'.below.size
        clear c0 c1 c2 c3 c4 c5 r1 r2 r3 r4 hor
        go_wp2_with (at_builtin; refine wpList_append_lies _ rfl _ _ 33 rfl w.heap.size 32 i0 (.agg #[.int .i64 0, .slice none 0 0]) 2 32 Try.underlying33 hi hz0 hz1 hz2 rfl (by decide) _ _ _ rfl (hown.alloc _) ⟨w5.heap.size, 0, none⟩ 1 1 [.int .i64 r, .slice (some ⟨tb, to, none⟩) tl tc] rfl rfl ?c1 ?c2 ?c3 ?c4 ?c5 ?c6 (w5.heap.size + 1) ?c7 ?_)
        case c1 => exact World.news_of_block (heap_alloc_new w5 _)
        case c2 => simp [Value.oneCell']
        case c3 => omega
        case c4 => unfold maxLen; omega
        case c5 => omega
        case c6 => simp; omega
        case c7 => simp
        intro g2 cap2 w6 hown6 hgrow6 hat6 _
        obtain ⟨L', LP'⟩ := LP.grown hv5 R' hM hF hT hA hnew hns hφ hown6 hgrow6 hat6
        clear LP hown hown6 hgrow6 hat6 R' hM hF hT hA hnew hns hφ hLP hLB hlg hlt hsl
        have hrs := hr
        have hsz := LP'.run.store.room
        have HBU : Hid (s'.budget = budget) := LP'.hb
        have hsz2 : s'.ns.length ≤ budget := by have := HBU.out; omega
        have hsl := LP'.run.store.len
        clear hsz
        go_wp2_with fail
        refine (size_run LP'.run).mono ?_
        rintro e w7 ⟨rfl, hW7⟩
        subst hW7
        go_wp2_with fail
        refine (size_run LP'.run).mono ?_
        rintro e w7 ⟨rfl, hW7⟩
        subst hW7
        go_wp2_with fail
        go_roundw
        case rel => exact ⟨k + 1, s', L', by omega, by go_num, LP'⟩
        case measure => simp [intOf]; omega
      · have h18 : er = 18 ∧ r = 0 ∧ s'.ns.length = s.budget := by
          rcases hor with ⟨q, _⟩ | q
          · omega
          · exact q
        obtain ⟨rfl, rfl, hfull⟩ := h18
        have hb5 : budget ≤ 5000 := by
          have h1 := LP.ns; have h2 := LP.hb; have h3 := pow5 hv5; rw [LP.hv] at hns; omega
        have LP' := LP.same hv5 R' hM hF hns
        clear LP R' hM hF hT hA hnew hns hr hor hfull her c0 c1 c2 c3 c4 c5 r1 r2 r3 r4
        go_wp2_with fail
        go_roundw
        case rel => exact ⟨k + 1, s', L, by omega, by go_num, LP'⟩
        case measure => simp [intOf]; omega
    · have hke : k = n := by omega
      subst hke
      go_wp2_with fail
      refine (all_any w wr s p _ vars _ L LP.run LP.hv hv1 hv5 LP.made (by have := LP.two; omega) (by have := LP.len; omega)).mono ?_
      rintro e w5 ⟨rfl, R5⟩
      clear LP hlg hlt
      go_wp2_with fail
      refine (live_any _).mono ?_
      rintro e w9 ⟨rfl, hb9⟩
      have hB9 := (R5.pure hb9).below
      clear hb9 R5
      go_wp2_with fail
      go_ret
      exact ⟨rfl, hB9⟩

set_option maxRecDepth 100000 in
set_option maxHeartbeats 2000000 in
theorem makes_out (vars budget : Int) (a : Option Addr) (n c : Nat) (h : vars < 1 ∨ 5 < vars ∨ 30 < n) (w : World) :
    Calls Try.prog 3 #[.int .i64 vars, .int .i64 budget, .slice a n c] w fun e w' => e = .returned (.bool true) ∧ Below w.heap.size w w' := by
  have hb : (decide (vars < 1) || decide (5 < vars) || decide ((30 : Int) < (n : Int))) = true := by
    rcases h with h | h | h
    · simp [h]
    · simp [h]
    · have : (30 : Int) < (n : Int) := by omega
      simp [this]
  clear h
  go_enter Try.func3, Try.ntmps3
  go_wp2_with fail
  all_goals
    refine (live_any _).mono ?_
    rintro e w1 ⟨rfl, hB⟩
    go_wp2_with fail
    go_ret
    exact ⟨rfl, hB⟩


set_option maxRecDepth 100000 in
set_option maxHeartbeats 2000000 in
theorem makes_poor (vars : Nat) (budget : Int) (a : Option Addr) (n c : Nat) (h1 : 1 ≤ vars) (h5 : vars ≤ 5) (hn : n ≤ 30) (h : budget < 2 ∨ 10000 < budget) (w : World) :
    Calls Try.prog 3 #[.int .i64 vars, .int .i64 budget, .slice a n c] w fun e w' => e = .returned (.bool true) ∧ Below w.heap.size w w' := by
  have hb : (decide (budget < 2) || decide (10000 < budget)) = true := by
    rcases h with h | h
    · simp [h]
    · simp [h]
  go_enter Try.func3, Try.ntmps3
  go_wp2_with fail
  refine (New_bad w vars budget (by omega)).mono ?_
  rintro e w2 ⟨rfl, hW⟩
  subst hW
  clear h
  go_wp2_with fail
  all_goals
    refine (live_any _).mono ?_
    rintro e w1 ⟨rfl, hB⟩
    go_wp2_with fail
    go_ret
    exact ⟨rfl, hB⟩
end Go.Proofs.Ytehknmcoccikhaa
