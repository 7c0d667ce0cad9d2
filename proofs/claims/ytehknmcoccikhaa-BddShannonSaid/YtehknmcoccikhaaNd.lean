/- The law BddShannon: its walk. -/
import Derived.Test.YtehknmcoccikhaaNc
import Derived.Test.YtehknmcoccikhaaMs
namespace Go.Proofs.Ytehknmcoccikhaa
open Go.RowKit

theorem upd_upd (env : Nat → Bool) (i : Nat) (a b : Bool) : Dd.upd (Dd.upd env i a) i b = Dd.upd env i b := by
  funext j; unfold Dd.upd; split <;> rfl
theorem cntRows_le (n : Nat) (φ : (Nat → Bool) → Bool) : cntRows n φ ≤ 2 ^ n := by
  have := List.countP_le_length (p := fun k => φ (Dd.rowEnv n k)) (l := List.range (2 ^ n))
  simpa [cntRows] using this

set_option maxRecDepth 100000 in
set_option maxHeartbeats 8000000 in
theorem shannon_walk (vars iv : Nat) (hiv : iv < vars) (a : Option Addr) (n c : Nat) (hv1 : 1 ≤ vars) (hv5 : vars ≤ 5) (hn : n ≤ 30) (w : World) (hsc : ScrAt w a n) :
    Calls Try.prog 6 #[.int .i64 vars, .slice a n c, .int .i64 iv] w fun e w' => e = .returned (.bool true) ∧ Below w.heap.size w w' := by
  obtain ⟨i0, hi, hz0, hz1, hz2⟩ := info_parts infoMade
  go_enter Try.func6, Try.ntmps6
  go_wp2_with fail
  refine (New_ok w vars 10000 (by omega) (by omega) (by omega)).mono ?_
  rintro e w1 ⟨s0, rfl, hS0, hv0, hb0, hn0, hB0, hup0⟩
  obtain ⟨p, hp⟩ : ∃ p, s0.sb = p := ⟨_, rfl⟩
  rw [hp]
  have R0 : Run w w1 s0 p := ⟨hS0, hB0, hup0, hp⟩
  have L0 : s0.ns.length = 2 := by rw [hn0]; rfl
  have HV0 : Hid (s0.vars = vars ∧ s0.budget = 10000 ∧ s0.ns.length = 2) := ⟨hv0, hb0, L0⟩
  clear hv0 hb0 hn0 hB0 hup0 hp hS0 L0
  go_wp2_with fail
  refine (tConst (vars := vars) w1 false hv5).mono ?_
  rintro e w2 ⟨u, rfl, hN, hb2, hn2⟩
  obtain ⟨ub, uo, ul, uc, rfl⟩ := tab_spelt hN
  go_wp2_with fail
  refine (tConst (vars := vars) w2 true hv5).mono ?_
  rintro e w3 ⟨v, rfl, hY, hb3, hn3⟩
  obtain ⟨vb, vo, vl, vc, rfl⟩ := tab_spelt hY
  obtain ⟨L, LP, HL⟩ := Lp.start R0 HV0.out.2.2 HV0.out.1 HV0.out.2.1 hN hn2 hb2 hY hn3 hb3
  clear hN hn2 hb2 hY hn3 hb3 R0 HV0 HL
  go_wp2_with fail
  generalize w3.alloc (.cells #[.int .i64 0, .slice (some ⟨ub, uo, none⟩) ul uc, .int .i64 1, .slice (some ⟨vb, vo, none⟩) vl vc] 32) = w4 at LP ⊢
  generalize w3.heap.size = lb at LP ⊢
  go_loopw [9, 10, 11, 12, 13] (fun l i _ _ _ wr => ∃ (k : Nat) (s : St) (L : List Mk), k ≤ n ∧ i = .int .i64 k ∧ Lp w wr p vars 10000 k l s L) (fun _ i _ _ _ _ => n - (intOf i).toNat)
  case atStart => exact ⟨0, s0, L, Nat.zero_le _, rfl, LP⟩
  case round =>
    obtain ⟨k, s, L, hk, rfl, LP⟩ := hrel
    obtain ⟨lg, lc, rfl, hlg, hlt⟩ := LP.ap
    by_cases hkn : k < n
    · obtain ⟨sb, so, d, j, f, g, h, b, rfl, hsl, c0, c1, c2, c3, c4, c5, r1, r2, r3, r4⟩ := (hsc.below LP.run.below) k hkn
      go_wp2_with fail
      refine (show Calls Try.prog 11 #[.pointer (some ⟨p, 0, none⟩), .int .i64 vars, .agg #[.int .i64 d, .int .i64 j, .int .i64 f, .int .i64 g, .int .i64 h, .bool b], .slice (some ⟨lg, 0, none⟩) L.length lc] wr (CallPost w wr s p) from (by have := call_any w wr s p _ _ L LP.run (by rw [LP.hv]; exact hv1) (by rw [LP.hv]; exact hv5) LP.made (by have := LP.two; omega) (by have := LP.len; omega) d j f g h b r1 r2 r3 r4; rw [LP.hv] at this; exact this)).mono ?_
      rintro e w5 ⟨r, er, tv, φ, s', rfl, R', hM, hF, hT, hA, hnew, hns, hr, hor⟩
      have hfun : er = 0 ∧ Fun s' r φ := by
        rcases hor with q | ⟨_, _, q⟩
        · exact q
        · have h1 := LP.ns; have h2 := LP.hb; have h3 := pow5 hv5; rw [LP.hv] at hns; omega
      obtain ⟨rfl, hφ⟩ := hfun
      obtain ⟨tb, to, tl, tc, rfl⟩ := tab_spelt hT
      have hown := (LP.made.step LP.run.store R'.store hM hF).own
      have hLP := LP.len
      have hLB := R'.below.size
      clear c0 c1 c2 c3 c4 c5 r1 r2 r3 r4 hor
      go_wp2_with (at_builtin; refine wpList_append_lies _ rfl _ _ 33 rfl w.heap.size 32 i0 (.agg #[.int .i64 0, .slice none 0 0]) 2 32 Try.underlying33 hi hz0 hz1 hz2 rfl (by decide) _ _ _ rfl (hown.alloc _) ⟨w5.heap.size, 0, none⟩ 1 1 [.int .i64 r, .slice (some ⟨tb, to, none⟩) tl tc] rfl rfl ?c1 ?c2 ?c3 ?c4 ?c5 ?c6 (w5.heap.size + 1) ?c7 ?_)
      case c1 => exact World.news_of_block (heap_alloc_new w5 _)
      case c2 => simp [Value.oneCell']
      case c3 => omega
      case c4 => unfold maxLen; omega
      case c5 => omega
      case c6 => simp; omega
      case c7 => simp
      intro g2 cap2 w6 hown6 hgrow6 hat6 _
      obtain ⟨L', LP'⟩ := LP.grown hv5 R' hM hF hT hA hnew hns hφ hown6 hgrow6 hat6
      clear LP hown hown6 hgrow6 hat6 R' hM hF hT hA hnew hns hφ hLP hLB hr hlg hlt hsl
      go_wp2_with fail
      go_roundw
      case rel => exact ⟨k + 1, s', L', by omega, by go_num, LP'⟩
      case measure => simp [intOf]; omega
    · have hke : k = n := by omega
      subst hke
      obtain ⟨m, hm⟩ : ∃ m, L.length = m + 1 := ⟨L.length - 1, by have := LP.two; omega⟩
      obtain ⟨x, hx, mx⟩ := getD_some (show m < L.length by omega)
      have hc := LP.made.cells hx
      have hca := hc.1
      have hx2 := LP.made.all x mx
      have hML := LP.len
      have hmlt : m < L.length := by omega
      obtain ⟨N, hNN⟩ : ∃ N, N = L.length := ⟨_, rfl⟩
      rw [← hNN] at hmlt hML ⊢
      have hsub : (N : Int) - 1 = (m : Int) := by omega
      have hsub2 : wrap64 (m : Int) = (m : Int) := IntWalk.wrap64_in _ (by omega)
      have HM : Hid (L.length = m + 1) := hm
      clear hm hNN hML
      clear hc hx mx
      go_wp2_with fail
      obtain ⟨xa, hxa⟩ : ∃ xn, xn = x.n := ⟨_, rfl⟩
      obtain ⟨φ, hφ⟩ : ∃ φ, φ = x.φ := ⟨_, rfl⟩
      rw [← hxa, ← hφ] at hx2
      rw [← hxa]
      have A0 := hx2.1
      have R0 := LP.run
      have D0 : Bd s vars 0 := ⟨LP.hv, LP.hb, by have := LP.ns; omega⟩
      clear hx2 hxa hφ hca hsub hsub2 LP hmlt hlg hlt HM
      have hone : 1 ≤ 2 ^ s.vars := Nat.pow_pos (by omega)
      refine (var_run R0 iv (by rw [D0.v]; exact hiv) (D0.room hv5 (by omega) (by omega))).mono ?_
      rintro e v1 ⟨y, s1, rfl, R1, M1, -, L1, V1⟩
      have A1 := A0.more R0.store R1.store M1
      have D1 := D0.next hv5 M1 L1 (by omega)
      clear L1 M1 R0 D0 A0 hone
      go_wp2_with fail
      refine (restrict_run R1 xa iv true φ A1 (by rw [D1.v]; exact hiv) (D1.room hv5 (by omega) (by omega))).mono ?_
      rintro e v2 ⟨hi', s2, rfl, R2, M2, -, L2, H2⟩
      have A2 := A1.more R1.store R2.store M2
      have V2 := V1.more R1.store R2.store M2
      have D2 := D1.next hv5 M2 L2 (by omega)
      clear L2 M2 R1 D1 A1 V1
      go_wp2_with fail
      refine (restrict_run R2 xa iv false φ A2 (by rw [D2.v]; exact hiv) (D2.room hv5 (by omega) (by omega))).mono ?_
      rintro e v3 ⟨lo, s3, rfl, R3, M3, -, L3, W3⟩
      have A3 := A2.more R2.store R3.store M3
      have V3 := V2.more R2.store R3.store M3
      have H3 := H2.more R2.store R3.store M3
      have D3 := D2.next hv5 M3 L3 (by omega)
      clear L3 M3 R2 D2 A2 V2 H2
      go_wp2_with fail
      refine (ite_run R3 y hi' lo _ _ _ V3 H3 W3 (D3.room hv5 (by omega) (by omega))).mono ?_
      rintro e v4 ⟨wh, s4, rfl, R4, M4, -, L4, X4⟩
      have A4 := A3.more R3.store R4.store M4
      have H4 := H3.more R3.store R4.store M4
      have W4 := W3.more R3.store R4.store M4
      have D4 := D3.next hv5 M4 L4 (by omega)
      have he : xa = wh := (X4.eq R4.store A4 (fun env => by
        cases h : env iv <;> simp [h]
        · have := Dd.upd_same env iv; rw [h] at this; rw [this]
        · have := Dd.upd_same env iv; rw [h] at this; rw [this])).symm
      subst he
      clear L4 M4 R3 D3 A3 V3 H3 W3 X4
      go_wp2_with fail
      refine (restrict_run R4 hi' iv false _ H4 (by rw [D4.v]; exact hiv) (D4.room hv5 (by omega) (by omega))).mono ?_
      rintro e v5 ⟨ag, s5, rfl, R5, M5, -, L5, G5⟩
      have A5 := A4.more R4.store R5.store M5
      have H5 := H4.more R4.store R5.store M5
      have W5 := W4.more R4.store R5.store M5
      have D5 := D4.next hv5 M5 L5 (by omega)
      have he : hi' = ag := (G5.eq R5.store H5 (fun env => by simp only [upd_upd])).symm
      subst he
      clear L5 M5 R4 D4 A4 H4 W4 G5
      go_wp2_with fail
      refine (count_run R5 xa _ A5).mono ?_
      rintro e v6 ⟨rfl, R6, -⟩
      go_wp2_with fail
      refine (count_run R6 hi' _ H5).mono ?_
      rintro e v7 ⟨rfl, R7, -⟩
      go_wp2_with fail
      refine (count_run R7 lo _ W5).mono ?_
      rintro e v8 ⟨rfl, R8, -⟩
      rw [D5.v]
      have hext : ExtBelow vars φ := by have := A5.congr R5.store; rw [D5.v] at this; exact this
      have h2 := cntRows_two vars φ iv hiv hext
      have l1 := cntRows_le vars φ
      have l2 := cntRows_le vars (fun env => φ (Dd.upd env iv true))
      have l3 := cntRows_le vars (fun env => φ (Dd.upd env iv false))
      have hp5 := pow5 hv5
      unfold cntRows at h2 l1 l2 l3
      generalize (List.range (2 ^ vars)).countP (fun j => φ (Dd.rowEnv vars j)) = ca at h2 l1 ⊢
      generalize (List.range (2 ^ vars)).countP (fun j => φ (Dd.upd (Dd.rowEnv vars j) iv true)) = cb at h2 l2 ⊢
      generalize (List.range (2 ^ vars)).countP (fun j => φ (Dd.upd (Dd.rowEnv vars j) iv false)) = cc at h2 l3 ⊢
      have b1 : ca ≤ 32 := by omega
      have b2 : cb ≤ 32 := by omega
      have b3 : cc ≤ 32 := by omega
      have hz : (2 : Int) * (ca : Int) = (cb : Int) + (cc : Int) := by omega
      clear h2 l1 l2 l3 hext A5 H5 W5 D5 R5 R6 R7
      go_wp2_with fail
      refine (live_any _).mono ?_
      rintro e w9 ⟨rfl, hb9⟩
      have hB9 := (R8.pure hb9).below
      go_wp2_with fail
      go_ret
      exact ⟨rfl, hB9⟩

set_option maxRecDepth 100000 in
set_option maxHeartbeats 2000000 in
theorem shannon_out (vars : Int) (a : Option Addr) (n c : Nat) (iv : Int) (h : vars < 1 ∨ 5 < vars ∨ 30 < n ∨ iv < 0 ∨ vars ≤ iv) (w : World) :
    Calls Try.prog 6 #[.int .i64 vars, .slice a n c, .int .i64 iv] w fun e w' => e = .returned (.bool true) ∧ Below w.heap.size w w' := by
  have hb : (decide (vars < 1) || decide (5 < vars) || decide ((30 : Int) < (n : Int)) || decide (iv < 0) || decide (vars ≤ iv)) = true := by
    rcases h with h | h | h | h | h
    · simp [h]
    · simp [h]
    · have : (30 : Int) < (n : Int) := by omega
      simp [this]
    · simp [h]
    · simp [h]
  clear h
  go_enter Try.func6, Try.ntmps6
  go_wp2_with fail
  all_goals
    refine (live_any _).mono ?_
    rintro e w1 ⟨rfl, hB⟩
    go_wp2_with fail
    go_ret
    exact ⟨rfl, hB⟩
end Go.Proofs.Ytehknmcoccikhaa
