/- The law BddEnds: its walk. -/
import Derived.Test.YtehknmcoccikhaaNa
namespace Go.Proofs.Ytehknmcoccikhaa
open Go.RowKit

theorem infoMade : (Try.prog.info? 32).map (fun i => (i.zero, i.size, i.bytes)) = some (some (.agg #[.int .i64 0, .slice none 0 0]), 2, 32) := by kernel_rfl

theorem tab_spelt {w : World} {v : Value} {vars : Nat} {φ : (Nat → Bool) → Bool} (h : SlBools w v (tab vars φ)) : ∃ b o l c, v = .slice (some ⟨b, o, none⟩) l c := by
  obtain ⟨b, o, c, h, _⟩ := h.some (by rw [tab_length]; exact Nat.pow_pos (by omega))
  exact ⟨b, o, _, c, h⟩

/-- The two constants, as made functions. -/
theorem Lp.start {w0 w1 w2 w3 : World} {s : St} {p vars budget : Nat} {u v : Value} (R : Run w0 w1 s p) (hns : s.ns.length = 2) (hv : s.vars = vars) (hb : s.budget = budget)
    (h1 : SlBools w2 u (tab vars fun _ => false)) (n1 : ∀ k, u.ownBlock = some k → w1.heap.size ≤ k) (b1 : Below w1.heap.size w1 w2)
    (h2 : SlBools w3 v (tab vars fun _ => true)) (n2 : ∀ k, v.ownBlock = some k → w2.heap.size ≤ k) (b2 : Below w2.heap.size w2 w3) :
    ∃ L, Lp w0 (w3.alloc (.cells #[.int .i64 0, u, .int .i64 1, v] 32)) p vars budget 0 (.slice (some ⟨w3.heap.size, 0, none⟩) 2 2) s L ∧ L.length = 2 := by
  obtain ⟨x, hx1, hx2, hx3, hx4, hx5⟩ := mk_of 0 h1
  obtain ⟨y, hy1, hy2, hy3, hy4, hy5⟩ := mk_of 1 h2
  have b3 : Below w3.heap.size w3 (w3.alloc (.cells #[.int .i64 0, u, .int .i64 1, v] 32)) := (Below.refl _ _).alloc (Nat.le_refl _) _
  have R2 := R.pure b1
  have R3 := R2.pure b2
  have hl := b2.size
  refine ⟨[x, y], ⟨R3.pure b3, ⟨?_, fun k hk => bl_new R3.store (by simp [Value.ownBlock] at hk; omega), ?_, ?_⟩, by simp, by simp, hv, hb, by omega⟩, rfl⟩
  · have := World.ownsRow_lit (base := w0.heap.size) (e := 32) (size := 2) w3 #[.int .i64 0, u, .int .i64 1, v] 2 R3.below.size (by unfold maxLen; omega) rfl
    simpa [flatM, hx1, hx2, hy1, hy2] using this
  · intro z hz
    simp at hz
    rcases hz with rfl | rfl
    · rw [hv, hx1, hx2, hx3]
      exact ⟨Fun.no R.store, (h1.below b2).below b3, fun k hk => bl_new R.store (n1 k hk)⟩
    · rw [hv, hy1, hy2, hy3]
      exact ⟨Fun.yes R.store, h2.below b3, fun k hk => bl_new R2.store (n2 k hk)⟩
  · intro z hz k hk
    simp [Value.ownBlock] at hk
    simp at hz
    rcases hz with rfl | rfl <;> omega

theorem countP_not (l : List Nat) (q : Nat → Bool) : l.countP q + l.countP (fun j => !q j) = l.length := by
  induction l with
  | nil => rfl
  | cons x r ih => simp only [List.countP_cons, List.length_cons]; cases h : q x <;> simp [h] <;> omega
theorem envOf_row {w : World} {s : St} {n : Nat} {φ : (Nat → Bool) → Bool} (hS : StoreAt w s) (h : Fun s n φ) (k : Nat) : φ (envOf (Dd.rowList s.vars k)) = φ (Dd.rowEnv s.vars k) :=
  h.congr hS _ _ fun j hj => by simp [envOf, Dd.rowList, List.getD, hj]

set_option maxRecDepth 100000 in
set_option maxHeartbeats 8000000 in
theorem ends_walk (vars : Nat) (a : Option Addr) (n c : Nat) (hv1 : 1 ≤ vars) (hv5 : vars ≤ 5) (hn : n ≤ 30) (w : World) (hsc : ScrAt w a n) :
    Calls Try.prog 7 #[.int .i64 vars, .slice a n c] w fun e w' => e = .returned (.bool true) ∧ Below w.heap.size w w' := by
  obtain ⟨i0, hi, hz0, hz1, hz2⟩ := info_parts infoMade
  go_enter Try.func7, Try.ntmps7
  go_wp2_with fail
  refine (New_ok w vars 10000 (by omega) (by omega) (by omega)).mono ?_
  rintro e w1 ⟨s0, rfl, hS0, hv0, hb0, hn0, hB0, hup0⟩
  obtain ⟨p, hp⟩ : ∃ p, s0.sb = p := ⟨_, rfl⟩
  rw [hp]
  have R0 : Run w w1 s0 p := ⟨hS0, hB0, hup0, hp⟩
  have L0 : s0.ns.length = 2 := by rw [hn0]; rfl
  have HV0 : Hid (s0.vars = vars ∧ s0.budget = 10000 ∧ s0.ns.length = 2) := ⟨hv0, hb0, L0⟩
  clear hv0 hb0 hn0 hB0 hup0 hp hS0 L0
  go_wp2_with fail
  refine (tConst (vars := vars) w1 false hv5).mono ?_
  rintro e w2 ⟨u, rfl, hN, hb2, hn2⟩
  obtain ⟨ub, uo, ul, uc, rfl⟩ := tab_spelt hN
  go_wp2_with fail
  refine (tConst (vars := vars) w2 true hv5).mono ?_
  rintro e w3 ⟨v, rfl, hY, hb3, hn3⟩
  obtain ⟨vb, vo, vl, vc, rfl⟩ := tab_spelt hY
  obtain ⟨L, LP, HL⟩ := Lp.start R0 HV0.out.2.2 HV0.out.1 HV0.out.2.1 hN hn2 hb2 hY hn3 hb3
  clear hN hn2 hb2 hY hn3 hb3 R0 HV0 HL
  go_wp2_with fail
  generalize w3.alloc (.cells #[.int .i64 0, .slice (some ⟨ub, uo, none⟩) ul uc, .int .i64 1, .slice (some ⟨vb, vo, none⟩) vl vc] 32) = w4 at LP ⊢
  generalize w3.heap.size = lb at LP ⊢
  go_loopw [7, 8, 9, 10, 11] (fun l i _ _ _ wr => ∃ (k : Nat) (s : St) (L : List Mk), k ≤ n ∧ i = .int .i64 k ∧ Lp w wr p vars 10000 k l s L) (fun _ i _ _ _ _ => n - (intOf i).toNat)
  case atStart => exact ⟨0, s0, L, Nat.zero_le _, rfl, LP⟩
  case round =>
    obtain ⟨k, s, L, hk, rfl, LP⟩ := hrel
    obtain ⟨lg, lc, rfl, hlg, hlt⟩ := LP.ap
    by_cases hkn : k < n
    · obtain ⟨sb, so, d, j, f, g, h, b, rfl, hsl, c0, c1, c2, c3, c4, c5, r1, r2, r3, r4⟩ := (hsc.below LP.run.below) k hkn
      go_wp2_with fail
      refine (show Calls Try.prog 11 #[.pointer (some ⟨p, 0, none⟩), .int .i64 vars, .agg #[.int .i64 d, .int .i64 j, .int .i64 f, .int .i64 g, .int .i64 h, .bool b], .slice (some ⟨lg, 0, none⟩) L.length lc] wr (CallPost w wr s p) from (by have := call_any w wr s p _ _ L LP.run (by rw [LP.hv]; exact hv1) (by rw [LP.hv]; exact hv5) LP.made (by have := LP.two; omega) (by have := LP.len; omega) d j f g h b r1 r2 r3 r4; rw [LP.hv] at this; exact this)).mono ?_
      rintro e w5 ⟨r, er, tv, φ, s', rfl, R', hM, hF, hT, hA, hnew, hns, hr, hor⟩
      have hfun : er = 0 ∧ Fun s' r φ := by
        rcases hor with q | ⟨_, _, q⟩
        · exact q
        · have h1 := LP.ns; have h2 := LP.hb; have h3 := pow5 hv5; rw [LP.hv] at hns; omega
      obtain ⟨rfl, hφ⟩ := hfun
      obtain ⟨tb, to, tl, tc, rfl⟩ := tab_spelt hT
      have hown := (LP.made.step LP.run.store R'.store hM hF).own
      have hLP := LP.len
      have hLB := R'.below.size
      clear c0 c1 c2 c3 c4 c5 r1 r2 r3 r4 hor
      go_wp2_with (at_builtin; refine wpList_append_lies _ rfl _ _ 33 rfl w.heap.size 32 i0 (.agg #[.int .i64 0, .slice none 0 0]) 2 32 Try.underlying33 hi hz0 hz1 hz2 rfl (by decide) _ _ _ rfl (hown.alloc _) ⟨w5.heap.size, 0, none⟩ 1 1 [.int .i64 r, .slice (some ⟨tb, to, none⟩) tl tc] rfl rfl ?c1 ?c2 ?c3 ?c4 ?c5 ?c6 (w5.heap.size + 1) ?c7 ?_)
      case c1 => exact World.news_of_block (heap_alloc_new w5 _)
      case c2 => simp [Value.oneCell']
      case c3 => omega
      case c4 => unfold maxLen; omega
      case c5 => omega
      case c6 => simp; omega
      case c7 => simp
      intro g2 cap2 w6 hown6 hgrow6 hat6 _
      obtain ⟨L', LP'⟩ := LP.grown hv5 R' hM hF hT hA hnew hns hφ hown6 hgrow6 hat6
      clear LP hown hown6 hgrow6 hat6 R' hM hF hT hA hnew hns hφ hLP hLB hr hlg hlt hsl
      go_wp2_with fail
      go_roundw
      case rel => exact ⟨k + 1, s', L', by omega, by go_num, LP'⟩
      case measure => simp [intOf]; omega
    · have hke : k = n := by omega
      subst hke
      obtain ⟨m, hm⟩ : ∃ m, L.length = m + 1 := ⟨L.length - 1, by have := LP.two; omega⟩
      obtain ⟨x, hx, mx⟩ := getD_some (show m < L.length by omega)
      have hc := LP.made.cells hx
      have hca := hc.1
      have hx2 := LP.made.all x mx
      have hML := LP.len
      have hmlt : m < L.length := by omega
      obtain ⟨N, hNN⟩ : ∃ N, N = L.length := ⟨_, rfl⟩
      rw [← hNN] at hmlt hML ⊢
      have hsub : (N : Int) - 1 = (m : Int) := by omega
      have hsub2 : wrap64 (m : Int) = (m : Int) := IntWalk.wrap64_in _ (by omega)
      have HM : Hid (L.length = m + 1) := hm
      clear hm hNN hML
      clear hc hx mx
      go_wp2_with fail
      obtain ⟨xn, hxn⟩ : ∃ xn, xn = x.n := ⟨_, rfl⟩
      obtain ⟨φ, hφ⟩ : ∃ φ, φ = x.φ := ⟨_, rfl⟩
      rw [← hxn, ← hφ] at hx2
      rw [← hxn]
      have F0 := hx2.1
      have R0 := LP.run
      have HV0 : Hid (s.vars = vars ∧ s.budget = 10000 ∧ s.ns.length ≤ 3000) := ⟨LP.hv, LP.hb, by have := LP.ns; omega⟩
      clear hx2 hxn hφ hca hsub hsub2 LP hmlt hlg hlt HM
      have hp5 := pow5 hv5
      refine (not_run R0 xn φ F0 (by have := HV0.out; rw [this.1]; omega)).mono ?_
      rintro e w5 ⟨y, s2, rfl, R1, M1, -, L1, G1⟩
      have F1 := F0.more R0.store R1.store M1
      have HV1 : Hid (s2.vars = vars) := M1.vars.trans HV0.out.1
      clear R0 F0 L1 M1 HV0
      go_wp2_with fail
      refine (count_run R1 xn _ F1).mono ?_
      rintro e w6 ⟨rfl, R2, -⟩
      rw [HV1.out]
      clear R1
      go_wp2_with fail
      refine (count_run R2 y _ G1).mono ?_
      rintro e w7 ⟨rfl, R3, -⟩
      rw [HV1.out]
      clear R2
      go_wp2_with fail
      refine (witness_run R3 xn _ F1).mono ?_
      rintro e w8 ⟨vw, bw, rfl, R4, -, hor⟩
      have HOR : Hid _ := hor
      clear R3 hor
      have hsum := countP_not (List.range (2 ^ vars)) (fun j => φ (Dd.rowEnv vars j))
      rw [List.length_range] at hsum
      have hzero : xn = 0 → (List.range (2 ^ vars)).countP (fun j => φ (Dd.rowEnv vars j)) = 0 := fun e => by
        subst e
        rw [List.countP_eq_zero]
        intro j _
        rw [← F1.den, Dd.den_zero]; simp
      have hpos : ∀ k, k < 2 ^ vars → φ (Dd.rowEnv vars k) = true → 0 < (List.range (2 ^ vars)).countP (fun j => φ (Dd.rowEnv vars j)) := fun k hk hv => by
        rw [List.countP_pos_iff]
        exact ⟨k, by simpa using hk, hv⟩
      have hsh := shl_one (v := vars) (by omega)
      obtain ⟨ca, hca⟩ : ∃ ca, ca = (List.range (2 ^ vars)).countP (fun j => φ (Dd.rowEnv vars j)) := ⟨_, rfl⟩
      obtain ⟨cb, hcb⟩ : ∃ cb, cb = (List.range (2 ^ vars)).countP (fun j => !φ (Dd.rowEnv vars j)) := ⟨_, rfl⟩
      rw [← hca] at hsum hzero hpos ⊢
      rw [← hcb] at hsum ⊢
      obtain ⟨P2, hP2⟩ : ∃ P2, P2 = 2 ^ vars := ⟨_, rfl⟩
      rw [← hP2] at hsum hsh hp5 hpos
      have hadd : (ca : Int) + (cb : Int) = (P2 : Int) := by omega
      have hne : ((P2 : Int) != (P2 : Int)) = false := by simp
      have HP2 : Hid (P2 = 2 ^ vars) := hP2
      clear hca hcb hP2 hsum
      rcases HOR.out with ⟨rfl, h0, hs⟩ | ⟨rfl, h0, hap, kw, hk, hk1, hk2, hs⟩
      · have hca := hzero h0
        subst h0 hca
        have hy : y = 1 := G1.eq R4.store (Fun.yes R4.store) (fun env => by rw [← F1.den, Dd.den_zero]; rfl)
        subst hy
        clear hzero hpos hs F1 G1
        go_wp2_with fail
        refine (live_any _).mono ?_
        rintro e w9 ⟨rfl, hb9⟩
        have hB9 := (R4.pure hb9).below
        clear hb9 R4
        go_wp2_with fail
        go_ret
        exact ⟨rfl, hB9⟩
      · rw [HV1.out] at hk hk1 hs
        rw [← HP2.out] at hk
        have hcp := hpos kw hk hk1
        have hg : decide ((0 : Int) < (ca : Int)) = true := by simp; omega
        clear hzero hpos hk2
        go_wp2_with fail
        have ev := envOf_row R4.store F1 kw
        have hlen : (Dd.rowList vars kw).length = vars := by simp [Dd.rowList]
        rw [HV1.out, hk1] at ev
        refine (value_run R4 xn _ F1 vw _ hs (by rw [hlen, HV1.out])).mono ?_
        rintro e w9 ⟨rfl, R5, hb9⟩
        rw [ev]
        have hs9 := hs.below hb9
        clear R4 hb9 hs
        go_wp2_with fail
        refine (value_run R5 y _ G1 vw _ hs9 (by rw [hlen, HV1.out])).mono ?_
        rintro e w10 ⟨rfl, R6, -⟩
        rw [ev]
        clear R5 hs9
        go_wp2_with fail
        refine (live_any _).mono ?_
        rintro e w11 ⟨rfl, hb9⟩
        have hB9 := (R6.pure hb9).below
        clear hb9 R6
        go_wp2_with fail
        go_ret
        exact ⟨rfl, hB9⟩

set_option maxRecDepth 100000 in
set_option maxHeartbeats 2000000 in
theorem ends_out (vars : Int) (a : Option Addr) (n c : Nat) (h : vars < 1 ∨ 5 < vars ∨ 30 < n) (w : World) :
    Calls Try.prog 7 #[.int .i64 vars, .slice a n c] w fun e w' => e = .returned (.bool true) ∧ Below w.heap.size w w' := by
  have hb : (decide (vars < 1) || decide (5 < vars) || decide ((30 : Int) < (n : Int))) = true := by
    rcases h with h | h | h
    · simp [h]
    · simp [h]
    · have : (30 : Int) < (n : Int) := by omega
      simp [this]
  clear h
  go_enter Try.func7, Try.ntmps7
  go_wp2_with fail
  all_goals
    refine (live_any _).mono ?_
    rintro e w1 ⟨rfl, hB⟩
    go_wp2_with fail
    go_ret
    exact ⟨rfl, hB⟩
end Go.Proofs.Ytehknmcoccikhaa
