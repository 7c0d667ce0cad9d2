/- The law BddLaws: its walk. -/
import Derived.Test.YtehknmcoccikhaaNb
namespace Go.Proofs.Ytehknmcoccikhaa
open Go.RowKit
theorem quo_eq (N q : Nat) (h : q = N / 2) : (N : Int).tdiv 2 = (q : Int) := by
  rw [Int.tdiv_eq_ediv_of_nonneg (by omega)]; omega
theorem sub_eq {N m : Nat} (h : N = m + 1) : (N : Int) - 1 = (m : Int) := by omega
theorem w64 {m N k n : Nat} (h : m < N) (h1 : N ≤ 2 + k) (h2 : n ≤ 30) (h3 : k ≤ n) : wrap64 (m : Int) = (m : Int) := IntWalk.wrap64_in _ (by omega)
/-- A store's bounds behind k calls. -/
structure Bd (s : St) (vars k : Nat) : Prop where
  v : s.vars = vars
  b : s.budget = 10000
  n : s.ns.length ≤ 3000 + 64 * k
theorem Bd.next {w : World} {s s' : St} {vars k c : Nat} (h : Bd s vars k) (hv5 : vars ≤ 5) (hM : More w s s') (hl : s'.ns.length ≤ s.ns.length + c) (hc : c ≤ 2 * 2 ^ s.vars) : Bd s' vars (k + 1) := by
  have hp := pow5 hv5
  have := h.n
  rw [h.v] at hc
  exact ⟨hM.vars.trans h.v, hM.budget.trans h.b, by omega⟩
theorem Bd.room {s : St} {vars k c : Nat} (h : Bd s vars k) (hv5 : vars ≤ 5) (hk : k ≤ 50) (hc : c ≤ 2 * 2 ^ s.vars) : s.ns.length + c < s.budget := by
  have hp := pow5 hv5
  have := h.n
  have := h.b
  rw [h.v] at hc
  omega
set_option maxRecDepth 100000 in
set_option maxHeartbeats 8000000 in
theorem laws_walk (vars : Nat) (a : Option Addr) (n c : Nat) (hv1 : 1 ≤ vars) (hv5 : vars ≤ 5) (hn : n ≤ 30) (w : World) (hsc : ScrAt w a n) :
    Calls Try.prog 5 #[.int .i64 vars, .slice a n c] w fun e w' => e = .returned (.bool true) ∧ Below w.heap.size w w' := by
  obtain ⟨i0, hi, hz0, hz1, hz2⟩ := info_parts infoMade
  go_enter Try.func5, Try.ntmps5
  go_wp2_with fail
  refine (New_ok w vars 10000 (by omega) (by omega) (by omega)).mono ?_
  rintro e w1 ⟨s0, rfl, hS0, hv0, hb0, hn0, hB0, hup0⟩
  obtain ⟨p, hp⟩ : ∃ p, s0.sb = p := ⟨_, rfl⟩
  rw [hp]
  have R0 : Run w w1 s0 p := ⟨hS0, hB0, hup0, hp⟩
  have L0 : s0.ns.length = 2 := by rw [hn0]; rfl
  have HV0 : Hid (s0.vars = vars ∧ s0.budget = 10000 ∧ s0.ns.length = 2) := ⟨hv0, hb0, L0⟩
  clear hv0 hb0 hn0 hB0 hup0 hp hS0 L0
  go_wp2_with fail
  refine (tConst (vars := vars) w1 false hv5).mono ?_
  rintro e w2 ⟨u, rfl, hN, hb2, hn2⟩
  obtain ⟨ub, uo, ul, uc, rfl⟩ := tab_spelt hN
  go_wp2_with fail
  refine (tConst (vars := vars) w2 true hv5).mono ?_
  rintro e w3 ⟨v, rfl, hY, hb3, hn3⟩
  obtain ⟨vb, vo, vl, vc, rfl⟩ := tab_spelt hY
  obtain ⟨L, LP, HL⟩ := Lp.start R0 HV0.out.2.2 HV0.out.1 HV0.out.2.1 hN hn2 hb2 hY hn3 hb3
  clear hN hn2 hb2 hY hn3 hb3 R0 HV0 HL
  go_wp2_with fail
  generalize w3.alloc (.cells #[.int .i64 0, .slice (some ⟨ub, uo, none⟩) ul uc, .int .i64 1, .slice (some ⟨vb, vo, none⟩) vl vc] 32) = w4 at LP ⊢
  generalize w3.heap.size = lb at LP ⊢
  go_loopw [7, 8, 9, 10, 11] (fun l i _ _ _ wr => ∃ (k : Nat) (s : St) (L : List Mk), k ≤ n ∧ i = .int .i64 k ∧ Lp w wr p vars 10000 k l s L) (fun _ i _ _ _ _ => n - (intOf i).toNat)
  case atStart => exact ⟨0, s0, L, Nat.zero_le _, rfl, LP⟩
  case round =>
    obtain ⟨k, s, L, hk, rfl, LP⟩ := hrel
    obtain ⟨lg, lc, rfl, hlg, hlt⟩ := LP.ap
    by_cases hkn : k < n
    · obtain ⟨sb, so, d, j, f, g, h, b, rfl, hsl, c0, c1, c2, c3, c4, c5, r1, r2, r3, r4⟩ := (hsc.below LP.run.below) k hkn
      go_wp2_with fail
      refine (show Calls Try.prog 11 #[.pointer (some ⟨p, 0, none⟩), .int .i64 vars, .agg #[.int .i64 d, .int .i64 j, .int .i64 f, .int .i64 g, .int .i64 h, .bool b], .slice (some ⟨lg, 0, none⟩) L.length lc] wr (CallPost w wr s p) from (by have := call_any w wr s p _ _ L LP.run (by rw [LP.hv]; exact hv1) (by rw [LP.hv]; exact hv5) LP.made (by have := LP.two; omega) (by have := LP.len; omega) d j f g h b r1 r2 r3 r4; rw [LP.hv] at this; exact this)).mono ?_
      rintro e w5 ⟨r, er, tv, φ, s', rfl, R', hM, hF, hT, hA, hnew, hns, hr, hor⟩
      have hfun : er = 0 ∧ Fun s' r φ := by
        rcases hor with q | ⟨_, _, q⟩
        · exact q
        · have h1 := LP.ns; have h2 := LP.hb; have h3 := pow5 hv5; rw [LP.hv] at hns; omega
      obtain ⟨rfl, hφ⟩ := hfun
      obtain ⟨tb, to, tl, tc, rfl⟩ := tab_spelt hT
      have hown := (LP.made.step LP.run.store R'.store hM hF).own
      have hLP := LP.len
      have hLB := R'.below.size
      clear c0 c1 c2 c3 c4 c5 r1 r2 r3 r4 hor
      go_wp2_with (at_builtin; refine wpList_append_lies _ rfl _ _ 33 rfl w.heap.size 32 i0 (.agg #[.int .i64 0, .slice none 0 0]) 2 32 Try.underlying33 hi hz0 hz1 hz2 rfl (by decide) _ _ _ rfl (hown.alloc _) ⟨w5.heap.size, 0, none⟩ 1 1 [.int .i64 r, .slice (some ⟨tb, to, none⟩) tl tc] rfl rfl ?c1 ?c2 ?c3 ?c4 ?c5 ?c6 (w5.heap.size + 1) ?c7 ?_)
      case c1 => exact World.news_of_block (heap_alloc_new w5 _)
      case c2 => simp [Value.oneCell']
      case c3 => omega
      case c4 => unfold maxLen; omega
      case c5 => omega
      case c6 => simp; omega
      case c7 => simp
      intro g2 cap2 w6 hown6 hgrow6 hat6 _
      obtain ⟨L', LP'⟩ := LP.grown hv5 R' hM hF hT hA hnew hns hφ hown6 hgrow6 hat6
      clear LP hown hown6 hgrow6 hat6 R' hM hF hT hA hnew hns hφ hLP hLB hr hlg hlt hsl
      go_wp2_with fail
      go_roundw
      case rel => exact ⟨k + 1, s', L', by omega, by go_num, LP'⟩
      case measure => simp [intOf]; omega
    · have hke : k = n := by omega
      subst hke
      obtain ⟨m, hm⟩ : ∃ m, L.length = m + 1 := ⟨L.length - 1, by have := LP.two; omega⟩
      obtain ⟨x, hx, mx⟩ := getD_some (show m < L.length by omega)
      have hc := LP.made.cells hx
      have hca := hc.1
      have hx2 := LP.made.all x mx
      have hML := LP.len
      have hmlt : m < L.length := by omega
      obtain ⟨N, hNN⟩ : ∃ N, N = L.length := ⟨_, rfl⟩
      rw [← hNN] at hmlt hML ⊢
      obtain ⟨q, hq⟩ : ∃ q, q = N / 2 := ⟨_, rfl⟩
      have hqlt : q < N := by omega
      have hql : q < L.length := by omega
      obtain ⟨x', hx', mx'⟩ := getD_some hql
      have hcb := (LP.made.cells hx').1
      have hx3 := LP.made.all x' mx'
      have hquo : ((N : Int).tdiv 2) = (q : Int) := quo_eq N q hq
      have hquo2 : wrap64 (q : Int) = (q : Int) := w64 hqlt hML hn hk
      have hsub : (N : Int) - 1 = (m : Int) := sub_eq (hNN.trans hm)
      have hsub2 : wrap64 (m : Int) = (m : Int) := w64 hmlt hML hn hk
      have HM : Hid (L.length = m + 1) := hm
      clear hm hNN hML hq hql hx'
      clear hc hx mx mx'
      go_wp2_with fail
      obtain ⟨xa, hxa⟩ : ∃ xn, xn = x.n := ⟨_, rfl⟩
      obtain ⟨φ, hφ⟩ : ∃ φ, φ = x.φ := ⟨_, rfl⟩
      obtain ⟨xb, hxb⟩ : ∃ xn, xn = x'.n := ⟨_, rfl⟩
      obtain ⟨ψ, hψ⟩ : ∃ φ, φ = x'.φ := ⟨_, rfl⟩
      rw [← hxa, ← hφ] at hx2
      rw [← hxb, ← hψ] at hx3
      rw [← hxa, ← hxb]
      have A0 := hx2.1
      have B0 := hx3.1
      have R0 := LP.run
      have D0 : Bd s vars 0 := ⟨LP.hv, LP.hb, by have := LP.ns; omega⟩
      clear hx2 hx3 hxa hφ hxb hψ hca hcb hsub hsub2 hquo hquo2 LP hmlt hqlt hlg hlt HM
      refine (not_run R0 xa φ A0 (D0.room hv5 (by omega) (by omega))).mono ?_
      rintro e v1 ⟨na, s1, rfl, R1, M1, -, L1, na1⟩
      have A1 := A0.more (R0).store R1.store M1
      have B1 := B0.more (R0).store R1.store M1
      have D1 := D0.next hv5 M1 L1 (by first | omega | (simp; done) | (simp; omega))
      clear L1 M1 R0 D0 A0 B0
      go_wp2_with fail
      refine (not_run R1 xb ψ B1 (D1.room hv5 (by omega) (by omega))).mono ?_
      rintro e v2 ⟨nb, s2, rfl, R2, M2, -, L2, nb2⟩
      have A2 := A1.more (R1).store R2.store M2
      have B2 := B1.more (R1).store R2.store M2
      have na2 := na1.more (R1).store R2.store M2
      have D2 := D1.next hv5 M2 L2 (by first | omega | (simp; done) | (simp; omega))
      clear L2 M2 R1 D1 A1 B1 na1
      go_wp2_with fail
      refine (not_run R2 na _ na2 (D2.room hv5 (by omega) (by omega))).mono ?_
      rintro e v3 ⟨nna, s3, rfl, R3, M3, -, L3, nna3⟩
      have A3 := A2.more (R2).store R3.store M3
      have B3 := B2.more (R2).store R3.store M3
      have na3 := na2.more (R2).store R3.store M3
      have nb3 := nb2.more (R2).store R3.store M3
      have D3 := D2.next hv5 M3 L3 (by first | omega | (simp; done) | (simp; omega))
      clear L3 M3 R2 D2 A2 B2 na2 nb2
      have he : xa = nna := (nna3.eq R3.store A3 (fun env => by simp)).symm
      subst he
      go_wp2_with fail
      have hBa : Below v3.heap.size v3 (v3.alloc (.cells #[.int .i64 xa, .int .i64 xb] 3)) := (Below.refl _ _).alloc (Nat.le_refl _) _
      refine (and_run (R3.pure hBa) _ [xa, xb] (SlFns.lit (c := 2) (l := [xa, xb]) (heap_alloc_new v3 _) (by simp) (bl_new R3.store (Nat.le_refl _))) (fun env => φ env && ψ env) (by simp; exact ⟨A3.lt, B3.lt⟩) (fun env => by simp [A3.den, B3.den]) (D3.room hv5 (by omega) (by simp))).mono ?_
      rintro e v4 ⟨both, s4, rfl, R4, M4, -, L4, both4⟩
      have A4 := A3.more (R3.pure hBa).store R4.store M4
      have B4 := B3.more (R3.pure hBa).store R4.store M4
      have na4 := na3.more (R3.pure hBa).store R4.store M4
      have nb4 := nb3.more (R3.pure hBa).store R4.store M4
      have D4 := D3.next hv5 M4 L4 (by first | omega | (simp; done) | (simp; omega))
      clear L4 M4 R3 D3 A3 B3 na3 nb3 nna3 hBa
      go_wp2_with fail
      have hBa : Below v4.heap.size v4 (v4.alloc (.cells #[.int .i64 na, .int .i64 nb] 3)) := (Below.refl _ _).alloc (Nat.le_refl _) _
      refine (or_run (R4.pure hBa) _ [na, nb] (SlFns.lit (c := 2) (l := [na, nb]) (heap_alloc_new v4 _) (by simp) (bl_new R4.store (Nat.le_refl _))) (fun env => !φ env || !ψ env) (by simp; exact ⟨na4.lt, nb4.lt⟩) (fun env => by simp [na4.den, nb4.den]) (D4.room hv5 (by omega) (by simp))).mono ?_
      rintro e v5 ⟨either, s5, rfl, R5, M5, -, L5, either5⟩
      have A5 := A4.more (R4.pure hBa).store R5.store M5
      have B5 := B4.more (R4.pure hBa).store R5.store M5
      have na5 := na4.more (R4.pure hBa).store R5.store M5
      have nb5 := nb4.more (R4.pure hBa).store R5.store M5
      have both5 := both4.more (R4.pure hBa).store R5.store M5
      have D5 := D4.next hv5 M5 L5 (by first | omega | (simp; done) | (simp; omega))
      clear L5 M5 R4 D4 A4 B4 na4 nb4 both4 hBa
      go_wp2_with fail
      refine (not_run R5 either _ either5 (D5.room hv5 (by omega) (by omega))).mono ?_
      rintro e v6 ⟨other, s6, rfl, R6, M6, -, L6, other6⟩
      have A6 := A5.more (R5).store R6.store M6
      have B6 := B5.more (R5).store R6.store M6
      have both6 := both5.more (R5).store R6.store M6
      have either6 := either5.more (R5).store R6.store M6
      have D6 := D5.next hv5 M6 L6 (by first | omega | (simp; done) | (simp; omega))
      clear L6 M6 R5 D5 A5 B5 na5 nb5 both5 either5
      have he : both = other := (other6.eq R6.store both6 (fun env => by simp)).symm
      subst he
      go_wp2_with fail
      have hBa : Below v6.heap.size v6 (v6.alloc (.cells #[.int .i64 xa] 3)) := (Below.refl _ _).alloc (Nat.le_refl _) _
      refine (and_run (R6.pure hBa) _ [xa] (SlFns.lit (c := 1) (l := [xa]) (heap_alloc_new v6 _) (by simp) (bl_new R6.store (Nat.le_refl _))) φ (by simp; exact A6.lt) (fun env => by simp [A6.den]) (D6.room hv5 (by omega) (by simp; omega))).mono ?_
      rintro e v7 ⟨one, s7, rfl, R7, M7, -, L7, one7⟩
      have A7 := A6.more (R6.pure hBa).store R7.store M7
      have B7 := B6.more (R6.pure hBa).store R7.store M7
      have D7 := D6.next hv5 M7 L7 (by first | omega | (simp; done) | (simp; omega))
      clear L7 M7 R6 D6 A6 B6 both6 either6 other6 hBa
      have he : xa = one := (one7.eq R7.store A7 (fun env => rfl)).symm
      subst he
      go_wp2_with fail
      refine (ite_run R7 xa xa xb φ φ ψ A7 A7 B7 (D7.room hv5 (by omega) (by omega))).mono ?_
      rintro e v8 ⟨ite, s8, rfl, R8, M8, -, L8, ite8⟩
      have A8 := A7.more (R7).store R8.store M8
      have B8 := B7.more (R7).store R8.store M8
      have D8 := D7.next hv5 M8 L8 (by first | omega | (simp; done) | (simp; omega))
      clear L8 M8 R7 D7 A7 B7 one7
      go_wp2_with fail
      have hBa : Below v8.heap.size v8 (v8.alloc (.cells #[.int .i64 xa, .int .i64 xb] 3)) := (Below.refl _ _).alloc (Nat.le_refl _) _
      refine (or_run (R8.pure hBa) _ [xa, xb] (SlFns.lit (c := 2) (l := [xa, xb]) (heap_alloc_new v8 _) (by simp) (bl_new R8.store (Nat.le_refl _))) (fun env => φ env || ψ env) (by simp; exact ⟨A8.lt, B8.lt⟩) (fun env => by simp [A8.den, B8.den]) (D8.room hv5 (by omega) (by simp))).mono ?_
      rintro e v9 ⟨or2, s9, rfl, R9, M9, -, L9, or29⟩
      have A9 := A8.more (R8.pure hBa).store R9.store M9
      have B9 := B8.more (R8.pure hBa).store R9.store M9
      have ite9 := ite8.more (R8.pure hBa).store R9.store M9
      have D9 := D8.next hv5 M9 L9 (by first | omega | (simp; done) | (simp; omega))
      clear L9 M9 R8 D8 A8 B8 ite8 hBa
      have he : ite = or2 := (or29.eq R9.store ite9 (fun env => by cases φ env <;> rfl)).symm
      subst he
      go_wp2_with fail
      refine (or_run R9 _ [] (Or.inl ⟨rfl, rfl⟩) (fun _ => false) (by simp) (fun env => rfl) (D9.room hv5 (by omega) (by simp))).mono ?_
      rintro e v10 ⟨nul, s10, rfl, R10, M10, -, L10, nul10⟩
      have D10 := D9.next hv5 M10 L10 (by first | omega | (simp; done) | (simp; omega))
      clear L10 M10 R9 D9 A9 B9 ite9 or29
      have he : nul = 0 := nul10.eq R10.store (Fun.no R10.store) (fun env => rfl)
      subst he
      go_wp2_with fail
      refine (and_run R10 _ [] (Or.inl ⟨rfl, rfl⟩) (fun _ => true) (by simp) (fun env => rfl) (D10.room hv5 (by omega) (by simp))).mono ?_
      rintro e v11 ⟨every, s11, rfl, R11, M11, -, L11, every11⟩
      have D11 := D10.next hv5 M11 L11 (by first | omega | (simp; done) | (simp; omega))
      clear L11 M11 R10 D10 nul10
      have he : every = 1 := every11.eq R11.store (Fun.yes R11.store) (fun env => rfl)
      subst he
      go_wp2_with fail
      refine (live_any _).mono ?_
      rintro e w9 ⟨rfl, hb9⟩
      have hB9 := (R11.pure hb9).below
      go_wp2_with fail
      go_ret
      exact ⟨rfl, hB9⟩

set_option maxRecDepth 100000 in
set_option maxHeartbeats 2000000 in
theorem laws_out (vars : Int) (a : Option Addr) (n c : Nat) (h : vars < 1 ∨ 5 < vars ∨ 30 < n) (w : World) :
    Calls Try.prog 5 #[.int .i64 vars, .slice a n c] w fun e w' => e = .returned (.bool true) ∧ Below w.heap.size w w' := by
  have hb : (decide (vars < 1) || decide (5 < vars) || decide ((30 : Int) < (n : Int))) = true := by
    rcases h with h | h | h
    · simp [h]
    · simp [h]
    · have : (30 : Int) < (n : Int) := by omega
      simp [this]
  clear h
  go_enter Try.func5, Try.ntmps5
  go_wp2_with fail
  all_goals
    refine (live_any _).mono ?_
    rintro e w1 ⟨rfl, hB⟩
    go_wp2_with fail
    go_ret
    exact ⟨rfl, hB⟩
end Go.Proofs.Ytehknmcoccikhaa
