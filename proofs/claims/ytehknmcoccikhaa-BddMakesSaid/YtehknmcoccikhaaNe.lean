/- The laws' look at all that was made. -/
import Derived.Test.YtehknmcoccikhaaNa
import Derived.Test.YtehknmcoccikhaaNb
namespace Go.Proofs.Ytehknmcoccikhaa
open Go.RowKit

theorem row_all : ∀ (n : Nat) (env : Nat → Bool), ∃ k, k < 2 ^ n ∧ ∀ j, j < n → Dd.rowEnv n k j = env j
  | 0, _ => ⟨0, by simp, fun j hj => by omega⟩
  | n + 1, env => by
    obtain ⟨k, hk, h⟩ := row_all n (fun j => env (j + 1))
    have e : 2 ^ (n + 1) = 2 ^ n + 2 ^ n := by rw [Nat.pow_succ]; omega
    by_cases h0 : env 0 = true
    · refine ⟨2 ^ n + k, by omega, fun j hj => ?_⟩
      unfold Dd.rowEnv
      cases j with
      | zero => rw [h0]; rw [show n + 1 - 1 - 0 = n by omega, Nat.testBit_two_pow_add_eq, Nat.testBit_lt_two_pow hk]; rfl
      | succ j =>
        rw [Nat.testBit_two_pow_add_gt (by omega), ← h j (by omega)]
        unfold Dd.rowEnv
        rw [show n + 1 - 1 - (j + 1) = n - 1 - j by omega]
    · refine ⟨k, by omega, fun j hj => ?_⟩
      unfold Dd.rowEnv
      cases j with
      | zero => rw [show n + 1 - 1 - 0 = n by omega, Nat.testBit_lt_two_pow hk]; simp at h0; rw [h0]
      | succ j =>
        rw [← h j (by omega)]
        unfold Dd.rowEnv
        rw [show n + 1 - 1 - (j + 1) = n - 1 - j by omega]

/-- Two functions have one table just if they have one node. -/
theorem tab_inj {w : World} {s : St} {a b : Nat} {φ ψ : (Nat → Bool) → Bool} (hS : StoreAt w s) (ha : Fun s a φ) (hb : Fun s b ψ) : (a = b) ↔ tab s.vars φ = tab s.vars ψ := by
  constructor
  · rintro rfl
    have : ∀ env, φ env = ψ env := fun env => by rw [← ha.den, ← hb.den]
    unfold tab
    exact List.map_congr_left fun k _ => this _
  · intro h
    refine Fun.eq hS ha hb fun env => ?_
    obtain ⟨k, hk, hr⟩ := row_all s.vars env
    rw [ha.congr hS env (Dd.rowEnv s.vars k) (fun j hj => (hr j hj).symm), hb.congr hS env (Dd.rowEnv s.vars k) (fun j hj => (hr j hj).symm)]
    rw [← tab_get s.vars φ k hk, ← tab_get s.vars ψ k hk, h]

theorem tab_count (vars : Nat) (φ : (Nat → Bool) → Bool) : (tab vars φ).countP (fun b => b) = (List.range (2 ^ vars)).countP (fun j => φ (Dd.rowEnv vars j)) := by
  unfold tab; rw [List.countP_map]; rfl

/-- A made function's cells. -/
theorem MadeAt.item {w : World} {s : St} {base g c : Nat} {L : List Mk} (h : MadeAt w s base (.slice (some ⟨g, 0, none⟩) L.length c) L) {k : Nat} (hk : k < L.length) :
    ∃ x, L[k]? = some x ∧ w.cell? ⟨g, k * 2, none⟩ = some (.int .i64 x.n) ∧ w.cell? ⟨g, k * 2 + 1, none⟩ = some (.slice (some ⟨x.tb, x.tof, none⟩) x.tl x.tc) ∧ Fun s x.n x.φ ∧ x.tl = 2 ^ s.vars ∧ SlBools w x.t (tab s.vars x.φ) ∧
      ∀ j, j < 2 ^ s.vars → w.cell? ⟨x.tb, x.tof + j, none⟩ = some (.bool (x.φ (Dd.rowEnv s.vars j))) := by
  obtain ⟨x, hx, mx⟩ := getD_some hk
  have hc := h.cells hx
  obtain ⟨hF, hT, _⟩ := h.all x mx
  have hl := tab_length s.vars x.φ
  have hp : 0 < 2 ^ s.vars := Nat.pow_pos (by omega)
  obtain ⟨b, o, c, h1, h2, h3⟩ := hT.some (by omega)
  have e : x.tb = b ∧ x.tof = o ∧ x.tl = (tab s.vars x.φ).length := by simp [Mk.t] at h1; exact ⟨h1.1.1, h1.1.2, h1.2.1⟩
  refine ⟨x, hx, hc.1, hc.2, hF, e.2.2.trans hl, hT, fun j hj => ?_⟩
  rw [e.1, e.2.1, h3 j (by omega), tab_get _ _ _ hj]

/-- The store's witness and the document's are one. -/
theorem witness_same {w w3 : World} {s : St} {n vars : Nat} {φ : (Nat → Bool) → Bool} {vw vd : Value} {bw bd : Bool} (hS : StoreAt w s) (F : Fun s n φ)
    (h : (bw = false ∧ n = 0 ∧ SlBools w3 vw []) ∨ (bw = true ∧ n ≠ 0 ∧ Apart s vw ∧ ∃ k, k < 2 ^ s.vars ∧ φ (Dd.rowEnv s.vars k) = true ∧ (∀ j, j < k → φ (Dd.rowEnv s.vars j) = false) ∧ SlBools w3 vw (Dd.rowList s.vars k)))
    (h2 : (bd = false ∧ SlBools w vd [] ∧ ∀ k, k < (tab s.vars φ).length → (tab s.vars φ).getD k false = false) ∨ (bd = true ∧ ∃ k, k < (tab s.vars φ).length ∧ (tab s.vars φ).getD k false = true ∧ (∀ j, j < k → (tab s.vars φ).getD j false = false) ∧ SlBools w vd (Dd.rowList vars k)))
    (hk : ∀ l, SlBools w3 vw l → SlBools w vw l) (hv : s.vars = vars) (hv5 : vars ≤ 5) : bw = bd ∧ ∃ l, SlBools w vw l ∧ SlBools w vd l ∧ l.length ≤ 1000 := by
  rw [tab_length] at h2
  rcases h with ⟨rfl, h0, hs⟩ | ⟨rfl, h0, _, k, hk1, hk2, hk3, hs⟩
  · rcases h2 with ⟨rfl, hs2, _⟩ | ⟨rfl, q, hq, hq2, _⟩
    · exact ⟨rfl, [], hk _ hs, hs2, by simp⟩
    · exfalso
      rw [tab_get _ _ _ hq, ← F.den, h0, Dd.den_zero] at hq2
      cases hq2
  · rcases h2 with ⟨rfl, _, hn⟩ | ⟨rfl, q, hq, hq2, hq3, hs2⟩
    · exfalso
      have := hn k hk1
      rw [tab_get _ _ _ hk1, hk2] at this
      cases this
    · have e : k = q := by
        rcases Nat.lt_trichotomy k q with hlt | rfl | hgt
        · have := hq3 k hlt
          rw [tab_get _ _ _ hk1, hk2] at this; cases this
        · rfl
        · have := hk3 q hgt
          rw [tab_get _ _ _ hq, this] at hq2; cases hq2
      subst e
      rw [hv] at hs
      exact ⟨rfl, _, hk _ hs, hs2, by simp [Dd.rowList]; omega⟩

set_option maxRecDepth 100000 in
set_option maxHeartbeats 8000000 in
theorem all_any (w0 w : World) (s : St) (p base vars : Nat) (lv : Value) (L : List Mk) (R : Run w0 w s p) (hvv : s.vars = vars) (hv1 : 1 ≤ vars) (hv5 : vars ≤ 5) (M : MadeAt w s base lv L) (hL0 : 0 < L.length) (hL : L.length ≤ 1000) :
    Calls Try.prog 13 #[.pointer (some ⟨p, 0, none⟩), .int .i64 vars, lv] w fun e w' => e = .returned (.bool true) ∧ Run w0 w' s p := by
  obtain ⟨lb, c, rfl, hlb, hln, -⟩ := M.form hL0
  have HV : Hid (s.vars = vars) := hvv
  have hp5 := pow5 hv5
  clear hvv
  obtain ⟨N, hN⟩ : ∃ N, N = 2 ^ vars := ⟨_, rfl⟩
  rw [← hN] at hp5
  have HN : Hid (N = 2 ^ vars) := hN
  clear hN hln hlb
  go_enter Try.func13, Try.ntmps13
  go_wp2_with fail
  go_loopw [7, 8, 9, 10, 11, 12, 13, 14, 15, 16, 17] (fun i _ _ _ _ _ _ _ _ _ _ wr => ∃ k : Nat, k ≤ L.length ∧ i = .int .i64 k ∧ Run w0 wr s p ∧ MadeAt wr s base (.slice (some ⟨lb, 0, none⟩) L.length c) L) (fun i _ _ _ _ _ _ _ _ _ _ _ => L.length - (intOf i).toNat)
  case atStart => exact ⟨0, Nat.zero_le _, rfl, R, M⟩
  case round =>
    clear R M
    obtain ⟨k, hk, rfl, R, M⟩ := hrel
    by_cases hkn : k < L.length
    · have hk0 : (0 : Int) ≤ (k : Int) := by omega
      have hk1 : (k : Int) < (L.length : Int) := by omega
      go_wp2_with fail
      obtain ⟨wo, hwo⟩ : ∃ wo : World, wo = wr := ⟨_, rfl⟩
      subst hwo
      go_loopw [8, 9, 10] (fun j _ _ wr => ∃ q : Nat, q ≤ N ∧ j = .int .i64 q ∧ Run w0 wr s p ∧ MadeAt wr s base (.slice (some ⟨lb, 0, none⟩) L.length c) L) (fun j _ _ _ => N - (intOf j).toNat)
      case atStart => exact ⟨0, Nat.zero_le _, rfl, R, M⟩
      case round =>
        clear R M
        obtain ⟨q, hq, rfl, R, M⟩ := hrel
        obtain ⟨x, hx, c0, c1, F, hl, hT, hc⟩ := M.item hkn
        rw [HV.out, ← HN.out] at hl hc
        have HL : Hid (x.tl = N) := hl
        obtain ⟨n, hn⟩ : ∃ n, n = x.n := ⟨_, rfl⟩
        obtain ⟨tb, htb⟩ : ∃ n, n = x.tb := ⟨_, rfl⟩
        obtain ⟨tof, hto⟩ : ∃ n, n = x.tof := ⟨_, rfl⟩
        obtain ⟨tc, htc⟩ : ∃ n, n = x.tc := ⟨_, rfl⟩
        obtain ⟨φ, hφ⟩ : ∃ n, n = x.φ := ⟨_, rfl⟩
        rw [← hn] at c0 F
        rw [hl, ← htb, ← hto, ← htc] at c1
        rw [← htb, ← hto, ← hφ] at hc
        rw [← hφ] at F
        have HS : Hid (∀ w', SlBools w' x.t (tab s.vars x.φ) → SlBools w' (.slice (some ⟨tb, tof, none⟩) N tc) (tab s.vars φ)) := fun w' h => by
          rw [htb, hto, htc, ← hl, hφ]; exact h
        have hT' := hT
        clear hn htb hto htc hφ hl HL hT hx
        by_cases hqn : q < N
        · have cq := hc q hqn
          have hq0 : (0 : Int) ≤ (q : Int) := by omega
          have hq1 : (q : Int) < (N : Int) := by omega
          have ev := envOf_row R.store F q
          rw [HV.out] at ev
          have hlen : (Dd.rowList vars q).length = s.vars := by rw [HV.out]; simp [Dd.rowList]
          have EV : Hid (φ (envOf (Dd.rowList vars q)) = φ (Dd.rowEnv vars q) ∧ (Dd.rowList vars q).length = s.vars) := ⟨ev, hlen⟩
          clear hc HS ev hlen hT'
          have llt := World.block_lt_of_cell? wr _ c0
          have tlt := World.block_lt_of_cell? wr _ cq
          go_wp2_with fail
          have R1 := R.pure (Below.refl wr.heap.size wr).drew
          have M1 := M.below R.store (Below.refl wr.heap.size wr).drew
          have HK1 : wr.drew.cell? ⟨lb, k * 2, none⟩ = some (.int .i64 n) := ((Below.refl wr.heap.size wr).drew.cell llt).trans c0
          go_region_held3 (fun w' => w'.cell? ⟨lb, k * 2, none⟩ = some (.int .i64 n))
            (first | exact HK3 | exact HK2 | exact HK1 | exact c0)
            (first
              | (go_at_call 14; refine (value_run R2 n φ F v _ hs2 EV.out.2).mono ?_; rintro e w3 ⟨rfl, R3, hb3⟩; have HK3 : w3.cell? ⟨lb, k * 2, none⟩ = some (.int .i64 n) := (hb3.cell (Nat.lt_of_lt_of_le llt hb2.size)).trans HK2)
              | (go_at_call 29; refine (Row_any wr.drew q vars (by omega)).mono ?_; rintro e w2 ⟨v, rfl, hs2, hb2⟩; have R2 := R1.pure hb2; have HK2 : w2.cell? ⟨lb, k * 2, none⟩ = some (.int .i64 n) := (hb2.cell llt).trans HK1))
          rw [EV.out.1]
          have M3 := M1.below R1.store (hb2.trans (hb3.mono hb2.size))
          have cq3 : w3.cell? ⟨tb, tof + q, none⟩ = some (.bool (φ (Dd.rowEnv vars q))) := (hb3.cell (Nat.lt_of_lt_of_le tlt hb2.size)).trans ((hb2.cell tlt).trans (((Below.refl wr.heap.size wr).drew.cell tlt).trans cq))
          have c13 : w3.cell? ⟨lb, k * 2 + 1, none⟩ = some (.slice (some ⟨tb, tof, none⟩) N tc) := (hb3.cell (Nat.lt_of_lt_of_le llt hb2.size)).trans ((hb2.cell llt).trans (((Below.refl wr.heap.size wr).drew.cell llt).trans c1))
          clear HK1 HK2 HK3 R1 R2 M1 c0 c1 cq hs2 hb2 hb3 R M F EV llt tlt
          generalize φ (Dd.rowEnv vars q) = b at cq3 ⊢
          have hbb : (b != b) = false := by simp
          go_wp2_with fail
          go_roundw
          case rel => exact ⟨q + 1, by omega, by go_num, R3, M3⟩
          case measure => simp [intOf]; omega
        · have hqe : q = N := by omega
          subst hqe
          have hSL := HS.out wr hT'
          clear hc HS hT'
          have llt := World.block_lt_of_cell? wr _ c0
          go_wp2_with fail
          refine (count_run R n φ F).mono ?_
          rintro e w2 ⟨rfl, R2, hb2⟩
          rw [HV.out, ← HN.out]
          have M2 := M.below R.store hb2
          have d0 : w2.cell? ⟨lb, k * 2, none⟩ = some (.int .i64 n) := (hb2.cell llt).trans c0
          have d1 : w2.cell? ⟨lb, k * 2 + 1, none⟩ = some (.slice (some ⟨tb, tof, none⟩) q tc) := (hb2.cell llt).trans c1
          have hS2 := hSL.below hb2
          have l2 := Nat.lt_of_lt_of_le llt hb2.size
          clear c0 c1 hSL R M hb2 llt
          go_wp2_with fail
          refine (witness_run R2 n φ F).mono ?_
          rintro e w3 ⟨vw, bw, rfl, R3, hb3, hor⟩
          have HOR : Hid _ := hor
          have M3 := M2.below R2.store hb3
          have c1 : w3.cell? ⟨lb, k * 2 + 1, none⟩ = some (.slice (some ⟨tb, tof, none⟩) q tc) := (hb3.cell l2).trans d1
          have hS3 := hS2.below hb3
          have l3 := Nat.lt_of_lt_of_le l2 hb3.size
          clear d0 d1 hS2 R2 M2 hb3 l2 hor
          go_wp2_with fail
          refine (rWitness_any w3 _ (tab s.vars φ) vars (by omega) hS3 (by rw [tab_length, HV.out, ← HN.out]; omega)).mono ?_
          rintro e w4 ⟨vd, bd, rfl, hb4, hor2⟩
          have HOR2 : Hid _ := hor2
          have R4 := R3.pure hb4
          have M4 := M3.below R3.store hb4
          have d1 : w4.cell? ⟨lb, k * 2 + 1, none⟩ = some (.slice (some ⟨tb, tof, none⟩) q tc) := (hb4.cell l3).trans c1
          have hS4 := hS3.below hb4
          have l4 := Nat.lt_of_lt_of_le l3 hb4.size
          have HW4 : Hid (∀ l, SlBools w3 vw l → SlBools w4 vw l) := fun l h => h.below hb4
          clear c1 hS3 R3 M3 hb4 l3 hor2
          go_wp2_with fail
          refine (rCount_any w4 _ (tab s.vars φ) hS4 (by rw [tab_length, HV.out, ← HN.out]; omega)).mono ?_
          rintro e w5 ⟨rfl, hW⟩
          subst hW
          rw [tab_count, HV.out, ← HN.out]
          generalize (List.range q).countP (fun j => φ (Dd.rowEnv vars j)) = cn
          have hcc : ((cn : Int) != (cn : Int)) = false := by simp
          have HAA : Hid (bw = bd ∧ ∃ l, SlBools w5 vw l ∧ SlBools w5 vd l ∧ l.length ≤ 1000) := witness_same R4.store F HOR.out HOR2.out HW4.out HV.out hv5
          obtain ⟨e1, l, ha, hb, hlen⟩ := HAA.out
          subst e1
          have hbb : (bw != bw) = false := by simp
          clear HOR HOR2 HW4 HAA
          go_wp2_with fail
          refine (Same_any w5 vw vd l l ha hb (by omega)).mono ?_
          rintro e w6 ⟨rfl, hb6⟩
          have htt : decide (l = l) = true := by simp
          rw [htt]
          have R6 := R4.pure hb6
          have M6 := M4.below R4.store hb6
          clear htt ha hb hlen hb6 d1 hS4 l4 R4 M4
          go_wp2_with fail
          obtain ⟨wi, hwi⟩ : ∃ wi : World, wi = w6 := ⟨_, rfl⟩
          subst hwi
          go_loopw [17] (fun z wr => ∃ r : Nat, r ≤ k ∧ z = .int .i64 r ∧ Run w0 wr s p ∧ MadeAt wr s base (.slice (some ⟨lb, 0, none⟩) L.length c) L) (fun z _ => k - (intOf z).toNat)
          case atStart => exact ⟨0, Nat.zero_le _, rfl, R6, M6⟩
          case round =>
            clear R6 M6 F
            obtain ⟨r, hr, rfl, R, M⟩ := hrel
            by_cases hrk : r < k
            · obtain ⟨x, hx, a0, a1, F, hl, hT, -⟩ := M.item hkn
              obtain ⟨y, hy, b0, b1, G, hl2, hU, -⟩ := M.item (show r < L.length by omega)
              have EQ : Hid ((y.n = x.n) ↔ tab s.vars y.φ = tab s.vars x.φ) := tab_inj R.store G F
              have S1 : Hid (SlBools wr x.t (tab s.vars x.φ)) := hT
              have S2 : Hid (SlBools wr y.t (tab s.vars y.φ)) := hU
              have LT : Hid ((tab s.vars y.φ).length ≤ 1073741824) := by show _ ≤ _; rw [tab_length, HV.out, ← HN.out]; omega
              have hr0 : (0 : Int) ≤ (r : Int) := by omega
              have hr1 : (r : Int) < (L.length : Int) := by omega
              have llt := World.block_lt_of_cell? wr _ a0
              clear F G hl hl2 hT hU hx hy
              have bD := (Below.refl wr.heap.size wr).drew
              have llt2 := World.block_lt_of_cell? wr _ b0
              have llt3 := World.block_lt_of_cell? wr _ a1
              have llt4 := World.block_lt_of_cell? wr _ b1
              have HK1 : wr.drew.cell? ⟨lb, k * 2, none⟩ = some (.int .i64 x.n) ∧ wr.drew.cell? ⟨lb, r * 2, none⟩ = some (.int .i64 y.n) ∧ wr.drew.cell? ⟨lb, k * 2 + 1, none⟩ = some (.slice (some ⟨x.tb, x.tof, none⟩) x.tl x.tc) ∧ wr.drew.cell? ⟨lb, r * 2 + 1, none⟩ = some (.slice (some ⟨y.tb, y.tof, none⟩) y.tl y.tc) := ⟨(bD.cell llt).trans a0, (bD.cell llt2).trans b0, (bD.cell llt3).trans a1, (bD.cell llt4).trans b1⟩
              go_wp2_with fail
              go_region_held3 (fun w' => w'.cell? ⟨lb, k * 2, none⟩ = some (.int .i64 x.n) ∧ w'.cell? ⟨lb, r * 2, none⟩ = some (.int .i64 y.n) ∧ w'.cell? ⟨lb, k * 2 + 1, none⟩ = some (.slice (some ⟨x.tb, x.tof, none⟩) x.tl x.tc) ∧ w'.cell? ⟨lb, r * 2 + 1, none⟩ = some (.slice (some ⟨y.tb, y.tof, none⟩) y.tl y.tc))
                (first | exact HK2 | exact HK1 | exact ⟨a0, b0, a1, b1⟩)
                ((go_at_call 23; refine (Same_any wr.drew (.slice (some ⟨y.tb, y.tof, none⟩) y.tl y.tc) (.slice (some ⟨x.tb, x.tof, none⟩) x.tl x.tc) (tab s.vars y.φ) (tab s.vars x.φ) (S2.out.below bD) (S1.out.below bD) LT.out).mono ?_; rintro e w2 ⟨rfl, hb2⟩; have HK2 : w2.cell? ⟨lb, k * 2, none⟩ = some (.int .i64 x.n) ∧ w2.cell? ⟨lb, r * 2, none⟩ = some (.int .i64 y.n) ∧ w2.cell? ⟨lb, k * 2 + 1, none⟩ = some (.slice (some ⟨x.tb, x.tof, none⟩) x.tl x.tc) ∧ w2.cell? ⟨lb, r * 2 + 1, none⟩ = some (.slice (some ⟨y.tb, y.tof, none⟩) y.tl y.tc) := ⟨(hb2.cell llt).trans HK1.1, (hb2.cell llt2).trans HK1.2.1, (hb2.cell llt3).trans HK1.2.2.1, (hb2.cell llt4).trans HK1.2.2.2⟩))
              have BB := bD.trans hb2
              have R2 := R.pure BB
              have M2 := M.below R.store BB
              have HE : Hid (((y.n : Int) == (x.n : Int)) = decide (tab s.vars y.φ = tab s.vars x.φ)) := by
                show _ = _
                rw [Bool.eq_iff_iff]; simp only [beq_iff_eq, decide_eq_true_eq]
                rw [← EQ.out]
                omega
              clear R M HK1 HK2 a0 a1 b0 b1 EQ S1 S2 LT hb2 bD BB llt llt2 llt3 llt4
              generalize decide (tab s.vars y.φ = tab s.vars x.φ) = b at HE ⊢
              rw [HE.out]
              have hbb : (b != b) = false := by simp
              go_wp2_with fail
              · rename_i h
                cases b <;> simp at h
              · exact ⟨⟨r + 1, by omega, by go_num, R2, M2⟩, by simp [intOf]; omega⟩
            · have hre : r = k := by omega
              subst hre
              go_wp2_with fail
              go_roundw
              case rel => exact ⟨r + 1, by omega, by go_num, R, M⟩
              case measure => simp [intOf]; omega
    · have hke : k = L.length := by omega
      subst hke
      go_wp2_with fail
      go_ret
      exact ⟨rfl, R⟩
end Go.Proofs.Ytehknmcoccikhaa
