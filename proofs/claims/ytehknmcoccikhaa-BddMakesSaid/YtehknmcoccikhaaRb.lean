/- Walks of the reference: Count, Same, Row, Witness; pick. -/
import Derived.Test.YtehknmcoccikhaaRa
namespace Go.Proofs.Ytehknmcoccikhaa
open Go.RowKit

theorem countP_take (l : List Bool) (k : Nat) (hk : k < l.length) : (l.take (k + 1)).countP (fun b => b) = (l.take k).countP (fun b => b) + if l.getD k false then 1 else 0 := by
  rw [List.take_succ_eq_append_getElem hk, List.countP_append]
  simp [List.getD, hk, List.countP_cons]

set_option maxHeartbeats 400000 in
theorem rCount_any (w : World) (vf : Value) (f : List Bool) (hf : SlBools w vf f) (hn : f.length ≤ 1073741824) :
    Calls Try.prog 31 #[vf] w fun e w' => e = .returned (.int .i64 (f.countP (fun b => b) : Nat)) ∧ w' = w := by
  obtain ⟨a, c, hv, hcell⟩ : ∃ a c, vf = .slice a f.length c ∧ ∀ i, i < f.length → ∃ b o, a = some ⟨b, o, none⟩ ∧ w.cell? ⟨b, o + i, none⟩ = some (.bool (f.getD i false)) := by
    rcases hf with ⟨rfl, rfl⟩ | ⟨b, o, c, rfl, _, hc⟩
    · exact ⟨none, 0, rfl, fun i hi => by simp at hi⟩
    · exact ⟨_, c, rfl, fun i hi => ⟨b, o, rfl, hc i hi⟩⟩
  subst hv
  obtain ⟨n, hl⟩ : ∃ n, n = f.length := ⟨_, rfl⟩
  rw [← hl] at hn hcell ⊢
  have HL : Hid (n = f.length) := hl
  clear hl hf
  go_enter Try.func31, Try.ntmps31
  go_wp2_with fail
  go_loop [3, 4] (fun c i => ∃ k : Nat, k ≤ n ∧ i = .int .i64 k ∧ c = .int .i64 ((f.take k).countP (fun b => b) : Nat)) (fun _ i => n - (intOf i).toNat)
  case atStart => exact ⟨0, Nat.zero_le _, rfl, by simp⟩
  case round =>
    obtain ⟨k, hk, rfl, rfl⟩ := hrel
    by_cases hlt : k < n
    · obtain ⟨b, o, ha, hc⟩ := hcell k hlt
      subst ha
      have hs := countP_take f k (by have := HL.out; omega)
      have hb : (f.take k).countP (fun b => b) ≤ n := by
        have := List.countP_le_length (p := fun b : Bool => b) (l := f.take k)
        have h2 := HL.out
        simp at this; omega
      obtain ⟨x, hx⟩ : ∃ x, x = f.getD k false := ⟨_, rfl⟩
      obtain ⟨cn, hcn⟩ : ∃ cn, cn = (f.take k).countP (fun b => b) := ⟨_, rfl⟩
      rw [← hx] at hc hs
      rw [← hcn] at hs hb ⊢
      have HS : Hid ((f.take (k + 1)).countP (fun b => b) = cn + if x then 1 else 0) := hs
      clear hs hx hcn hcell
      cases x
      · go_wp2_with fail
        go_round
        case rel => exact ⟨k + 1, by omega, by go_num, by rw [HS.out]; rfl⟩
        case measure => simp [intOf]; omega
      · go_wp2_with fail
        go_round
        case rel => exact ⟨k + 1, by omega, by go_num, by rw [HS.out]; rfl⟩
        case measure => simp [intOf]; omega
    · have hke : k = n := by omega
      subst hke
      have hT : (f.take k).countP (fun b => b) = f.countP (fun b => b) := by rw [HL.out, List.take_length]
      rw [hT]
      clear hT
      go_wp2_with fail
      go_ret
      exact ⟨rfl, rfl⟩

/-- How a slice of bools that can be read is spelt. -/
theorem SlBools.form {w : World} {v : Value} {l : List Bool} (h : SlBools w v l) : ∃ a c, v = .slice a l.length c ∧ ∀ w', Below w.heap.size w w' → ∀ i, i < l.length → ∃ b o, a = Option.some ⟨b, o, none⟩ ∧ w'.cell? ⟨b, o + i, none⟩ = Option.some (.bool (l.getD i false)) := by
  rcases h with ⟨rfl, rfl⟩ | ⟨b, o, c, rfl, hb, hc⟩
  · exact ⟨none, 0, rfl, fun _ _ i hi => by simp at hi⟩
  · exact ⟨_, c, rfl, fun w' hw i hi => ⟨b, o, rfl, (hw.cell (p := ⟨b, o + i, none⟩) hb).trans (hc i hi)⟩⟩

theorem take_eq_succ (a b : List Bool) (k : Nat) (ha : k < a.length) (hb : k < b.length) (h : a.take k = b.take k) : (a.take (k + 1) = b.take (k + 1)) ↔ a.getD k false = b.getD k false := by
  rw [List.take_succ_eq_append_getElem ha, List.take_succ_eq_append_getElem hb, h]
  have e1 : a.getD k false = a[k] := by simp [List.getD, ha]
  have e2 : b.getD k false = b[k] := by simp [List.getD, hb]
  rw [e1, e2]
  constructor
  · intro q; have := List.append_cancel_left q; simpa using this
  · intro q; rw [q]

set_option maxHeartbeats 1000000 in
theorem Same_any (w : World) (va vb : Value) (a b : List Bool) (ha : SlBools w va a) (hb : SlBools w vb b) (hla : a.length ≤ 1073741824) :
    Calls Try.prog 23 #[va, vb] w fun e w' => e = .returned (.bool (decide (a = b))) ∧ Below w.heap.size w w' := by
  obtain ⟨pa, ca, rfl, hca⟩ := ha.form
  obtain ⟨pb, cb, rfl, hcb⟩ := hb.form
  clear ha hb
  by_cases hl : a.length = b.length
  · obtain ⟨n, hn⟩ : ∃ n, n = a.length := ⟨_, rfl⟩
    have hn2 : n = b.length := by omega
    rw [← hn] at hca hla
    rw [← hn2] at hcb
    rw [← hn, ← hn2]
    have HA : Hid (n = a.length) := hn
    have HB : Hid (n = b.length) := hn2
    clear hn hn2 hl
    go_enter Try.func23, Try.ntmps23
    go_wp2_with fail
    go_loopw [5] (fun i wr => ∃ k : Nat, k ≤ n ∧ i = .int .i64 k ∧ Below w.heap.size w wr ∧ a.take k = b.take k) (fun i _ => n - (intOf i).toNat)
    case atStart => exact ⟨0, Nat.zero_le _, rfl, Below.refl _ _, by simp⟩
    case round =>
      obtain ⟨k, hk, rfl, hB, heq⟩ := hrel
      by_cases hlt : k < n
      · obtain ⟨b1, o1, h1, k1⟩ := hca wr hB k hlt
        obtain ⟨b2, o2, h2, k2⟩ := hcb wr hB k hlt
        subst h1 h2
        have HE := take_eq_succ a b k (by have := HA.out; omega) (by have := HB.out; omega) heq
        obtain ⟨x, hx⟩ : ∃ x, x = a.getD k false := ⟨_, rfl⟩
        obtain ⟨y, hy⟩ : ∃ y, y = b.getD k false := ⟨_, rfl⟩
        rw [← hx] at k1 HE
        rw [← hy] at k2 HE
        have HEE : Hid ((a.take (k + 1) = b.take (k + 1)) ↔ x = y) := HE
        have HNE : Hid (a = b → a.take (k + 1) = b.take (k + 1)) := fun q => by show _ = _; rw [q]
        have hk0 : (0 : Int) ≤ (k : Int) := by omega
        have hk1 : (k : Int) < (n : Int) := by omega
        clear hx hy HE heq hca hcb
        cases x <;> cases y
        · have hne : (false != false) = false := rfl
          go_wp2_with fail
          go_quiet (fail)
          go_wp2_with fail
          go_roundw
          case rel => exact ⟨k + 1, by omega, by go_num, below_drewN hB _, HEE.out.2 (by trivial)⟩
          case measure => simp [intOf]; omega
        · go_wp2_with fail
          go_quiet (fail)
          go_wp2_with fail
          go_ret
          refine ⟨?_, below_drewN hB _⟩
          have : decide (a = b) = false := by
            rw [decide_eq_false_iff_not]; intro q; exact absurd (HEE.out.1 (HNE.out q)) (by simp)
          rw [this]; rfl
        · go_wp2_with fail
          go_quiet (fail)
          go_wp2_with fail
          go_ret
          refine ⟨?_, below_drewN hB _⟩
          have : decide (a = b) = false := by
            rw [decide_eq_false_iff_not]; intro q; exact absurd (HEE.out.1 (HNE.out q)) (by simp)
          rw [this]; rfl
        · go_wp2_with fail
          go_quiet (fail)
          go_wp2_with fail
          go_roundw
          case rel => exact ⟨k + 1, by omega, by go_num, below_drewN hB _, HEE.out.2 (by trivial)⟩
          case measure => simp [intOf]; omega
      · have hke : k = n := by omega
        subst hke
        have HF : Hid (decide (a = b) = true) := by
          show _ = true
          rw [decide_eq_true_eq]
          have h1 := HA.out; have h2 := HB.out
          have h3 : a.take k = a := by rw [h1]; exact List.take_length
          have h4 : b.take k = b := by rw [h2]; exact List.take_length
          rw [h3, h4] at heq; exact heq
        clear heq hca hcb
        go_wp2_with fail
        go_ret
        exact ⟨by rw [HF.out]; rfl, hB⟩
  · have hne : ((a.length : Int) != (b.length : Int)) = true := by simp; omega
    have HF : Hid (decide (a = b) = false) := by
      show _ = false
      rw [decide_eq_false_iff_not]; rintro rfl; exact hl rfl
    clear hca hcb
    go_enter Try.func23, Try.ntmps23
    go_wp2_with fail
    go_ret
    exact ⟨by rw [HF.out]; rfl, Below.refl _ _⟩

theorem SlBools.own' {w : World} {base n : Nat} {v : Value} {l : List Bool} {e : TypeId} (h : w.ownsRow base e 1 v n (l.map Value.bool)) (hl : l.length = n) : SlBools w v l := by
  subst hl
  have h0 := h
  obtain ⟨_, h2⟩ := h
  rcases h2 with ⟨rfl, h3⟩ | ⟨g, cap, cur, rfl, _⟩
  · exact Or.inl ⟨rfl, List.eq_nil_of_length_eq_zero h3⟩
  · exact SlBools.own h0

theorem rowList_take (vars k j : Nat) (hj : j < vars) : (Dd.rowList vars k).take (j + 1) = (Dd.rowList vars k).take j ++ [Dd.rowEnv vars k j] := by
  have hl : j < (Dd.rowList vars k).length := by simp [Dd.rowList]; exact hj
  rw [List.take_succ_eq_append_getElem hl]
  simp [Dd.rowList]

set_option maxHeartbeats 1000000 in
theorem Row_any (w : World) (k vars : Nat) (hv : vars ≤ 30) :
    Calls Try.prog 29 #[.int .i64 k, .int .i64 vars] w fun e w' => ∃ v, e = .returned v ∧ SlBools w' v (Dd.rowList vars k) ∧ Below w.heap.size w w' := by
  obtain ⟨i0, hi, hz0, hz1, hz2⟩ := info_parts infoBool
  go_enter Try.func29, Try.ntmps29
  go_wp2_with fail
  go_loopw [5, 6] (fun v i wr => ∃ j : Nat, j ≤ vars ∧ i = .int .i64 j ∧ wr.ownsRow w.heap.size 4 1 v j (((Dd.rowList vars k).take j).map Value.bool) ∧ Below w.heap.size w wr) (fun _ i _ => vars - (intOf i).toNat)
  case atStart => exact ⟨0, Nat.zero_le _, rfl, World.ownsRow_nil _ _ _ _, Below.refl _ _⟩
  case round =>
    obtain ⟨j, hj, rfl, hown, hB⟩ := hrel
    by_cases hlt : j < vars
    · have HT : Hid ((Dd.rowList vars k).take (j + 1) = (Dd.rowList vars k).take j ++ [Dd.rowEnv vars k j]) := rowList_take vars k j hlt
      go_wp2_with fail
      refine (digit_any wr k j vars hlt hv).mono ?_
      rintro e w3 ⟨rfl, hw3⟩
      subst hw3
      go_wp2_with (at_builtin; refine wpList_append_own _ rfl _ _ 28 rfl w.heap.size 4 i0 (.bool false) 1 1 Try.underlying28 hi hz0 hz1 hz2 rfl (by decide) _ _ _ rfl (hown.alloc _) ⟨w3.heap.size, 0, none⟩ 1 1 [.bool (Dd.rowEnv vars k j)] rfl rfl ?c1 ?c2 ?c3 ?c4 ?c5 ?_)
      case c1 => exact World.news_of_block (heap_alloc_new w3 _)
      case c2 => simp [Value.oneCell']
      case c3 => unfold maxLen; omega
      case c4 => omega
      case c5 => have := hB.size; simp; omega
      intro v' w4 hown4 hgrow4 _
      have hB4 : Below w.heap.size w w4 := (hB.alloc hB.size _).grown hgrow4 (by have := hB.size; simp; omega) (fun q hq => (hown.lt q hq).1)
      clear hgrow4
      go_wp2_with fail
      go_roundw
      case rel => exact ⟨j + 1, by omega, by go_num, by rw [HT.out]; simpa using hown4, hB4⟩
      case measure => simp [intOf]; omega
    · have hje : j = vars := by omega
      subst hje
      have hT : (Dd.rowList j k).take j = Dd.rowList j k := List.take_of_length_le (by simp [Dd.rowList])
      rw [hT] at hown
      clear hT
      go_wp2_with fail
      go_ret
      exact ⟨_, rfl, SlBools.own' hown (by simp [Dd.rowList]), hB⟩

set_option maxHeartbeats 1000000 in
theorem rWitness_any (w : World) (vf : Value) (f : List Bool) (vars : Nat) (hv : vars ≤ 30) (hf : SlBools w vf f) (hn : f.length ≤ 1073741824) :
    Calls Try.prog 30 #[vf, .int .i64 vars] w fun e w' => ∃ v b, e = .returned (.tuple #[v, .bool b]) ∧ Below w.heap.size w w' ∧
      ((b = false ∧ SlBools w' v [] ∧ ∀ k, k < f.length → f.getD k false = false) ∨ (b = true ∧ ∃ k, k < f.length ∧ f.getD k false = true ∧ (∀ j, j < k → f.getD j false = false) ∧ SlBools w' v (Dd.rowList vars k))) := by
  obtain ⟨i0, hi, hz0, hz1, hz2⟩ := info_parts infoBool
  obtain ⟨a, c, rfl, hcell⟩ := hf.form
  obtain ⟨n, hl⟩ : ∃ n, n = f.length := ⟨_, rfl⟩
  rw [← hl] at hn hcell ⊢
  have HL : Hid (n = f.length) := hl
  clear hl hf
  go_enter Try.func30, Try.ntmps30
  go_wp2_with fail
  go_loopw [6, 7, 8] (fun i _ _ wr => ∃ k : Nat, k ≤ n ∧ i = .int .i64 k ∧ Below w.heap.size w wr ∧ ∀ j, j < k → f.getD j false = false) (fun i _ _ _ => n - (intOf i).toNat)
  case atStart => exact ⟨0, Nat.zero_le _, rfl, Below.refl _ _, fun j hj => by omega⟩
  case round =>
    obtain ⟨k, hk, rfl, hB, hno⟩ := hrel
    by_cases hlt : k < n
    · obtain ⟨b1, o1, h1, k1⟩ := hcell wr hB k hlt
      subst h1
      obtain ⟨x, hx⟩ : ∃ x, x = f.getD k false := ⟨_, rfl⟩
      rw [← hx] at k1
      have HX : Hid (x = f.getD k false) := hx
      have HNO : Hid (∀ j, j < k → f.getD j false = false) := hno
      clear hx hno hcell
      cases x
      · go_wp2_with fail
        go_roundw
        case rel =>
          refine ⟨k + 1, by omega, by go_num, hB, fun j hj => ?_⟩
          by_cases e : j = k
          · subst e; exact HX.out.symm
          · exact HNO.out j (by omega)
        case measure => simp [intOf]; omega
      · go_wp2_with fail
        obtain ⟨wo, hwo⟩ : ∃ wo : World, wo = wr := ⟨_, rfl⟩
        subst hwo
        go_loopw [7, 8] (fun v i wr => ∃ j : Nat, j ≤ vars ∧ i = .int .i64 j ∧ wr.ownsRow w.heap.size 4 1 v j (((Dd.rowList vars k).take j).map Value.bool) ∧ Below w.heap.size w wr) (fun _ i _ => vars - (intOf i).toNat)
        case atStart => exact ⟨0, Nat.zero_le _, rfl, World.ownsRow_nil _ _ _ _, hB⟩
        case round =>
          obtain ⟨j, hj, rfl, hown, hB⟩ := hrel
          by_cases hlt : j < vars
          · have HT : Hid ((Dd.rowList vars k).take (j + 1) = (Dd.rowList vars k).take j ++ [Dd.rowEnv vars k j]) := rowList_take vars k j hlt
            go_wp2_with fail
            refine (digit_any wr k j vars hlt hv).mono ?_
            rintro e w3 ⟨rfl, hw3⟩
            subst hw3
            go_wp2_with (at_builtin; refine wpList_append_own _ rfl _ _ 28 rfl w.heap.size 4 i0 (.bool false) 1 1 Try.underlying28 hi hz0 hz1 hz2 rfl (by decide) _ _ _ rfl (hown.alloc _) ⟨w3.heap.size, 0, none⟩ 1 1 [.bool (Dd.rowEnv vars k j)] rfl rfl ?c1 ?c2 ?c3 ?c4 ?c5 ?_)
            case c1 => exact World.news_of_block (heap_alloc_new w3 _)
            case c2 => simp [Value.oneCell']
            case c3 => unfold maxLen; omega
            case c4 => omega
            case c5 => have := hB.size; simp; omega
            intro v' w4 hown4 hgrow4 _
            have hB4 : Below w.heap.size w w4 := (hB.alloc hB.size _).grown hgrow4 (by have := hB.size; simp; omega) (fun q hq => (hown.lt q hq).1)
            clear hgrow4
            go_wp2_with fail
            go_roundw
            case rel => exact ⟨j + 1, by omega, by go_num, by rw [HT.out]; simpa using hown4, hB4⟩
            case measure => simp [intOf]; omega
          · have hje : j = vars := by omega
            subst hje
            have hT : (Dd.rowList j k).take j = Dd.rowList j k := List.take_of_length_le (by simp [Dd.rowList])
            rw [hT] at hown
            clear hT
            go_wp2_with fail
            go_ret2
            exact ⟨_, true, rfl, hB, Or.inr ⟨rfl, k, by omega, HX.out.symm, HNO.out, SlBools.own' hown (by simp [Dd.rowList])⟩⟩
    · have hke : k = n := by omega
      subst hke
      have HNO : Hid (∀ j, j < k → f.getD j false = false) := hno
      clear hno hcell
      go_wp2_with fail
      go_ret2
      exact ⟨_, false, rfl, hB, Or.inl ⟨rfl, Or.inl ⟨rfl, rfl⟩, HNO.out⟩⟩

set_option maxHeartbeats 400000 in
theorem pick_any (w : World) (n : Int) (b : Nat) (h1 : -9223372036854775808 ≤ n) (h2 : n ≤ 9223372036854775807) (hb : b ≤ 1073741824) :
    Calls Try.prog 25 #[.int .i64 n, .int .i64 b] w fun e w' => ∃ r : Nat, r < max b 1 ∧ e = .returned (.int .i64 r) ∧ w' = w := by
  obtain ⟨m, hm⟩ : ∃ m, m = max b 1 := ⟨_, rfl⟩
  have hmax : ∀ (ts : Array TypeId) (t : TypeId) (W : World), (Builtin.max_ ts t #[.int .i64 (b : Int), .int .i64 1]).run Try.prog W = .ok (.int .i64 (m : Int)) W := by
    intro ts t W
    have := run_max_int2 (P := Try.prog) W ts t .i64 .i64 (b : Int) 1
    rw [this]
    congr 2
    split <;> omega
  rw [← hm]
  have hm1 : 1 ≤ m := by omega
  have hm2 : m ≤ 1073741824 := by omega
  clear hm
  by_cases hn : n < 0
  · have hz : 0 ≤ -(n + 1) := by omega
    go_enter Try.func25, Try.ntmps25
    go_wp2_with fail
    go_ret
    refine ⟨((-(n + 1)) % (m : Int)).toNat, ?_, ?_, rfl⟩
    · have := Int.emod_lt_of_pos (-(n + 1)) (show (0 : Int) < m by omega)
      have := Int.emod_nonneg (-(n + 1)) (show (m : Int) ≠ 0 by omega)
      omega
    · have := Int.emod_nonneg (-(n + 1)) (show (m : Int) ≠ 0 by omega)
      have e : (-(n + 1)) % (m : Int) = -((n + 1).tmod m) := by rw [← Int.neg_tmod, Int.tmod_eq_emod_of_nonneg hz]
      rw [Int.toNat_of_nonneg this, e]; rfl
  · have hz : 0 ≤ n := by omega
    go_enter Try.func25, Try.ntmps25
    go_wp2_with fail
    go_ret
    refine ⟨(n % (m : Int)).toNat, ?_, ?_, rfl⟩
    · have := Int.emod_lt_of_pos n (show (0 : Int) < m by omega)
      have := Int.emod_nonneg n (show (m : Int) ≠ 0 by omega)
      omega
    · have := Int.emod_nonneg n (show (m : Int) ≠ 0 by omega)
      rw [Int.toNat_of_nonneg this]; rfl
end Go.Proofs.Ytehknmcoccikhaa
