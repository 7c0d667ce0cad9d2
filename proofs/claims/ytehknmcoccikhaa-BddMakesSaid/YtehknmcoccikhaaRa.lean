/- Walks of the reference: digit, Const, Var, Ite, Restrict. -/
import Derived.Test.YtehknmcoccikhaaWg
namespace Go.Proofs.Ytehknmcoccikhaa
open Go.RowKit

set_option maxHeartbeats 400000 in
theorem digit_any (w : World) (row i vars : Nat) (hi : i < vars) (hv : vars ≤ 30) :
    Calls Try.prog 38 #[.int .i64 row, .int .i64 i, .int .i64 vars] w fun e w' => e = .returned (.bool (Dd.rowEnv vars row i)) ∧ w' = w := by
  have hd : ((((row : Int) / 2 ^ (vars - 1 - i)).tmod 2) == 1) = Dd.rowEnv vars row i := by
    unfold Dd.rowEnv
    rw [Nat.testBit_eq_decide_div_mod_eq]
    have e : ((row : Int) / 2 ^ (vars - 1 - i)).tmod 2 = ((row / 2 ^ (vars - 1 - i) % 2 : Nat) : Int) := by
      rw [Int.tmod_eq_emod_of_nonneg (Int.ediv_nonneg (by omega) (Int.le_of_lt (Int.pow_pos (by decide))))]
      simp
    rw [e, Bool.eq_iff_iff]
    generalize row / 2 ^ (vars - 1 - i) % 2 = m
    rw [beq_iff_eq, decide_eq_true_eq]
    omega
  have HD : Hid _ := hd
  clear hd
  go_enter Try.func38, Try.ntmps38
  go_wp2
  go_ret
  exact ⟨by rw [← HD.out]; rfl, rfl⟩

/-- A new row of bools, filled up to k. -/
def fill (l : List Bool) (k : Nat) : List Value := (l.take k).map Value.bool ++ List.replicate (l.length - k) (.bool false)
theorem fill_zero (l : List Bool) : fill l 0 = List.replicate l.length (.bool false) := by simp [fill]
theorem fill_full (l : List Bool) : fill l l.length = l.map Value.bool := by simp [fill]
theorem fill_set (l : List Bool) (k : Nat) (hk : k < l.length) : (fill l k).set k (.bool (l.getD k false)) = fill l (k + 1) := by
  unfold fill
  rw [List.take_succ_eq_append_getElem hk]
  have e : l.length - k = (l.length - (k + 1)) + 1 := by omega
  rw [e, List.replicate_succ, List.set_append_right _ _ (by simp; omega)]
  have e2 : k - (List.map Value.bool (List.take k l)).length = 0 := by simp; omega
  rw [e2]
  have e3 : (l.map Value.bool).take (k + 1) = (l.map Value.bool).take k ++ [.bool l[k]] := by rw [List.take_succ_eq_append_getElem (by simpa using hk)]; simp
  simp [List.getD, hk]
  rw [e3]; simp
theorem fill_get (l : List Bool) (k : Nat) (hk : k < l.length) : ∃ v, (fill l k)[k]? = some v := by
  refine ⟨_, List.getElem?_eq_getElem (by simp [fill]; omega)⟩

/-- An owned row of bools can be read. -/
theorem SlBools.own {w : World} {base g cap : Nat} {l : List Bool} {e : TypeId} (h : w.ownsRow base e 1 (.slice (some ⟨g, 0, none⟩) l.length cap) l.length (l.map Value.bool)) : SlBools w (.slice (some ⟨g, 0, none⟩) l.length cap) l := by
  refine Or.inr ⟨g, 0, cap, rfl, (h.lt g rfl).2, fun i hi => ?_⟩
  rw [Nat.zero_add, h.cellAt i (by omega)]
  simp [List.getD, hi]

theorem pow30 {v : Nat} (h : v ≤ 30) : 2 ^ v ≤ 1073741824 := Nat.pow_le_pow_right (by omega) h
theorem shl_one {v : Nat} (h : v ≤ 30) : IntKind.i64.wrap ((2 : Int) ^ v) = ((2 ^ v : Nat) : Int) := by
  have := pow30 h
  have e : ((2 : Int) ^ v) = ((2 ^ v : Nat) : Int) := by simp
  rw [e]
  generalize 2 ^ v = n at *
  exact IntWalk.i64_in _ (by omega)

set_option maxHeartbeats 400000 in
theorem rConst_any (w : World) (vars : Nat) (b : Bool) (hv : vars ≤ 30) :
    Calls Try.prog 10 #[.int .i64 vars, .bool b] w fun e w' => ∃ v, e = .returned v ∧ SlBools w' v (List.replicate (2 ^ vars) b) ∧ Below w.heap.size w w' ∧ (∀ k, v.ownBlock = some k → w.heap.size ≤ k) := by
  obtain ⟨i0, hi, hz0, hz1, hz2⟩ := info_parts infoBool
  have hsh := shl_one hv
  have hp := pow30 hv
  obtain ⟨n, hn⟩ : ∃ n, n = 2 ^ vars := ⟨_, rfl⟩
  rw [← hn] at hsh hp
  obtain ⟨l, hl⟩ : ∃ l, l = List.replicate (2 ^ vars) b := ⟨_, rfl⟩
  have hll : l.length = n := by rw [hl, hn]; simp
  have hlb : ∀ k, k < n → l.getD k false = b := fun k hk => by rw [hl]; simp [List.getD, ← hn, hk]
  have HL : Hid (l = List.replicate (2 ^ vars) b ∧ l.length = n) := ⟨hl, hll⟩
  clear hl hll hn
  go_enter Try.func10, Try.ntmps10
  go_wp2_with (at_make; refine wpList_make_full _ rfl _ _ 29 rfl w.heap.size 4 i0 (.bool false) 1 Try.underlying29 hi hz0 hz1 _ _ _ _ n rfl rfl rfl rfl ?_ ?_ ?_ ?_; rotate_right; intro w2 hown2 hgrow2)
  case refine_1 => rw [hz2]; omega
  case refine_2 => unfold maxLen; omega
  case refine_3 => exact Nat.le_refl _
  have hB2 : Below w.heap.size w w2 := (Below.refl _ _).grown hgrow2 (Nat.le_refl _) (by simp)
  have hown : w2.ownsRow w.heap.size 4 1 (.slice (some ⟨w.heap.size, 0, none⟩) n n) n (fill l 0) := by
    rw [fill_zero, HL.out.2]
    have := hown2
    simp only [Value.cells, Nat.mul_one, toList_madeCells_one] at this
    exact this
  clear hown2 hgrow2 hi hz0 hz1 hz2 hsh
  go_loopw [6] (fun i wr => ∃ k : Nat, k ≤ n ∧ i = .int .i64 k ∧ wr.ownsRow w.heap.size 4 1 (.slice (some ⟨w.heap.size, 0, none⟩) n n) n (fill l k) ∧ Below w.heap.size w wr) (fun i _ => n - (intOf i).toNat)
  case atStart => exact ⟨0, Nat.zero_le _, rfl, hown, hB2⟩
  case round =>
    obtain ⟨k, hk, rfl, hown, hB⟩ := hrel
    by_cases hlt : k < n
    · obtain ⟨v, hv⟩ := fill_get l k (by have := HL.out.2; omega)
      have hc := hown.cellAt k (by omega)
      rw [hv] at hc
      have hfz := hown.frozenAt k
      have HS : Hid (fill l (k + 1) = (fill l k).set k (.bool (l.getD k false))) := (fill_set l k (by have := HL.out.2; omega)).symm
      have HB : Hid (l.getD k false = b) := hlb k hlt
      clear hlb
      clear hv hB2
      go_wp2_with fail
      go_roundw
      case rel => exact ⟨k + 1, by omega, by go_num, by rw [HS.out]; rw [HB.out]; exact (hown.stored k _).1, hB.setCell (Nat.le_refl _) _⟩
      case measure => simp [intOf]; omega
    · have hke : k = n := by omega
      subst hke
      go_wp2_with fail
      go_ret
      have hf : fill l k = l.map Value.bool := by have := fill_full l; rw [HL.out.2] at this; exact this
      rw [hf] at hown
      have hR := SlBools.own (w := wr) (l := l) (base := w.heap.size) (g := w.heap.size) (cap := k) (e := 4) (by rw [HL.out.2]; exact hown)
      rw [HL.out.2] at hR
      exact ⟨_, rfl, by rw [← HL.out.1]; exact hR, hB, fun q hq => by simp [Value.ownBlock] at hq; omega⟩

set_option maxHeartbeats 400000 in
theorem rVar_any (w : World) (vars i : Nat) (hv : vars ≤ 30) (hiv : i < vars) :
    Calls Try.prog 26 #[.int .i64 vars, .int .i64 i] w fun e w' => ∃ v, e = .returned v ∧ SlBools w' v ((List.range (2 ^ vars)).map fun k => Dd.rowEnv vars k i) ∧ Below w.heap.size w w' ∧ (∀ k, v.ownBlock = some k → w.heap.size ≤ k) := by
  obtain ⟨i0, hi, hz0, hz1, hz2⟩ := info_parts infoBool
  have hsh := shl_one hv
  have hp := pow30 hv
  obtain ⟨n, hn⟩ : ∃ n, n = 2 ^ vars := ⟨_, rfl⟩
  rw [← hn] at hsh hp
  obtain ⟨l, hl⟩ : ∃ l, l = (List.range (2 ^ vars)).map fun k => Dd.rowEnv vars k i := ⟨_, rfl⟩
  have hll : l.length = n := by rw [hl, hn]; simp
  have hlb : ∀ k, k < n → l.getD k false = Dd.rowEnv vars k i := fun k hk => by rw [hl]; simp [List.getD, ← hn, hk]
  have HL : Hid (l = ((List.range (2 ^ vars)).map fun k => Dd.rowEnv vars k i) ∧ l.length = n) := ⟨hl, hll⟩
  clear hl hll hn
  go_enter Try.func26, Try.ntmps26
  go_wp2_with (at_make; refine wpList_make_full _ rfl _ _ 29 rfl w.heap.size 4 i0 (.bool false) 1 Try.underlying29 hi hz0 hz1 _ _ _ _ n rfl rfl rfl rfl ?_ ?_ ?_ ?_; rotate_right; intro w2 hown2 hgrow2)
  case refine_1 => rw [hz2]; omega
  case refine_2 => unfold maxLen; omega
  case refine_3 => exact Nat.le_refl _
  have hB2 : Below w.heap.size w w2 := (Below.refl _ _).grown hgrow2 (Nat.le_refl _) (by simp)
  have hown : w2.ownsRow w.heap.size 4 1 (.slice (some ⟨w.heap.size, 0, none⟩) n n) n (fill l 0) := by
    rw [fill_zero, HL.out.2]
    have := hown2
    simp only [Value.cells, Nat.mul_one, toList_madeCells_one] at this
    exact this
  clear hown2 hgrow2 hi hz0 hz1 hz2 hsh
  go_loopw [6] (fun i wr => ∃ k : Nat, k ≤ n ∧ i = .int .i64 k ∧ wr.ownsRow w.heap.size 4 1 (.slice (some ⟨w.heap.size, 0, none⟩) n n) n (fill l k) ∧ Below w.heap.size w wr) (fun i _ => n - (intOf i).toNat)
  case atStart => exact ⟨0, Nat.zero_le _, rfl, hown, hB2⟩
  case round =>
    obtain ⟨k, hk, rfl, hown, hB⟩ := hrel
    by_cases hlt : k < n
    · obtain ⟨v, hv⟩ := fill_get l k (by have := HL.out.2; omega)
      have hc := hown.cellAt k (by omega)
      rw [hv] at hc
      have hfz := hown.frozenAt k
      have HS : Hid (fill l (k + 1) = (fill l k).set k (.bool (l.getD k false))) := (fill_set l k (by have := HL.out.2; omega)).symm
      have HB : Hid (l.getD k false = Dd.rowEnv vars k i) := hlb k hlt
      clear hlb
      clear hv hB2
      go_wp2_with fail
      refine (digit_any wr k i vars hiv hv).mono ?_
      rintro e w3 ⟨rfl, hw3⟩
      subst hw3
      go_wp2_with fail
      go_roundw
      case rel => exact ⟨k + 1, by omega, by go_num, by rw [HS.out]; rw [HB.out]; exact (hown.stored k _).1, hB.setCell (Nat.le_refl _) _⟩
      case measure => simp [intOf]; omega
    · have hke : k = n := by omega
      subst hke
      go_wp2_with fail
      go_ret
      have hf : fill l k = l.map Value.bool := by have := fill_full l; rw [HL.out.2] at this; exact this
      rw [hf] at hown
      have hR := SlBools.own (w := wr) (l := l) (base := w.heap.size) (g := w.heap.size) (cap := k) (e := 4) (by rw [HL.out.2]; exact hown)
      rw [HL.out.2] at hR
      exact ⟨_, rfl, by rw [← HL.out.1]; exact hR, hB, fun q hq => by simp [Value.ownBlock] at hq; omega⟩


/-- A slice of bools of this length, at least one. -/
theorem SlBools.some {w : World} {v : Value} {l : List Bool} (h : SlBools w v l) (hl : 0 < l.length) : ∃ b o c, v = .slice (Option.some ⟨b, o, none⟩) l.length c ∧ b < w.heap.size ∧ ∀ i, i < l.length → w.cell? ⟨b, o + i, none⟩ = Option.some (.bool (l.getD i false)) := by
  rcases h with ⟨_, rfl⟩ | h
  · simp at hl
  · exact h

set_option maxHeartbeats 1000000 in
theorem rIte_any (w : World) (vf vg vh : Value) (f g h : List Bool) (n : Nat) (hn0 : 0 < n) (hn : n ≤ 1073741824) (hf : SlBools w vf f) (hg : SlBools w vg g) (hh : SlBools w vh h) (lf : f.length = n) (lg : g.length = n) (lh : h.length = n) :
    Calls Try.prog 27 #[vf, vg, vh] w fun e w' => ∃ v, e = .returned v ∧ SlBools w' v ((List.range n).map fun k => if f.getD k false then g.getD k false else h.getD k false) ∧ Below w.heap.size w w' ∧ (∀ k, v.ownBlock = some k → w.heap.size ≤ k) := by
  obtain ⟨i0, hi, hz0, hz1, hz2⟩ := info_parts infoBool
  obtain ⟨bf, of, cf, rfl, blf, hcf⟩ := hf.some (by omega)
  obtain ⟨bg, og, cg, rfl, blg, hcg⟩ := hg.some (by omega)
  obtain ⟨bh, oh, ch, rfl, blh, hch⟩ := hh.some (by omega)
  rw [lf] at hcf ⊢
  rw [lg] at hcg ⊢
  rw [lh] at hch ⊢
  obtain ⟨l, hl⟩ : ∃ l, l = (List.range n).map fun k => if f.getD k false then g.getD k false else h.getD k false := ⟨_, rfl⟩
  have hll : l.length = n := by rw [hl]; simp
  have hlb : ∀ k, k < n → l.getD k false = if f.getD k false then g.getD k false else h.getD k false := fun k hk => by rw [hl, List.getD, List.getElem?_map, List.getElem?_range hk]; rfl
  have HL0 : Hid (l = (List.range n).map fun k => if f.getD k false then g.getD k false else h.getD k false) := hl
  have HL : Hid (l.length = n) := hll
  clear hl hll lf lg lh hf hg hh
  go_enter Try.func27, Try.ntmps27
  go_wp2_with (at_make; refine wpList_make_full _ rfl _ _ 29 rfl w.heap.size 4 i0 (.bool false) 1 Try.underlying29 hi hz0 hz1 _ _ _ _ n rfl rfl rfl rfl ?_ ?_ ?_ ?_; rotate_right; intro w2 hown2 hgrow2)
  case refine_1 => rw [hz2]; omega
  case refine_2 => unfold maxLen; omega
  case refine_3 => exact Nat.le_refl _
  have hB2 : Below w.heap.size w w2 := (Below.refl _ _).grown hgrow2 (Nat.le_refl _) (by simp)
  have hown : w2.ownsRow w.heap.size 4 1 (.slice (some ⟨w.heap.size, 0, none⟩) n n) n (fill l 0) := by
    rw [fill_zero, HL.out]
    have := hown2
    simp only [Value.cells, Nat.mul_one, toList_madeCells_one] at this
    exact this
  clear hown2 hgrow2 hi hz0 hz1 hz2
  go_loopw [8] (fun i wr => ∃ k : Nat, k ≤ n ∧ i = .int .i64 k ∧ wr.ownsRow w.heap.size 4 1 (.slice (some ⟨w.heap.size, 0, none⟩) n n) n (fill l k) ∧ Below w.heap.size w wr) (fun i _ => n - (intOf i).toNat)
  case atStart => exact ⟨0, Nat.zero_le _, rfl, hown, hB2⟩
  case round =>
    obtain ⟨k, hk, rfl, hown, hB⟩ := hrel
    by_cases hlt : k < n
    · obtain ⟨v, hv⟩ := fill_get l k (by have := HL.out; omega)
      have hc := hown.cellAt k (by omega)
      rw [hv] at hc
      have hfz := hown.frozenAt k
      have HS : Hid (fill l (k + 1) = (fill l k).set k (.bool (l.getD k false))) := (fill_set l k (by have := HL.out; omega)).symm
      have kf := (hB.cell (p := ⟨bf, of + k, none⟩) blf).trans (hcf k hlt)
      have kg := (hB.cell (p := ⟨bg, og + k, none⟩) blg).trans (hcg k hlt)
      have kh := (hB.cell (p := ⟨bh, oh + k, none⟩) blh).trans (hch k hlt)
      have hlk := hlb k hlt
      obtain ⟨xf, hxf⟩ : ∃ x, x = f.getD k false := ⟨_, rfl⟩
      obtain ⟨xg, hxg⟩ : ∃ x, x = g.getD k false := ⟨_, rfl⟩
      obtain ⟨xh, hxh⟩ : ∃ x, x = h.getD k false := ⟨_, rfl⟩
      rw [← hxf] at kf hlk
      rw [← hxg] at kg hlk
      rw [← hxh] at kh hlk
      have HB : Hid (l.getD k false = if xf then xg else xh) := hlk
      clear hv hB2 hcf hcg hch hlb hlk hxf hxg hxh
      cases xf <;> cases xg <;> cases xh
      all_goals
        go_wp2_with fail
        go_roundw
        case rel => exact ⟨k + 1, by omega, by go_num, by rw [HS.out, HB.out]; exact (hown.stored k _).1, hB.setCell (Nat.le_refl _) _⟩
        case measure => simp [intOf]; omega
    · have hke : k = n := by omega
      subst hke
      go_wp2_with fail
      go_ret
      have hf : fill l k = l.map Value.bool := by have := fill_full l; rw [HL.out] at this; exact this
      rw [hf] at hown
      have hR := SlBools.own (w := wr) (l := l) (base := w.heap.size) (g := w.heap.size) (cap := k) (e := 4) (by rw [HL.out]; exact hown)
      rw [HL.out] at hR
      exact ⟨_, rfl, by rw [← HL0.out]; exact hR, hB, fun q hq => by simp [Value.ownBlock] at hq; omega⟩

theorem even_add_one (q s : Nat) (hq : q % 2 = 0) : (q + 1).testBit s = (q.testBit s || decide (s = 0)) := by
  cases s with
  | zero => simp [Nat.testBit_zero]; omega
  | succ s => rw [Nat.testBit_succ, Nat.testBit_succ]; simp; congr 1; omega
theorem add_or {k m : Nat} (h : k.testBit m = false) : k + 2 ^ m = k ||| 2 ^ m := by
  have hk : k = 2 ^ m * (k / 2 ^ m) + k % 2 ^ m := (Nat.div_add_mod k (2 ^ m)).symm
  have hr : k % 2 ^ m < 2 ^ m := Nat.mod_lt _ (Nat.pow_pos (by omega))
  have hq : k / 2 ^ m % 2 = 0 := by
    rw [Nat.testBit_eq_decide_div_mod_eq] at h
    simp at h; omega
  generalize k / 2 ^ m = q at *
  generalize k % 2 ^ m = r at *
  subst hk
  have e : 2 ^ m * q + r + 2 ^ m = 2 ^ m * (q + 1) + r := by rw [Nat.mul_add]; omega
  apply Nat.eq_of_testBit_eq
  intro t
  rw [e, Nat.testBit_or, Nat.testBit_two_pow_mul_add _ hr, Nat.testBit_two_pow_mul_add _ hr, Nat.testBit_two_pow]
  by_cases ht : t < m
  · simp [ht]; omega
  · rw [if_neg ht, if_neg ht, even_add_one _ _ hq]
    congr 1
    simp; omega

/-- The row in which a variable is so. -/
def rowTo (vars i : Nat) (b : Bool) (k : Nat) : Nat := if Dd.rowEnv vars k i = b then k else if b then k + 2 ^ (vars - 1 - i) else k - 2 ^ (vars - 1 - i)
theorem rowTo_lt {vars i k : Nat} {b : Bool} (hi : i < vars) (hk : k < 2 ^ vars) : rowTo vars i b k < 2 ^ vars ∧ (Dd.rowEnv vars k i = true → 2 ^ (vars - 1 - i) ≤ k) ∧ ∀ j, j < vars → Dd.rowEnv vars (rowTo vars i b k) j = Dd.upd (Dd.rowEnv vars k) i b j := by
  have hm : vars - 1 - i < vars := by omega
  -- a row and the one in which the digit is the other way
  have hadd : ∀ k, k < 2 ^ vars → Dd.rowEnv vars k i = false → k + 2 ^ (vars - 1 - i) < 2 ^ vars ∧ ∀ j, j < vars → Dd.rowEnv vars (k + 2 ^ (vars - 1 - i)) j = Dd.upd (Dd.rowEnv vars k) i true j := by
    intro k hk h0
    unfold Dd.rowEnv at h0
    have e : k + 2 ^ (vars - 1 - i) = k ||| 2 ^ (vars - 1 - i) := add_or h0
    refine ⟨?_, ?_⟩
    · rw [e]; exact Nat.or_lt_two_pow hk (Nat.pow_lt_pow_right (by omega) hm)
    · intro j hj
      unfold Dd.rowEnv Dd.upd
      rw [e, Nat.testBit_or, Nat.testBit_two_pow]
      by_cases ej : j = i
      · subst ej; simp
      · rw [if_neg ej]
        have : ¬ (vars - 1 - i = vars - 1 - j) := by omega
        simp [this]
  have hge : Dd.rowEnv vars k i = true → 2 ^ (vars - 1 - i) ≤ k := fun h1 => by
    unfold Dd.rowEnv at h1; exact Nat.ge_two_pow_of_testBit h1
  refine ⟨?_, hge, ?_⟩
  · unfold rowTo
    split
    · exact hk
    · split
      · rename_i h1 h2
        subst h2
        exact (hadd k hk (by cases h : Dd.rowEnv vars k i <;> simp_all)).1
      · exact Nat.lt_of_le_of_lt (Nat.sub_le _ _) hk
  · intro j hj
    unfold rowTo
    split
    · rename_i h1
      rw [← h1, Dd.upd_same]
    · rename_i h1
      split
      · rename_i h2
        subst h2
        exact (hadd k hk (by cases h : Dd.rowEnv vars k i <;> simp_all)).2 j hj
      · rename_i h2
        have hb : b = false := by cases b <;> simp_all
        subst hb
        have h3 : Dd.rowEnv vars k i = true := by cases h : Dd.rowEnv vars k i <;> simp_all
        have h4 := hge h3
        -- k is that row and the digit
        have h5 : Dd.rowEnv vars (k - 2 ^ (vars - 1 - i)) i = false := by
          unfold Dd.rowEnv at h3 ⊢
          have : k = 2 ^ (vars - 1 - i) + (k - 2 ^ (vars - 1 - i)) := by omega
          rw [this, Nat.testBit_two_pow_add_eq] at h3
          simpa using h3
        have h6 := (hadd (k - 2 ^ (vars - 1 - i)) (Nat.lt_of_le_of_lt (Nat.sub_le _ _) hk) h5).2 j hj
        have h7 : k - 2 ^ (vars - 1 - i) + 2 ^ (vars - 1 - i) = k := by omega
        rw [h7] at h6
        unfold Dd.upd at h6 ⊢
        by_cases ej : j = i
        · subst ej; rw [if_pos rfl]; exact h5
        · rw [if_neg ej] at h6 ⊢; exact h6.symm

set_option maxHeartbeats 1000000 in
theorem rRestrict_any (w : World) (vf : Value) (f : List Bool) (vars i : Nat) (b : Bool) (hv : vars ≤ 30) (hiv : i < vars) (hf : SlBools w vf f) (lf : f.length = 2 ^ vars) :
    Calls Try.prog 28 #[vf, .int .i64 vars, .int .i64 i, .bool b] w fun e w' => ∃ v, e = .returned v ∧ SlBools w' v ((List.range (2 ^ vars)).map fun k => f.getD (rowTo vars i b k) false) ∧ Below w.heap.size w w' ∧ (∀ k, v.ownBlock = some k → w.heap.size ≤ k) := by
  obtain ⟨i0, hi, hz0, hz1, hz2⟩ := info_parts infoBool
  have hp := pow30 hv
  have hpos : 0 < 2 ^ vars := Nat.pow_pos (by omega)
  have hsh := shl_one (v := vars - 1 - i) (by omega)
  have hp2 := pow30 (v := vars - 1 - i) (by omega)
  obtain ⟨bf, of, cf, rfl, blf, hcf⟩ := hf.some (by omega)
  rw [lf] at hcf ⊢
  have HTO : Hid (∀ k, k < 2 ^ vars → rowTo vars i b k < 2 ^ vars ∧ (Dd.rowEnv vars k i = true → 2 ^ (vars - 1 - i) ≤ k)) := fun k hk => ⟨(rowTo_lt hiv hk).1, (rowTo_lt (b := b) hiv hk).2.1⟩
  obtain ⟨l, hl⟩ : ∃ l, l = (List.range (2 ^ vars)).map fun k => f.getD (rowTo vars i b k) false := ⟨_, rfl⟩
  rw [← hl]
  obtain ⟨n, hn⟩ : ∃ n, n = 2 ^ vars := ⟨_, rfl⟩
  rw [← hn] at hcf hp hpos HTO ⊢
  have hll : l.length = n := by rw [hl, hn]; simp
  have hlb : ∀ k, k < n → l.getD k false = f.getD (rowTo vars i b k) false := fun k hk => by rw [hl]; simp [List.getD, ← hn, hk]
  have HL : Hid (l.length = n) := hll
  have HN : Hid (n = 2 ^ vars) := hn
  obtain ⟨bit, hbit⟩ : ∃ n, n = 2 ^ (vars - 1 - i) := ⟨_, rfl⟩
  rw [← hbit] at hsh hp2 HTO
  have HBIT : Hid (bit = 2 ^ (vars - 1 - i)) := hbit
  clear hl hll lf hf hn hbit
  go_enter Try.func28, Try.ntmps28
  go_wp2_with (at_make; refine wpList_make_full _ rfl _ _ 29 rfl w.heap.size 4 i0 (.bool false) 1 Try.underlying29 hi hz0 hz1 _ _ _ _ n rfl rfl rfl rfl ?_ ?_ ?_ ?_; rotate_right; intro w2 hown2 hgrow2)
  case refine_1 => rw [hz2]; omega
  case refine_2 => unfold maxLen; omega
  case refine_3 => exact Nat.le_refl _
  have hB2 : Below w.heap.size w w2 := (Below.refl _ _).grown hgrow2 (Nat.le_refl _) (by simp)
  have hown : w2.ownsRow w.heap.size 4 1 (.slice (some ⟨w.heap.size, 0, none⟩) n n) n (fill l 0) := by
    rw [fill_zero, HL.out]
    have := hown2
    simp only [Value.cells, Nat.mul_one, toList_madeCells_one] at this
    exact this
  clear hown2 hgrow2 hi hz0 hz1 hz2
  clear hsh
  go_loopw [11, 12] (fun i _ wr => ∃ k : Nat, k ≤ n ∧ i = .int .i64 k ∧ wr.ownsRow w.heap.size 4 1 (.slice (some ⟨w.heap.size, 0, none⟩) n n) n (fill l k) ∧ Below w.heap.size w wr) (fun i _ _ => n - (intOf i).toNat)
  case atStart => exact ⟨0, Nat.zero_le _, rfl, hown, hB2⟩
  case round =>
    obtain ⟨k, hk, rfl, hown, hB⟩ := hrel
    by_cases hlt : k < n
    · obtain ⟨v, hv⟩ := fill_get l k (by have := HL.out; omega)
      have hc := hown.cellAt k (by omega)
      rw [hv] at hc
      have hfz := hown.frozenAt k
      have HS : Hid (fill l (k + 1) = (fill l k).set k (.bool (l.getD k false))) := (fill_set l k (by have := HL.out; omega)).symm
      have hto := HTO.out k hlt
      have hlk := hlb k hlt
      have kf := (hB.cell (p := ⟨bf, of + rowTo vars i b k, none⟩) blf).trans (hcf _ hto.1)
      obtain ⟨xf, hxf⟩ : ∃ x, x = f.getD (rowTo vars i b k) false := ⟨_, rfl⟩
      rw [← hxf] at kf hlk
      have HB : Hid (l.getD k false = xf) := hlk
      clear hv hB2 hcf hlb hlk hxf
      have hbit := HBIT.out
      unfold rowTo at kf hto
      rw [← hbit] at kf hto
      cases hr : Dd.rowEnv vars k i <;> cases b <;> rw [hr] at kf hto <;> simp only [Bool.false_eq_true, Bool.true_eq_false, if_true, if_false, reduceIte] at kf hto
      all_goals
        have HR : Hid _ := hr
        clear hr hbit
        go_wp2_with fail
        refine (digit_any wr k i vars hiv hv).mono ?_
        rintro e w3 ⟨rfl, hw3⟩
        subst hw3
        rw [HR.out]
        go_wp2_with fail
        go_roundw
        case rel => exact ⟨k + 1, by omega, by go_num, by rw [HS.out, HB.out]; exact (hown.stored k _).1, hB.setCell (Nat.le_refl _) _⟩
        case measure => simp [intOf]; omega
    · have hke : k = n := by omega
      subst hke
      go_wp2_with fail
      go_ret
      have hf : fill l k = l.map Value.bool := by have := fill_full l; rw [HL.out] at this; exact this
      rw [hf] at hown
      have hR := SlBools.own (w := wr) (l := l) (base := w.heap.size) (g := w.heap.size) (cap := k) (e := 4) (by rw [HL.out]; exact hown)
      rw [HL.out] at hR
      exact ⟨_, rfl, hR, hB, fun q hq => by simp [Value.ownBlock] at hq; omega⟩
end Go.Proofs.Ytehknmcoccikhaa
