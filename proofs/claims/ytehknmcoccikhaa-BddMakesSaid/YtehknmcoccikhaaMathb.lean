/- Plain mathematics of diagrams, more: rows of values by number; how often a function is true; its first row. -/
import Derived.Test.YtehknmcoccikhaaMath
namespace Go.Proofs.Ytehknmcoccikhaa
namespace Dd

/-- The values of all variables in row k: the first variable is the highest digit. -/
def rowEnv (vars k : Nat) : Nat → Bool := fun i => k.testBit (vars - 1 - i)
def rowList (vars k : Nat) : List Bool := (List.range vars).map (rowEnv vars k)

theorem den_from {vars : Nat} {ns : List Nd} (W : WF vars ns) {env env' : Nat → Bool} : ∀ f, f < ns.length → (∀ i, T ns f ≤ i → i < vars → env i = env' i) → den ns env f = den ns env' f := by
  intro f
  induction f using Nat.strongRecOn with
  | _ f ih =>
    intro hf h
    by_cases h2 : 2 ≤ f
    · obtain ⟨_, hl, hh, ht, htl, hth⟩ := W.nd f h2 hf
      rw [den_step W _ h2 hf, den_step W _ h2 hf, ih _ hl (by omega) (fun i hi hv => h i (by omega) hv), ih _ hh (by omega) (fun i hi hv => h i (by omega) hv), h _ (Nat.le_refl _) ht]
    · unfold den; rw [ev_low _ _ _ _ (by omega), ev_low _ _ _ _ (by omega)]

/-- How often f is true of the variables from t on. -/
def cnt (vars : Nat) (ns : List Nd) (t f : Nat) : Nat := (List.range (2 ^ (vars - t))).countP fun j => den ns (rowEnv vars j) f

theorem row_low {vars m j : Nat} (hj : j < 2 ^ m) {i : Nat} (hi : m ≤ vars - 1 - i) : rowEnv vars j i = false :=
  Nat.testBit_lt_two_pow (Nat.lt_of_lt_of_le hj (Nat.pow_le_pow_right (by omega) hi))

theorem row_add_other {vars m j i : Nat} (hi : vars - 1 - i < m) : rowEnv vars (2 ^ m + j) i = rowEnv vars j i := by
  unfold rowEnv; exact Nat.testBit_two_pow_add_gt hi j
theorem row_add_same {vars m j i : Nat} (hj : j < 2 ^ m) (hi : vars - 1 - i = m) : rowEnv vars (2 ^ m + j) i = true := by
  unfold rowEnv; rw [hi, Nat.testBit_two_pow_add_eq, Nat.testBit_lt_two_pow hj]; rfl

/-- The upper half of the rows from t on, where f does not test t. -/
theorem den_upper {vars : Nat} {ns : List Nd} (W : WF vars ns) {t f j : Nat} (hf : f < ns.length) (ht : t < T ns f) (htv : t < vars) : den ns (rowEnv vars (2 ^ (vars - 1 - t) + j)) f = den ns (rowEnv vars j) f :=
  den_from W f hf fun i hi hv => row_add_other (by omega)

theorem cnt_half {vars : Nat} {ns : List Nd} {t f : Nat} (htv : t < vars) (P Q : Nat → Bool)
    (hP : ∀ j, j < 2 ^ (vars - (t + 1)) → den ns (rowEnv vars j) f = P j) (hQ : ∀ j, j < 2 ^ (vars - (t + 1)) → den ns (rowEnv vars (2 ^ (vars - 1 - t) + j)) f = Q j) :
    cnt vars ns t f = (List.range (2 ^ (vars - (t + 1)))).countP P + (List.range (2 ^ (vars - (t + 1)))).countP Q := by
  unfold cnt
  have e : 2 ^ (vars - t) = 2 ^ (vars - (t + 1)) + 2 ^ (vars - (t + 1)) := by
    have : vars - t = (vars - (t + 1)) + 1 := by omega
    rw [this, Nat.pow_succ]; omega
  have e2 : vars - (t + 1) = vars - 1 - t := by omega
  rw [e, List.range_add, List.countP_append, List.countP_map]
  congr 1
  · refine List.countP_congr fun j hj => ?_
    rw [hP j (by simpa using hj)]
  · refine List.countP_congr fun j hj => ?_
    show (den ns (rowEnv vars (2 ^ (vars - (t + 1)) + j)) f = true) ↔ _
    rw [e2, hQ j (by simpa using hj)]

theorem cnt_skip {vars : Nat} {ns : List Nd} (W : WF vars ns) {t f : Nat} (hf : f < ns.length) (ht : t < T ns f) : cnt vars ns t f = 2 * cnt vars ns (t + 1) f := by
  have htv : t < vars := Nat.lt_of_lt_of_le ht (T_le W hf)
  rw [cnt_half htv (fun j => den ns (rowEnv vars j) f) (fun j => den ns (rowEnv vars j) f) (fun _ _ => rfl) (fun j _ => den_upper W hf ht htv)]
  unfold cnt; omega

theorem cnt_down {vars : Nat} {ns : List Nd} (W : WF vars ns) {f : Nat} (hf : f < ns.length) : ∀ d t, t + d = T ns f → cnt vars ns t f = 2 ^ d * cnt vars ns (T ns f) f := by
  intro d
  induction d with
  | zero => intro t h; simp at h; rw [h]; simp
  | succ d ih =>
    intro t h
    rw [cnt_skip W hf (by omega), ih (t + 1) (by omega), Nat.pow_succ]
    rw [← Nat.mul_assoc, Nat.mul_comm 2]

theorem cnt_node {vars : Nat} {ns : List Nd} (W : WF vars ns) {f : Nat} (h2 : 2 ≤ f) (hf : f < ns.length) :
    cnt vars ns (T ns f) f = 2 ^ (T ns (L ns f) - T ns f - 1) * cnt vars ns (T ns (L ns f)) (L ns f) + 2 ^ (T ns (H ns f) - T ns f - 1) * cnt vars ns (T ns (H ns f)) (H ns f) := by
  obtain ⟨_, hl, hh, ht, htl, hth⟩ := W.nd f h2 hf
  rw [← cnt_down W (f := L ns f) (by omega) (T ns (L ns f) - T ns f - 1) (T ns f + 1) (by omega), ← cnt_down W (f := H ns f) (by omega) (T ns (H ns f) - T ns f - 1) (T ns f + 1) (by omega)]
  rw [cnt_half ht (fun j => den ns (rowEnv vars j) (L ns f)) (fun j => den ns (rowEnv vars j) (H ns f))]
  · rfl
  · intro j hj
    rw [den_step W _ h2 hf, row_low hj (by omega)]; simp
  · intro j hj
    have e2 : vars - (T ns f + 1) = vars - 1 - T ns f := by omega
    rw [e2] at hj
    rw [den_step W _ h2 hf, row_add_same hj rfl, if_pos rfl, den_upper W (by omega) hth ht]

theorem cnt_zero (vars : Nat) (ns : List Nd) (t : Nat) : cnt vars ns t 0 = 0 := by
  unfold cnt
  rw [List.countP_eq_zero]
  intro j _; rw [den_zero]; simp
theorem cnt_one {vars : Nat} {ns : List Nd} (W : WF vars ns) : cnt vars ns (T ns 1) 1 = 1 := by
  rw [T_const W (Nat.le_refl _)]
  unfold cnt
  simp [den_one]
theorem cnt_le (vars : Nat) (ns : List Nd) (t f : Nat) : cnt vars ns t f ≤ 2 ^ (vars - t) := by
  unfold cnt
  have := List.countP_le_length (p := fun j => den ns (rowEnv vars j) f) (l := List.range (2 ^ (vars - t)))
  simpa using this

/-! ### the first row -/
/-- While a first row is looked for: k is what is set so far, f' the function that is left. -/
structure Wit (vars : Nat) (ns : List Nd) (f k f' : Nat) : Prop where
  lt : f' < ns.length
  pos : f' ≠ 0
  div : ∃ a, k = 2 ^ (vars - T ns f') * a
  small : k < 2 ^ vars
  none : ∀ j, j < k → den ns (rowEnv vars j) f = false
  rest : ∀ j, j < 2 ^ (vars - T ns f') → den ns (rowEnv vars (k + j)) f = den ns (rowEnv vars j) f'

theorem Wit.start {vars : Nat} {ns : List Nd} (W : WF vars ns) {f : Nat} (hf : f < ns.length) (h0 : f ≠ 0) : Wit vars ns f 0 f :=
  ⟨hf, h0, ⟨0, by simp⟩, Nat.pow_pos (by omega), by intro j hj; omega, by intro j _; simp⟩

theorem Wit.fin {vars : Nat} {ns : List Nd} (W : WF vars ns) {f k : Nat} (h : Wit vars ns f k 1) : den ns (rowEnv vars k) f = true := by
  have := h.rest 0 (Nat.pow_pos (by omega))
  rw [den_one] at this
  simpa using this

theorem pow_sub {vars a b : Nat} (h : a ≤ b) (hb : b ≤ vars) : 2 ^ (vars - a) = 2 ^ (vars - b) * 2 ^ (b - a) := by
  rw [← Nat.pow_add]; congr 1; omega

theorem Wit.low {vars : Nat} {ns : List Nd} (W : WF vars ns) {f k f' : Nat} (h : Wit vars ns f k f') (h2 : 2 ≤ f') (hl : L ns f' ≠ 0) : Wit vars ns f k (L ns f') := by
  obtain ⟨_, hlt, hht, ht, htl, hth⟩ := W.nd f' h2 h.lt
  have hle := T_le W (f := L ns f') (by have := h.lt; omega)
  have hp := pow_sub (Nat.le_of_lt htl) hle
  refine ⟨by have := h.lt; omega, hl, ?_, h.small, h.none, ?_⟩
  · obtain ⟨a, ha⟩ := h.div
    exact ⟨2 ^ (T ns (L ns f') - T ns f') * a, by rw [ha, hp, Nat.mul_assoc]⟩
  · intro j hj
    have hj' : j < 2 ^ (vars - T ns f') := Nat.lt_of_lt_of_le hj (Nat.pow_le_pow_right (by omega) (by omega))
    rw [h.rest j hj', den_step W _ h2 h.lt, row_low hj (by omega)]; simp

theorem Wit.bit {vars : Nat} {ns : List Nd} (W : WF vars ns) {f k f' : Nat} (h : Wit vars ns f k f') (h2 : 2 ≤ f') : (k + 2 ^ (vars - 1 - T ns f') < 2 ^ vars) ∧ ∀ i, i < vars → rowEnv vars (k + 2 ^ (vars - 1 - T ns f')) i = if i = T ns f' then true else rowEnv vars k i := by
  obtain ⟨_, hlt, hht, ht, htl, hth⟩ := W.nd f' h2 h.lt
  obtain ⟨a, ha⟩ := h.div
  have hlt2 : 2 ^ (vars - 1 - T ns f') < 2 ^ (vars - T ns f') := Nat.pow_lt_pow_right (by omega) (by omega)
  have e : k + 2 ^ (vars - 1 - T ns f') = 2 ^ (vars - T ns f') * a + 2 ^ (vars - 1 - T ns f') := by rw [ha]
  constructor
  · have hs := h.small
    rw [ha] at hs
    have hd : 2 ^ vars = 2 ^ (vars - T ns f') * 2 ^ (T ns f') := by rw [← Nat.pow_add]; congr 1; omega
    rw [hd] at hs ⊢
    have : a < 2 ^ T ns f' := Nat.lt_of_mul_lt_mul_left hs
    rw [ha]
    have h3 : 2 ^ (vars - T ns f') * (a + 1) ≤ 2 ^ (vars - T ns f') * 2 ^ T ns f' := Nat.mul_le_mul_left _ this
    rw [Nat.mul_add, Nat.mul_one] at h3
    omega
  · intro i hi
    unfold rowEnv
    rw [e, Nat.testBit_two_pow_mul_add _ hlt2, ha]
    by_cases ei : i = T ns f'
    · subst ei
      rw [if_pos (by omega), if_pos rfl, Nat.testBit_two_pow_self]
    · rw [if_neg ei]
      by_cases hlt3 : vars - 1 - i < vars - T ns f'
      · rw [if_pos hlt3, Nat.testBit_two_pow_of_ne (by omega)]
        have := Nat.testBit_two_pow_mul_add a (b := 0) (i := vars - T ns f') (Nat.pow_pos (by omega)) (vars - 1 - i)
        rw [if_pos hlt3] at this
        simpa using this.symm
      · rw [if_neg hlt3]
        have := Nat.testBit_two_pow_mul_add a (b := 0) (i := vars - T ns f') (Nat.pow_pos (by omega)) (vars - 1 - i)
        rw [if_neg hlt3] at this
        simpa using this.symm

theorem Wit.high {vars : Nat} {ns : List Nd} (W : WF vars ns) {f k f' : Nat} (h : Wit vars ns f k f') (h2 : 2 ≤ f') (hl : L ns f' = 0) : Wit vars ns f (k + 2 ^ (vars - 1 - T ns f')) (H ns f') := by
  obtain ⟨hne, hlt, hht, ht, htl, hth⟩ := W.nd f' h2 h.lt
  have hle := T_le W (f := H ns f') (by have := h.lt; omega)
  have hp := pow_sub (Nat.le_of_lt hth) hle
  have hp2 := pow_sub (vars := vars) (a := T ns f' + 1) (b := T ns (H ns f')) (by omega) hle
  have e1 : vars - (T ns f' + 1) = vars - 1 - T ns f' := by omega
  rw [e1] at hp2
  refine ⟨by have := h.lt; omega, by omega, ?_, (h.bit W h2).1, ?_, ?_⟩
  · obtain ⟨a, ha⟩ := h.div
    exact ⟨2 ^ (T ns (H ns f') - T ns f') * a + 2 ^ (T ns (H ns f') - (T ns f' + 1)), by rw [ha, Nat.mul_add, ← Nat.mul_assoc, ← hp, ← hp2]⟩
  · intro j hj
    by_cases hk : j < k
    · exact h.none j hk
    · have hj2 : j - k < 2 ^ (vars - 1 - T ns f') := by omega
      have hj3 : j - k < 2 ^ (vars - T ns f') := Nat.lt_of_lt_of_le hj2 (Nat.pow_le_pow_right (by omega) (by omega))
      have e : j = k + (j - k) := by omega
      rw [e, h.rest _ hj3, den_step W _ h2 h.lt, row_low hj2 (by omega), hl]; simp [den_zero]
  · intro j hj
    have hj2 : j < 2 ^ (vars - 1 - T ns f') := Nat.lt_of_lt_of_le hj (Nat.pow_le_pow_right (by omega) (by omega))
    have hj3 : 2 ^ (vars - 1 - T ns f') + j < 2 ^ (vars - T ns f') := by
      have : 2 ^ (vars - T ns f') = 2 ^ (vars - 1 - T ns f') + 2 ^ (vars - 1 - T ns f') := by
        have q : vars - T ns f' = (vars - 1 - T ns f') + 1 := by omega
        rw [q, Nat.pow_succ]; omega
      omega
    rw [Nat.add_assoc, h.rest _ hj3, den_step W _ h2 h.lt, row_add_same hj2 rfl, if_pos rfl, den_upper W (by have := h.lt; omega) hth ht]

end Dd
end Go.Proofs.Ytehknmcoccikhaa
