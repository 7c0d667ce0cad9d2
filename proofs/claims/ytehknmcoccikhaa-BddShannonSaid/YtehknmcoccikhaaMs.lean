/- How often a function is true, by a variable's two values. -/
import Derived.Test.YtehknmcoccikhaaLa
namespace Go.Proofs.Ytehknmcoccikhaa

def ExtBelow (n : Nat) (φ : (Nat → Bool) → Bool) : Prop := ∀ env env', (∀ j, j < n → env j = env' j) → φ env = φ env'
def cntRows (n : Nat) (φ : (Nat → Bool) → Bool) : Nat := (List.range (2 ^ n)).countP (fun k => φ (Dd.rowEnv n k))
def consB (b : Bool) (env : Nat → Bool) : Nat → Bool := fun i => if i = 0 then b else env (i - 1)

theorem consB_ext {n : Nat} {φ : (Nat → Bool) → Bool} (h : ExtBelow (n + 1) φ) (b : Bool) : ExtBelow n (fun env => φ (consB b env)) := fun env env' he => h _ _ fun j hj => by
  unfold consB
  split
  · rfl
  · exact he _ (by omega)

theorem cntRows_split (n : Nat) (φ : (Nat → Bool) → Bool) (h : ExtBelow (n + 1) φ) : cntRows (n + 1) φ = cntRows n (fun env => φ (consB false env)) + cntRows n (fun env => φ (consB true env)) := by
  unfold cntRows
  have e : 2 ^ (n + 1) = 2 ^ n + 2 ^ n := by rw [Nat.pow_succ]; omega
  rw [e, List.range_add, List.countP_append, List.countP_map]
  congr 1
  · refine List.countP_congr fun k hk => ?_
    have hk : k < 2 ^ n := by simpa using hk
    rw [h (Dd.rowEnv (n + 1) k) (consB false (Dd.rowEnv n k))]
    intro j hj
    unfold consB Dd.rowEnv
    split
    · subst_vars; simpa using Nat.testBit_lt_two_pow hk
    · congr 1; omega
  · refine List.countP_congr fun k hk => ?_
    have hk : k < 2 ^ n := by simpa using hk
    show φ (Dd.rowEnv (n + 1) (2 ^ n + k)) = true ↔ _
    rw [h (Dd.rowEnv (n + 1) (2 ^ n + k)) (consB true (Dd.rowEnv n k))]
    intro j hj
    unfold consB Dd.rowEnv
    split
    · subst_vars
      have : n + 1 - 1 - 0 = n := by omega
      rw [this, Nat.testBit_two_pow_add_eq, Nat.testBit_lt_two_pow hk]; rfl
    · rw [Nat.testBit_two_pow_add_gt (by omega)]
      congr 1; omega

theorem cntRows_two : ∀ (n : Nat) (φ : (Nat → Bool) → Bool) (i : Nat), i < n → ExtBelow n φ → 2 * cntRows n φ = cntRows n (fun env => φ (Dd.upd env i true)) + cntRows n (fun env => φ (Dd.upd env i false)) := by
  intro n
  induction n with
  | zero => intro φ i hi; omega
  | succ n ih =>
    intro φ i hi h
    have hu : ∀ b, ExtBelow (n + 1) (fun env => φ (Dd.upd env i b)) := fun b env env' he => h _ _ fun j hj => by
      unfold Dd.upd; split
      · rfl
      · exact he j hj
    rw [cntRows_split n φ h, cntRows_split n _ (hu true), cntRows_split n _ (hu false)]
    cases i with
    | zero =>
      have e : ∀ (b c : Bool) (env : Nat → Bool), Dd.upd (consB b env) 0 c = consB c env := fun b c env => by
        funext j; unfold Dd.upd consB; by_cases hj : j = 0 <;> simp [hj]
      simp only [e]
      omega
    | succ i =>
      have e : ∀ (b c : Bool) (env : Nat → Bool), Dd.upd (consB b env) (i + 1) c = consB b (Dd.upd env i c) := fun b c env => by
        funext j; unfold Dd.upd consB
        by_cases hj : j = 0
        · subst hj; simp
        · by_cases hj2 : j = i + 1
          · subst hj2; simp
          · have : j - 1 ≠ i := by omega
            simp [hj, hj2, this]
      simp only [e]
      have h1 := ih _ i (by omega) (consB_ext h false)
      have h2 := ih _ i (by omega) (consB_ext h true)
      omega
end Go.Proofs.Ytehknmcoccikhaa
