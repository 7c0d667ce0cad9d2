/- Plain mathematics of ordered decision diagrams: what a list of nodes means; two nodes that mean the same are one; counting; the first row. -/
namespace Go.Proofs.Ytehknmcoccikhaa
namespace Dd
abbrev Nd := Nat × Nat × Nat

def T (ns : List Nd) (f : Nat) : Nat := (ns.getD f (0, 0, 0)).1
def L (ns : List Nd) (f : Nat) : Nat := (ns.getD f (0, 0, 0)).2.1
def H (ns : List Nd) (f : Nat) : Nat := (ns.getD f (0, 0, 0)).2.2

structure WF (vars : Nat) (ns : List Nd) : Prop where
  two : 2 ≤ ns.length
  n0 : ns.getD 0 (0, 0, 0) = (vars, 0, 0)
  n1 : ns.getD 1 (0, 0, 0) = (vars, 1, 1)
  nd : ∀ f, 2 ≤ f → f < ns.length → L ns f ≠ H ns f ∧ L ns f < f ∧ H ns f < f ∧ T ns f < vars ∧ T ns f < T ns (L ns f) ∧ T ns f < T ns (H ns f)
  inj : ∀ f g, 2 ≤ f → 2 ≤ g → f < ns.length → g < ns.length → ns.getD f (0, 0, 0) = ns.getD g (0, 0, 0) → f = g

def ev (ns : List Nd) (env : Nat → Bool) : Nat → Nat → Bool
  | 0, f => f == 1
  | k + 1, f => if f ≤ 1 then f == 1 else if env (T ns f) then ev ns env k (H ns f) else ev ns env k (L ns f)

def den (ns : List Nd) (env : Nat → Bool) (f : Nat) : Bool := ev ns env f f

theorem ev_low (ns : List Nd) (env : Nat → Bool) (k f : Nat) (h : f ≤ 1) : ev ns env k f = (f == 1) := by
  cases k <;> simp [ev, h]

theorem ev_fuel {vars : Nat} {ns : List Nd} (W : WF vars ns) (env : Nat → Bool) : ∀ k f, f < ns.length → f ≤ k → ev ns env k f = ev ns env f f := by
  intro k
  induction k using Nat.strongRecOn with
  | _ k ih =>
    intro f hf hk
    by_cases h1 : f ≤ 1
    · rw [ev_low _ _ _ _ h1, ev_low _ _ _ _ h1]
    · obtain ⟨_, hl, hh, _⟩ := W.nd f (by omega) hf
      cases k with
      | zero => omega
      | succ k =>
        cases f with
        | zero => omega
        | succ f =>
          simp only [ev, h1, if_false]
          rw [ih k (by omega) _ (by omega) (by omega), ih k (by omega) _ (by omega) (by omega)]
          by_cases hkf : k = f
          · subst hkf
            rw [← ih k (by omega) (H ns (k+1)) (by omega) (by omega), ← ih k (by omega) (L ns (k+1)) (by omega) (by omega)]
          · rw [← ih f (by omega) (H ns (f+1)) (by omega) (by omega), ← ih f (by omega) (L ns (f+1)) (by omega) (by omega)]

theorem den_zero (ns : List Nd) (env : Nat → Bool) : den ns env 0 = false := by simp [den, ev]
theorem den_one (ns : List Nd) (env : Nat → Bool) : den ns env 1 = true := by simp [den, ev]

theorem den_step {vars : Nat} {ns : List Nd} (W : WF vars ns) (env : Nat → Bool) {f : Nat} (h2 : 2 ≤ f) (hf : f < ns.length) :
    den ns env f = if env (T ns f) then den ns env (H ns f) else den ns env (L ns f) := by
  obtain ⟨_, hl, hh, _⟩ := W.nd f h2 hf
  unfold den
  cases f with
  | zero => omega
  | succ f =>
    have h1 : ¬ (f + 1 ≤ 1) := by omega
    simp only [ev, h1, if_false]
    rw [ev_fuel W env f (H ns (f+1)) (by omega) (by omega), ev_fuel W env f (L ns (f+1)) (by omega) (by omega)]

def upd (env : Nat → Bool) (v : Nat) (b : Bool) : Nat → Bool := fun i => if i = v then b else env i

theorem upd_same (env : Nat → Bool) (v : Nat) : upd env v (env v) = env := by
  funext i; unfold upd; split <;> simp_all

theorem T_le {vars : Nat} {ns : List Nd} (W : WF vars ns) {f : Nat} (hf : f < ns.length) : T ns f ≤ vars := by
  by_cases h : 2 ≤ f
  · have := W.nd f h hf; omega
  · have : f = 0 ∨ f = 1 := by omega
    rcases this with rfl | rfl
    · simp [T, W.n0, -List.getD_eq_getElem?_getD]
    · simp [T, W.n1, -List.getD_eq_getElem?_getD]

theorem T_const {vars : Nat} {ns : List Nd} (W : WF vars ns) {f : Nat} (hf : f ≤ 1) : T ns f = vars := by
  have : f = 0 ∨ f = 1 := by omega
  rcases this with rfl | rfl
  · simp [T, W.n0, -List.getD_eq_getElem?_getD]
  · simp [T, W.n1, -List.getD_eq_getElem?_getD]

theorem L_const {vars : Nat} {ns : List Nd} (W : WF vars ns) {f : Nat} (hf : f ≤ 1) : L ns f = f ∧ H ns f = f := by
  have : f = 0 ∨ f = 1 := by omega
  rcases this with rfl | rfl
  · simp [L, H, W.n0, -List.getD_eq_getElem?_getD]
  · simp [L, H, W.n1, -List.getD_eq_getElem?_getD]

theorem indep {vars : Nat} {ns : List Nd} (W : WF vars ns) (env : Nat → Bool) (v : Nat) (b : Bool) : ∀ f, f < ns.length → v < T ns f → den ns (upd env v b) f = den ns env f := by
  intro f
  induction f using Nat.strongRecOn with
  | _ f ih =>
    intro hf hv
    by_cases h2 : 2 ≤ f
    · obtain ⟨_, hl, hh, _, htl, hth⟩ := W.nd f h2 hf
      rw [den_step W _ h2 hf, den_step W _ h2 hf, ih _ hl (by omega) (by omega), ih _ hh (by omega) (by omega)]
      have : upd env v b (T ns f) = env (T ns f) := by unfold upd; rw [if_neg (by omega)]
      rw [this]
    · unfold den; rw [ev_low _ _ _ _ (by omega), ev_low _ _ _ _ (by omega)]

/-- Only variables below 'vars' are of moment. -/
theorem den_congr {vars : Nat} {ns : List Nd} (W : WF vars ns) {env env' : Nat → Bool} (h : ∀ i, i < vars → env i = env' i) : ∀ f, f < ns.length → den ns env f = den ns env' f := by
  intro f
  induction f using Nat.strongRecOn with
  | _ f ih =>
    intro hf
    by_cases h2 : 2 ≤ f
    · obtain ⟨_, hl, hh, ht, _⟩ := W.nd f h2 hf
      rw [den_step W _ h2 hf, den_step W _ h2 hf, ih _ hl (by omega), ih _ hh (by omega), h _ ht]
    · unfold den; rw [ev_low _ _ _ _ (by omega), ev_low _ _ _ _ (by omega)]

def half (ns : List Nd) (f t : Nat) (b : Bool) : Nat := if T ns f ≠ t then f else if b then H ns f else L ns f

theorem half_lt {vars : Nat} {ns : List Nd} (W : WF vars ns) {f t : Nat} {b : Bool} (hf : f < ns.length) : half ns f t b < ns.length := by
  unfold half
  split
  · exact hf
  · by_cases h2 : 2 ≤ f
    · have := W.nd f h2 hf; split <;> omega
    · have := L_const W (show f ≤ 1 by omega); split <;> omega

theorem half_den {vars : Nat} {ns : List Nd} (W : WF vars ns) (env : Nat → Bool) {f t : Nat} {b : Bool} (hf : f < ns.length) (ht : t ≤ T ns f) (htv : t < vars) :
    den ns env (half ns f t b) = den ns (upd env t b) f := by
  unfold half
  by_cases e : T ns f = t
  · have h2 : 2 ≤ f := by
      rcases Nat.lt_or_ge f 2 with h | h
      · have := T_const W (f := f) (by omega); omega
      · exact h
    obtain ⟨_, hl, hh, _, htl, hth⟩ := W.nd f h2 hf
    rw [if_neg (by simpa using e), den_step W _ h2 hf]
    have : upd env t b (T ns f) = b := by simp [upd, e]
    rw [this]
    cases b
    · simp only [if_false, Bool.false_eq_true]; rw [indep W _ _ _ _ (by omega) (by omega)]
    · simp only [if_true]; rw [indep W _ _ _ _ (by omega) (by omega)]
  · rw [if_pos e, indep W _ _ _ _ hf (by omega)]

theorem half_T {vars : Nat} {ns : List Nd} (W : WF vars ns) {f t : Nat} {b : Bool} (hf : f < ns.length) (ht : t ≤ T ns f) (htv : t < vars) : t < T ns (half ns f t b) := by
  unfold half
  by_cases e : T ns f = t
  · have h2 : 2 ≤ f := by
      rcases Nat.lt_or_ge f 2 with h | h
      · have := T_const W (f := f) (by omega); omega
      · exact h
    obtain ⟨_, hl, hh, _, htl, hth⟩ := W.nd f h2 hf
    rw [if_neg (by simpa using e)]; split <;> omega
  · rw [if_pos e]; omega

theorem canon {vars : Nat} {ns : List Nd} (W : WF vars ns) : ∀ n f g, f < ns.length → g < ns.length → max f g ≤ n → (∀ env, den ns env f = den ns env g) → f = g := by
  intro n
  induction n using Nat.strongRecOn with
  | _ n ih =>
    intro f g hf hg hn h
    -- the case where the first one tests a variable ahead of the other one
    have key : ∀ f g, f < ns.length → g < ns.length → max f g ≤ n → (∀ env, den ns env f = den ns env g) → 2 ≤ f → T ns f < T ns g → False := by
      intro f g hf hg hn h h2 ht
      obtain ⟨hne, hl, hh, htv, htl, hth⟩ := W.nd f h2 hf
      refine hne (ih (max (L ns f) (H ns f)) (by omega) _ _ (by omega) (by omega) (Nat.le_refl _) fun env => ?_)
      have a := half_den W env (b := false) hf (Nat.le_refl _) htv
      have b := half_den W env (b := true) hf (Nat.le_refl _) htv
      simp [half] at a b
      rw [a, b, h, h, indep W _ _ _ _ hg ht, indep W _ _ _ _ hg ht]
    by_cases h2 : 2 ≤ f
    · by_cases g2 : 2 ≤ g
      · rcases Nat.lt_trichotomy (T ns f) (T ns g) with ht | ht | ht
        · exact (key f g hf hg hn h h2 ht).elim
        · obtain ⟨_, hl, hh, htv, htl, hth⟩ := W.nd f h2 hf
          obtain ⟨_, gl, gh, _, gtl, gth⟩ := W.nd g g2 hg
          have e1 : L ns f = L ns g := ih (max (L ns f) (L ns g)) (by omega) _ _ (by omega) (by omega) (Nat.le_refl _) fun env => by
            have a := half_den W env (b := false) hf (Nat.le_refl _) htv
            have b := half_den W env (b := false) hg (Nat.le_refl _) (by omega)
            simp [half] at a b
            rw [a, b, h, ht]
          have e2 : H ns f = H ns g := ih (max (H ns f) (H ns g)) (by omega) _ _ (by omega) (by omega) (Nat.le_refl _) fun env => by
            have a := half_den W env (b := true) hf (Nat.le_refl _) htv
            have b := half_den W env (b := true) hg (Nat.le_refl _) (by omega)
            simp [half] at a b
            rw [a, b, h, ht]
          exact W.inj f g h2 g2 hf hg (Prod.ext ht (Prod.ext e1 e2))
        · exact (key g f hg hf (by omega) (fun env => (h env).symm) g2 ht).elim
      · exact (key f g hf hg hn h h2 (by rw [T_const W (f := g) (by omega)]; exact (W.nd f h2 hf).2.2.2.1)).elim
    · by_cases g2 : 2 ≤ g
      · exact (key g f hg hf (by omega) (fun env => (h env).symm) g2 (by rw [T_const W (f := f) (by omega)]; exact (W.nd g g2 hg).2.2.2.1)).elim
      · have hh := h (fun _ => false)
        unfold den at hh
        rw [ev_low _ _ _ _ (by omega), ev_low _ _ _ _ (by omega)] at hh
        have : (f == 1) = true ↔ (g == 1) = true := by rw [hh]
        simp at this
        omega

theorem canon' {vars : Nat} {ns : List Nd} (W : WF vars ns) {f g : Nat} (hf : f < ns.length) (hg : g < ns.length) (h : ∀ env, den ns env f = den ns env g) : f = g :=
  canon W _ f g hf hg (Nat.le_refl _) h

/-! ### more nodes -/
theorem getD_app {ns xs : List Nd} {f : Nat} (hf : f < ns.length) : (ns ++ xs).getD f (0, 0, 0) = ns.getD f (0, 0, 0) := by
  simp [List.getD, List.getElem?_append_left hf]

theorem T_app {ns xs : List Nd} {f : Nat} (hf : f < ns.length) : T (ns ++ xs) f = T ns f := by unfold T; rw [getD_app hf]
theorem L_app {ns xs : List Nd} {f : Nat} (hf : f < ns.length) : L (ns ++ xs) f = L ns f := by unfold L; rw [getD_app hf]
theorem H_app {ns xs : List Nd} {f : Nat} (hf : f < ns.length) : H (ns ++ xs) f = H ns f := by unfold H; rw [getD_app hf]
theorem half_app {ns xs : List Nd} {f t : Nat} {b : Bool} (hf : f < ns.length) : half (ns ++ xs) f t b = half ns f t b := by
  unfold half; rw [T_app hf, L_app hf, H_app hf]

theorem den_app {vars : Nat} {ns xs : List Nd} (W : WF vars ns) (W' : WF vars (ns ++ xs)) (env : Nat → Bool) : ∀ f, f < ns.length → den (ns ++ xs) env f = den ns env f := by
  intro f
  induction f using Nat.strongRecOn with
  | _ f ih =>
    intro hf
    by_cases h2 : 2 ≤ f
    · obtain ⟨_, hl, hh, _⟩ := W.nd f h2 hf
      rw [den_step W _ h2 hf, den_step W' _ h2 (by simp; omega), T_app hf, L_app hf, H_app hf, ih _ hl (by omega), ih _ hh (by omega)]
    · unfold den; rw [ev_low _ _ _ _ (by omega), ev_low _ _ _ _ (by omega)]

theorem WF_new (vars : Nat) : WF vars [(vars, 0, 0), (vars, 1, 1)] := by
  refine ⟨by simp, by simp, by simp, ?_, ?_⟩
  · intro f h2 hf; simp at hf; omega
  · intro f g h2 _ hf; simp at hf; omega

theorem WF_push {vars : Nat} {ns : List Nd} (W : WF vars ns) {t l h : Nat} (hl : l < ns.length) (hh : h < ns.length) (hne : l ≠ h) (ht : t < vars) (htl : t < T ns l) (hth : t < T ns h)
    (hno : ∀ f, 2 ≤ f → f < ns.length → ns.getD f (0, 0, 0) ≠ (t, l, h)) : WF vars (ns ++ [(t, l, h)]) := by
  have hlast : (ns ++ [(t, l, h)]).getD ns.length (0, 0, 0) = (t, l, h) := by simp [List.getD]
  have two := W.two
  refine ⟨by simp; omega, by rw [getD_app (by omega)]; exact W.n0, by rw [getD_app (by omega)]; exact W.n1, ?_, ?_⟩
  · intro f h2 hf
    simp at hf
    by_cases e : f = ns.length
    · subst e
      have e1 : T (ns ++ [(t, l, h)]) ns.length = t := by unfold T; rw [hlast]
      have e2 : L (ns ++ [(t, l, h)]) ns.length = l := by unfold L; rw [hlast]
      have e3 : H (ns ++ [(t, l, h)]) ns.length = h := by unfold H; rw [hlast]
      rw [e1, e2, e3, T_app hl, T_app hh]
      exact ⟨hne, hl, hh, ht, htl, hth⟩
    · have hf' : f < ns.length := by omega
      have := W.nd f h2 hf'
      rw [T_app hf', L_app hf', H_app hf', T_app (by omega), T_app (by omega)]
      exact this
  · intro f g h2 g2 hf hg e
    simp at hf hg
    by_cases ef : f = ns.length
    · by_cases eg : g = ns.length
      · omega
      · subst ef
        rw [hlast, getD_app (by omega)] at e
        exact absurd e.symm (hno g g2 (by omega))
    · by_cases eg : g = ns.length
      · subst eg
        rw [hlast, getD_app (by omega)] at e
        exact absurd e (hno f h2 (by omega))
      · rw [getD_app (by omega), getD_app (by omega)] at e
        exact W.inj f g h2 g2 (by omega) (by omega) e
end Dd
end Go.Proofs.Ytehknmcoccikhaa
