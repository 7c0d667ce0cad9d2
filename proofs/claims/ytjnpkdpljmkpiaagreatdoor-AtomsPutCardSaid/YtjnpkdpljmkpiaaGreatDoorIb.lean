/- Atoms that are split again; atoms that are put in their places: the plain law. -/
import Derived.Test.YtjnpkdpljmkpiaaGreatDoorIa
namespace Go.Proofs.YtjnpkdpljmkpiaaGreatDoor
open Tx

theorem ops_one {F : Fo} (hc : F.count = 1) : ∃ op n s ks, F = .tr op n s ks .no ∧ F.ops = [op] := by
  cases F with
  | no => simp [Fo.count] at hc
  | tr op n s ks r =>
    simp only [Fo.count] at hc
    obtain rfl := Fo.count_zero (a := r) (by omega)
    exact ⟨op, n, s, ks, rfl, rfl⟩
/-- The tree of an expression that may be. -/
theorem tree_is {e : List Nd} (h : mayB e = true) : (treeL e).wf = true ∧ (treeL e).count = 1 ∧ (treeL e).ops.all (fun p => p != 28) = true ∧ (treeL e).size ≤ e.length ∧ (treeL e).depth ≤ 40 := by
  have hP := (mayB_iff e).1 h
  obtain ⟨a, b, c⟩ := hP.tree
  unfold okF at c
  simp only [Bool.and_eq_true, decide_eq_true_eq] at c
  obtain ⟨op, n, s, ks, _, ho⟩ := ops_one b
  refine ⟨a, b, ?_, by rw [may_size h]; exact Nat.le_refl _, c.1.2⟩
  have h2 := c.2
  unfold treeL
  rw [ho] at h2 ⊢
  simpa using h2
theorem splitT_atoms (M : Nat) (l : List (List Nd)) : (∀ e ∈ l, mayB e = true) → (∀ e ∈ l, e.length ≤ M) → (∀ x ∈ (splitT l).2, Ux.IsAtom M 40 x) ∧ (splitT l).2.Nodup := by
  induction l using snoc_ind with
  | h0 => intro _ _; exact ⟨fun x hx => by simp [splitT] at hx, by simp [splitT]⟩
  | h1 l e ih =>
    intro hm hM
    obtain ⟨h1, h2⟩ := ih (fun e he => hm e (by simp [he])) (fun e he => hM e (by simp [he]))
    obtain ⟨a, _, b, c, d⟩ := tree_is (hm e (by simp))
    rw [splitT_snoc]
    exact Ux.cut_atoms M 40 (treeL e) _ a b (Nat.le_trans c (hM e (by simp))) d h1 h2
/-- An atom, as an expression. -/
theorem atom_is {M : Nat} (hM : M ≤ 5000) {x : List Nd} (h : Ux.IsAtom M 40 x) : mayB x = true ∧ 1 ≤ x.length ∧ Ux.isLogic (x.getLastD dft).op = false ∧ x = (treeL x).flat 0 ∧ ∃ op n s ks, treeL x = .tr op n s ks .no ∧ Ux.isLogic op = false := by
  obtain ⟨op, n, s, ks, rfl, hl, h28, hw, hs, hd⟩ := h
  have hc : (Fo.tr op n s ks .no).count = 1 := by simp [Fo.count]
  have ht : treeL ((Fo.tr op n s ks .no).flat 0) = .tr op n s ks .no := by
    unfold treeL; rw [Fo.flat_len]; exact T_flat0 hw hc
  have hok : okF (.tr op n s ks .no) = true := by
    unfold okF
    simp only [Bool.and_eq_true, decide_eq_true_eq]
    exact ⟨⟨by omega, hd⟩, by simpa [Fo.ops] using h28⟩
  have hop := flat_last hc 0
  simp only [Fo.ops, List.cons.injEq, and_true] at hop
  refine ⟨by rw [may_flat hw hc]; exact hok, by rw [Fo.flat_len]; exact one_size hc, by rw [← hop]; exact hl, by rw [ht], op, n, s, ks, ht, hl⟩
theorem name_flat (s : ByteArray) : (Fo.tr 3 0 s .no .no).flat 0 = [⟨3, -1, -1, -1, 0, s⟩] := rfl
/-- Atoms that are split again are themselves. -/
theorem splitT_self (M : Nat) (hM : M ≤ 5000) (A : List (List Nd)) : (∀ x ∈ A, Ux.IsAtom M 40 x) → A.Nodup → splitT A = ((List.range A.length).map (fun k => Fo.tr 3 0 (Ux.atomName k) .no .no), A) := by
  induction A using snoc_ind with
  | h0 => intro _ _; rfl
  | h1 A x ih =>
    intro h hn
    rw [List.nodup_append] at hn
    have hx : x ∉ A := fun hx => hn.2.2 x hx x (by simp) rfl
    obtain ⟨_, _, _, h4, op, n, s, ks, ht, hl⟩ := atom_is hM (h x (by simp))
    rw [splitT_snoc, ih (fun y hy => h y (by simp [hy])) hn.1, ht]
    rw [ht] at h4
    simp only [Ux.cutF, hl, Bool.false_eq_true, if_false, ← h4, hx, List.length_append, List.length_singleton, List.range_succ, List.map_append, List.map_cons, List.map_nil, List.idxOf_eq_length hx]
theorem splitR_self (M : Nat) (hM : M ≤ 5000) {A : List (List Nd)} (h : ∀ x ∈ A, Ux.IsAtom M 40 x) (hn : A.Nodup) (hl : A.length ≤ 30) : splitR A = (A, (List.range A.length).map (fun k => [⟨3, -1, -1, -1, 0, Ux.atomName k⟩]), 0) := by
  unfold splitR
  rw [splitT_self M hM A h hn]
  rw [if_neg (by rw [Bool.not_eq_true, List.any_eq_false]; intro e he; rw [(atom_is hM (h e he)).1]; decide), if_neg (by simpa using hl)]
  simp only [List.map_map]
  rfl
/-- What Split answers, if it answers atoms. -/
theorem splitR_ok {l : List (List Nd)} (h : (splitR l).2.2 = 0) : (∀ e ∈ l, mayB e = true) ∧ (splitT l).2.length ≤ 30 ∧ splitR l = ((splitT l).2, (splitT l).1.map (Fo.flat 0), 0) := by
  unfold splitR at h ⊢
  split at h
  · simp at h
  · rename_i h1
    split at h
    · simp at h
    · rename_i h2
      rw [if_neg h1, if_neg h2]
      exact ⟨any_may (Bool.not_eq_true _ ▸ h1), by omega, rfl⟩
theorem splitR_not {l : List (List Nd)} (h : (splitR l).2.2 ≠ 0) : (splitR l).1 = [] ∧ (splitR l).2.1 = [] := by
  unfold splitR at h ⊢
  split at h
  · rename_i h1; rw [if_pos h1]; exact ⟨rfl, rfl⟩
  · rename_i h1
    split at h
    · rename_i h2; rw [if_neg h1, if_pos h2]; exact ⟨rfl, rfl⟩
    · simp at h
/-- What AtomsOnce needs. -/
structure OnceF (A : List (List Nd)) : Prop where
  len : A.length ≤ 30
  each : ∀ x ∈ A, 1 ≤ x.length ∧ x.length ≤ 200 ∧ Ux.isLogic (x.getLastD dft).op = false
  once : ∀ (j i : Nat) (x y : List Nd), j < i → A[j]? = some x → A[i]? = some y → x ≠ y
  self : splitR A = (A, (List.range A.length).map (fun k => [⟨3, -1, -1, -1, 0, Ux.atomName k⟩]), 0)
theorem onceF {l : List (List Nd)} (hM : ∀ e ∈ l, e.length ≤ 200) (h : (splitR l).2.2 = 0) : OnceF (splitR l).1 := by
  obtain ⟨h1, h2, h3⟩ := splitR_ok h
  obtain ⟨h4, h5⟩ := splitT_atoms 200 l h1 hM
  rw [h3]
  refine ⟨h2, fun x hx => ?_, fun j i x y hj hx hy => ?_, splitR_self 200 (by omega) h4 h5 h2⟩
  · obtain ⟨_, a, b, c, _⟩ := atom_is (by omega) (h4 x hx)
    obtain ⟨op, n, s, ks, e, _, _, _, hs, _⟩ := h4 x hx
    exact ⟨a, by rw [e, Fo.flat_len]; exact hs, b⟩
  · rintro rfl
    have hlt := (List.getElem?_eq_some_iff.1 hy).1
    have hjl := (List.getElem?_eq_some_iff.1 hx).1
    have h6 := List.pairwise_iff_getElem.1 h5 j i hjl hlt hj
    exact h6 ((List.getElem?_eq_some_iff.1 hx).2.trans (List.getElem?_eq_some_iff.1 hy).2.symm)
end Go.Proofs.YtjnpkdpljmkpiaaGreatDoor
