/- Atoms that are put in their places again: the plain law. -/
import Derived.Test.YtjnpkdpljmkpiaaGreatDoorIb
import Derived.Test.YtjnpkdpljmkpiaaGreatDoorJ15
namespace Go.Proofs.YtjnpkdpljmkpiaaGreatDoor
open Tx

theorem splitT_grow (l : List (List Nd)) : ∀ k, ∃ C, (splitT l).2 = (splitT (l.take k)).2 ++ C := by
  induction l using snoc_ind with
  | h0 => intro k; exact ⟨[], by simp⟩
  | h1 l e ih =>
    intro k
    rcases Nat.lt_or_ge k (l.length + 1) with h | h
    · obtain ⟨C, hC⟩ := ih k
      obtain ⟨B, hB⟩ := Ux.cut_more (treeL e) (splitT l).2
      refine ⟨C ++ B, ?_⟩
      rw [List.take_append_of_le_length (by omega), splitT_snoc]
      show (Ux.cutF (treeL e) (splitT l).2).2 = _
      rw [hB, hC, List.append_assoc]
    · exact ⟨[], by rw [List.take_of_length_le (by simp; omega)]; simp⟩
theorem splitT_out (l : List (List Nd)) : ∀ (k : Nat) (e : List Nd), l[k]? = some e → (splitT l).1[k]? = some (Ux.cutF (treeL e) (splitT (l.take k)).2).1 := by
  induction l using snoc_ind with
  | h0 => intro k e h; simp at h
  | h1 l e ih =>
    intro k x hx
    rcases Nat.lt_or_ge k l.length with h | h
    · rw [List.getElem?_append_left h] at hx
      rw [splitT_snoc, List.getElem?_append_left (by rw [splitT_len]; exact h), List.take_append_of_le_length (by omega)]
      exact ih k x hx
    · have hk := (List.getElem?_eq_some_iff.1 hx).1
      simp only [List.length_append, List.length_singleton] at hk
      obtain rfl : k = l.length := by omega
      rw [List.getElem?_append_right (Nat.le_refl _)] at hx
      simp at hx; subst hx
      rw [splitT_snoc, List.getElem?_append_right (by rw [splitT_len]; omega), splitT_len, Nat.sub_self, List.take_left']
      · rfl
      · rfl
def namesN (n : Nat) : List ByteArray := (List.range n).map Ux.atomName
theorem namesN_len (n : Nat) : (namesN n).length = n := by simp [namesN]
theorem namesN_snoc (n : Nat) : namesN (n + 1) = namesN n ++ [Ux.atomName n] := by simp [namesN, List.range_succ]
theorem find_congr {α : Type} {p q : α → Bool} (l : List α) (h : ∀ x ∈ l, p x = q x) : l.find? p = l.find? q := by
  induction l with
  | nil => rfl
  | cons a r ih =>
    rw [List.find?_cons, List.find?_cons, h a (by simp), ih (fun x hx => h x (by simp [hx]))]
theorem byL_names (A : List (List Nd)) : byL (namesN A.length) A = Ux.byName A := by
  funext s
  unfold byL Ux.byName placeL
  rw [namesN_len]
  congr 1
  refine find_congr _ ?_
  intro k hk
  have hk2 : k < A.length := by simpa using hk
  have : (namesN A.length).getD k ByteArray.empty = Ux.atomName k := by
    unfold namesN
    rw [List.getD_eq_getElem?_getD, List.getElem?_map, List.getElem?_range hk2]; rfl
  rw [this]
/-- What AtomsPut needs. -/
structure PutF (l A O : List (List Nd)) : Prop where
  len : A.length ≤ 30
  outs : O.length = l.length
  atom : ∀ x ∈ A, mayB x = true ∧ x.length ≤ 200
  each : ∀ (k : Nat) (o e : List Nd), O[k]? = some o → l[k]? = some e → mayB o = true ∧ o.length ≤ 200 ∧ e.length ≤ 200 ∧ (subL e ((e.length : Int) - 1)).length ≤ 200 ∧ putE (namesN A.length) A o = subL e ((e.length : Int) - 1)
theorem putF_of {l : List (List Nd)} (hM : ∀ e ∈ l, e.length ≤ 200) (h : (splitR l).2.2 = 0) : PutF l (splitR l).1 (splitR l).2.1 := by
  obtain ⟨h1, h2, h3⟩ := splitR_ok h
  obtain ⟨h4, h5⟩ := splitT_atoms 200 l h1 hM
  rw [h3]
  refine ⟨h2, by simp [splitT_len], fun x hx => ?_, fun k o e ho he => ?_⟩
  · obtain ⟨a, _, _, _, _⟩ := atom_is (by omega) (h4 x hx)
    obtain ⟨op, n, s, ks, e, _, _, _, hs, _⟩ := h4 x hx
    exact ⟨a, by rw [e, Fo.flat_len]; exact hs⟩
  · have hme := h1 e (List.mem_of_getElem? he)
    have hle := hM e (List.mem_of_getElem? he)
    obtain ⟨t1, t2, t3, t4, t5⟩ := tree_is hme
    simp only at ho
    rw [List.getElem?_map, splitT_out l k e he] at ho
    simp only [Option.map_some, Option.some.injEq] at ho
    subst ho
    generalize hA : (splitT (l.take k)).2 = A0
    have c1 := Ux.cut_wf (treeL e) A0 t1 t3
    have c2 := Ux.cut_count (treeL e) A0
    have c3 := Ux.cut_size (treeL e) A0
    have c4 := Ux.cut_depth (treeL e) A0
    have c5 := Ux.cut_ops (treeL e) A0 t3
    rw [t2] at c2
    refine ⟨?_, by rw [Fo.flat_len]; omega, hle, by rw [sub_last hme, Fo.flat_len]; have := may_size hme; unfold treeL at this; omega, ?_⟩
    · rw [may_flat c1 c2]
      unfold okF
      simp only [Bool.and_eq_true, decide_eq_true_eq]
      obtain ⟨op, n, s, ks, _, ho⟩ := ops_one c2
      refine ⟨⟨by omega, by omega⟩, ?_⟩
      rw [ho] at c5 ⊢
      simpa using c5
    · rw [sub_last hme]
      unfold putE
      rw [byL_names, Fo.flat_len, T_flat0 c1 c2]
      have hB : ∃ C, (splitT l).2 = (Ux.cutF (treeL e) A0).2 ++ C := by
        obtain ⟨C, hC⟩ := splitT_grow l (k + 1)
        rw [splitT_next he, hA] at hC
        exact ⟨C, hC⟩
      rw [Ux.cut_put (treeL e) A0 (splitT l).2 t1 t3 hB]
      rfl
end Go.Proofs.YtjnpkdpljmkpiaaGreatDoor
