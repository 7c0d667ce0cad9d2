/- The law ProgBlank, whatever its argument: the walk. (Printed by gen/proglaws.py.) -/
import Derived.Deep.QuietTactic
import Derived.BigQuiet
import Derived.Lib.Hide
import Derived.Test.YtahalimekacliaaGreatDoorJ1
import Derived.Test.YtahalimekacliaaGreatDoorJ44
set_option linter.unusedVariables false
set_option linter.unusedSimpArgs false
namespace Go.Proofs.YtahalimekacliaaGreatDoor
open Go.RowKit Go.Shelf Tx Px Gx
theorem atP_none {L : List Tok} {i : Nat} : ((atP L i) == -1) = decide (L.length ≤ i) := by
  unfold atP
  cases h : L[i]? with
  | none => rw [List.getElem?_eq_none_iff] at h; simp [h]
  | some t =>
    have h1 := (List.getElem?_eq_some_iff.1 h).1
    have h2 : ¬ L.length ≤ i := by omega
    have h3 : ¬ ((t.p : Int) = -1) := by omega
    simp [h2, h3]
theorem PgS.alike {s t : ByteArray} {r : Except (Int × Int) Pg} (h : PgS s r) (h1 : (Lx.lexS s.data.toList).2 = none) (h2 : (Lx.lexS t.data.toList).2 = none) (h3 : Px.AlkT (toks s.size (Lx.lexS s.data.toList).1) (toks t.size (Lx.lexS t.data.toList).1)) :
    (∃ p, r = .ok p ∧ PgS t (.ok p)) ∨ ∃ (c : Int) (a b : Int), c ≠ 0 ∧ r = .error (c, a) ∧ PgS t (.error (c, b)) ∧ (a == -1) = (b == -1) := by
  unfold PgS at h
  rw [h1] at h
  obtain ⟨X, hX, rfl⟩ := h
  obtain ⟨Y, hY⟩ := XAll.ex (toks_is t)
  have key : ∀ q, progS (toks t.size (Lx.lexS t.data.toList).1) Y = q → PgS t q := fun q hq => by unfold PgS; rw [h2]; exact ⟨Y, hY, hq.symm⟩
  rcases prog_rel h3 (toks_is s) hX.ok hY.ok with ⟨p, e1, e2⟩ | ⟨c, i, hc, e1, e2⟩
  · exact Or.inl ⟨p, e1, key _ e2⟩
  · exact Or.inr ⟨c, _, _, hc, e1, key _ e2, by rw [atP_none, atP_none, h3.len]⟩
end Go.Proofs.YtahalimekacliaaGreatDoor
