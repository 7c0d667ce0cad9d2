/- The reference: how deep an expression is: the walk. The reference: may an expression be: the walk. -/
import Derived.Test.YtmklieoikbgmpaaDoorJ10
namespace Go.Proofs.YtmklieoikbgmpaaDoor
open Go.RowKit Go.Shelf Tx
end Go.Proofs.YtmklieoikbgmpaaDoor
namespace Go.Proofs.YtmklieoikbgmpaaDoor
open Go.RowKit Go.Shelf Tx
def NodeTo (e : List Nd) (k : Nat) : Prop := ∀ j x, j < k → e[j]? = some x → nodeB x = true ∧ inR x j ∧ argsOk e x = true
theorem NodeTo.next {e : List Nd} {k : Nat} {x : Nd} (h : NodeTo e k) (hx : e[k]? = some x) (h1 : nodeB x = true) (h2 : inR x k) (h3 : argsOk e x = true) : NodeTo e (k + 1) := fun j y hj hy => by
  by_cases q : j = k
  · subst q; rw [hx] at hy; cases hy; exact ⟨h1, h2, h3⟩
  · exact h j y (by omega) hy
end Go.Proofs.YtmklieoikbgmpaaDoor
