/- A new row of one-cell elements, filled up to k. -/
import Derived.Test.YthnofhobhkcpfaaDoorSl
namespace Go.Proofs.YthnofhobhkcpfaaDoor
open Go.RowKit

def fillV (z : Value) (l : List Value) (k : Nat) : List Value := l.take k ++ List.replicate (l.length - k) z
theorem fillV_zero (z : Value) (l : List Value) : fillV z l 0 = List.replicate l.length z := by simp [fillV]
theorem fillV_full (z : Value) (l : List Value) : fillV z l l.length = l := by simp [fillV]
theorem fillV_set (z : Value) (l : List Value) (k : Nat) (v : Value) (hv : l[k]? = some v) : (fillV z l k).set k v = fillV z l (k + 1) := by
  have hk := (List.getElem?_eq_some_iff.1 hv).1
  unfold fillV
  have e : l.length - k = (l.length - (k + 1)) + 1 := by omega
  rw [e, List.replicate_succ, List.set_append_right _ _ (by simp; omega)]
  have e2 : k - (l.take k).length = 0 := by simp; omega
  rw [e2, List.set_cons_zero, List.take_add_one, hv]
  simp
theorem fillV_get (z : Value) (l : List Value) (k : Nat) (hk : k < l.length) : (fillV z l k)[k]? = some z := by
  unfold fillV
  rw [List.getElem?_append_right (by simp; omega)]
  simp only [List.length_take]
  rw [List.getElem?_replicate, if_pos (by omega)]
end Go.Proofs.YthnofhobhkcpfaaDoor
