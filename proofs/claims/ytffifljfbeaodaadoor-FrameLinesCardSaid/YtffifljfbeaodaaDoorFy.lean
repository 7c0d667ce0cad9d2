/- The law FrameLines: of two texts, a line's end between them. -/
import Derived.Test.YtffifljfbeaodaaDoorFs
namespace Go.Proofs.YtffifljfbeaodaaDoor
open Go.RowKit Go.Shelf

theorem readS_two (T : List Int) (s t : Fx.Bs) : Fx.readS T (s ++ 10 :: t) = if (Fx.readS T (s ++ [10])).2 then Fx.readS T (s ++ [10]) else ((Fx.readS T (s ++ [10])).1 ++ (Fx.readS T t).1, (Fx.readS T t).2) := by
  unfold Fx.readS
  rw [Fx.lines_two, Fx.readLs_append]
theorem rd_two {T : List Int} {s t : Fx.Bs} (hT : T.length ≤ 60) (hs : s.length ≤ 1000) (ht : t.length ≤ 1000) :
    (rdEr T (s ++ [10]) ≠ 0 → rdRows T (s ++ 10 :: t) = rdRows T (s ++ [10]) ∧ rdEr T (s ++ 10 :: t) = rdEr T (s ++ [10]) ∧ rdAt T (s ++ 10 :: t) = rdAt T (s ++ [10])) ∧
    (rdEr T (s ++ [10]) = 0 → rdRows T (s ++ 10 :: t) = rdRows T (s ++ [10]) ++ rdRows T t ∧ rdEr T (s ++ 10 :: t) = rdEr T t ∧ rdAt T (s ++ 10 :: t) = if rdEr T t = 0 then 0 else rdAt T t + (rdRows T (s ++ [10])).length) := by
  have m1 : rdMany T (s ++ [10]) = false := by unfold rdMany; simp; omega
  have m2 : rdMany T t = false := by unfold rdMany; simp; omega
  have m3 : rdMany T (s ++ 10 :: t) = false := by unfold rdMany; simp; omega
  unfold rdEr rdAt rdRows
  simp only [m1, m2, m3, Bool.false_eq_true, if_false]
  have e := readS_two T s t
  revert e
  generalize Fx.readS T (s ++ [10]) = A
  generalize Fx.readS T (s ++ 10 :: t) = C
  generalize Fx.readS T t = B
  rintro rfl
  obtain ⟨a, ab⟩ := A
  obtain ⟨b, bb⟩ := B
  cases ab <;> cases bb <;> simp
  rw [Int.add_comm]
/-- A part of a slice, each element in one cell. -/
theorem Sl.slice {α : Type} {enc : α → List Value} {w : World} {p : Option Addr} {c lo hi : Nat} {l : List α} (h : Sl enc 1 w (.slice p l.length c) l) (h1 : lo ≤ hi) (h2 : hi ≤ l.length) :
    Sl enc 1 w (.slice (if c - lo = 0 then p else p.map (fun x => x.add lo)) (hi - lo) (c - lo)) ((l.take hi).drop lo) := by
  by_cases h0 : hi - lo = 0
  · refine Or.inl ⟨?_, _, _, by rw [h0]⟩
    rw [List.drop_eq_nil_iff, List.length_take]; omega
  · rcases h with ⟨h3, a', c', h4⟩ | ⟨b', o', c', h4, hc, hlt, hx⟩
    · subst h3; simp at h2; omega
    · simp only [Value.slice.injEq] at h4
      obtain ⟨rfl, _, rfl⟩ := h4
      rw [if_neg (by omega)]
      refine Or.inr ⟨b', o' + lo, c - lo, ?_, by simp; omega, hlt, fun i x hi' j u hu => ?_⟩
      · have e : ((l.take hi).drop lo).length = hi - lo := by rw [List.length_drop, List.length_take]; omega
        rw [e]
        simp [Addr.add]
      · rw [List.getElem?_drop, List.getElem?_take] at hi'
        split at hi'
        · have := hx (lo + i) x hi' j u hu
          rw [show o' + lo + i * 1 + j = o' + (lo + i) * 1 + j by omega]; exact this
        · cases hi'
theorem Rs.slice {w : World} {p : Option Addr} {c lo hi : Nat} {l : List (List Int)} (h : Rs w (.slice p l.length c) l) (h1 : lo ≤ hi) (h2 : hi ≤ l.length) :
    Rs w (.slice (if c - lo = 0 then p else p.map (fun x => x.add lo)) (hi - lo) (c - lo)) ((l.take hi).drop lo) := by
  obtain ⟨vs, g1, g2, g3⟩ := h
  refine ⟨(vs.take hi).drop lo, Sl.slice (by rw [g2]; exact g1) h1 (by omega), by simp [g2], fun i u r hu hr => ?_⟩
  rw [List.getElem?_drop, List.getElem?_take] at hu hr
  by_cases hin : lo + i < hi
  · rw [if_pos hin] at hu hr; exact g3 _ u r hu hr
  · rw [if_neg hin] at hu; cases hu
end Go.Proofs.YtffifljfbeaodaaDoor
