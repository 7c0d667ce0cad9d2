/- The law FrameAgain: how long what is written is. -/
import Derived.Test.YtffifljfbeaodaaDoorFs
namespace Go.Proofs.YtffifljfbeaodaaDoor
open Go.RowKit Go.Shelf

namespace Fx
theorem rowOk_types : ∀ {T r : List Int}, rowOk T r = true → T.all typeOk = true
  | [], [], _ => rfl
  | [], _ :: _, h => by simp [rowOk] at h
  | _ :: _, [], h => by simp [rowOk] at h
  | t :: T, n :: r, h => by
    simp only [rowOk, Bool.and_eq_true] at h
    simp only [List.all_cons, rowOk_types h.2, Bool.and_true]
    have := h.1
    unfold may at this
    unfold typeOk
    simp at this ⊢
    omega
theorem join_len : ∀ (l : List Bs), (joinW l).length + 1 ≤ (l.map (fun w => w.length + 1)).sum + 1
  | [] => by simp [joinW]
  | [w] => by simp [joinW]
  | w :: x :: l => by
    have := join_len (x :: l)
    show (w ++ 32 :: joinW (x :: l)).length + 1 ≤ _
    simp only [List.length_append, List.length_cons, List.map_cons, List.sum_cons] at this ⊢
    omega
theorem join_len' {l : List Bs} (h : l ≠ []) : (joinW l).length + 1 ≤ (l.map (fun w => w.length + 1)).sum := by
  induction l with
  | nil => exact absurd rfl h
  | cons w l ih =>
    cases l with
    | nil => simp [joinW]
    | cons x l =>
      have := ih (by simp)
      show (w ++ 32 :: joinW (x :: l)).length + 1 ≤ _
      simp only [List.length_append, List.length_cons, List.map_cons, List.sum_cons] at this ⊢
      omega
theorem row_len {T r : List Int} {line : Bs} (h : readRow T line = some r) : (rowText T r).length ≤ line.length + 1 := by
  have h1 := (rowOk_read h).2
  unfold rowText
  rw [h1, List.length_append, List.length_singleton]
  by_cases hw : words line = []
  · rw [hw]; simp [joinW]
  · have := join_len' hw
    have := words_sum line
    omega
theorem text_lines (T : List Int) : ∀ ls : List Bs, (writeText T (readLs T ls).1).length ≤ (ls.map (fun l => l.length + 1)).sum
  | [] => by simp [readLs, writeText]
  | l :: ls => by
    have ih := text_lines T ls
    simp only [readLs]
    cases h : readRow T l with
    | none => simp [writeText]
    | some x =>
      have h1 := row_len h
      have e : writeText T (x :: (readLs T ls).1) = rowText T x ++ writeText T (readLs T ls).1 := rfl
      simp only
      rw [e, List.length_append, List.map_cons, List.sum_cons]
      omega
theorem lines_sum : ∀ s : Bs, ((lines s).map (fun l => l.length + 1)).sum ≤ s.length + 1 := by
  refine lines_ind (P := fun s => ((lines s).map (fun l => l.length + 1)).sum ≤ s.length + 1) (by simp [lines_nil]) ?_
  intro s hs ih
  rw [lines_cons hs, List.map_cons, List.sum_cons]
  by_cases hm : (10 : UInt8) ∈ s
  · have e := split_at 10 s hm
    have h1 : (lineOf s).length + 1 + (restOf s).length = s.length := by
      have h2 : restOf s = s.drop ((s.takeWhile (· != 10)).length + 1) := by
        unfold restOf
        have key : ∀ l : Bs, l.dropWhile (· != 10) = l.drop (l.takeWhile (· != 10)).length := by
          intro l
          induction l with
          | nil => rfl
          | cons c l ih =>
            rw [List.dropWhile_cons, List.takeWhile_cons]
            by_cases hc : (c != 10) = true
            · rw [if_pos hc, if_pos hc, List.length_cons, List.drop_succ_cons]; exact ih
            · rw [if_neg hc, if_neg hc]; rfl
        rw [key, List.drop_drop]
      have h3 : s.length = (s.takeWhile (· != 10)).length + (1 + (s.drop ((s.takeWhile (· != 10)).length + 1)).length) := by
        conv => lhs; rw [e]
        rw [List.length_append, List.length_cons]; omega
      rw [h2]; unfold lineOf; omega
    omega
  · have := line_all hm
    rw [this.1, this.2, lines_nil]; simp
end Fx
/-- Rows that were read, written again. -/
theorem again_is {T : List Int} {s : Fx.Bs} (hT : T.length ≤ 60) (hs : s.length ≤ 2000) (hne : rdRows T s ≠ []) : wrOk T (rdRows T s) = true ∧ (wrText T (rdRows T s)).length ≤ 2001 := by
  have hm : rdMany T s = false := by unfold rdMany; simp; omega
  have e : rdRows T s = (Fx.readLs T (Fx.lines s)).1 := by unfold rdRows; rw [hm]; rfl
  have h1 := (Fx.rows_read T (Fx.lines s)).1
  rw [← e] at h1
  have hok : wrOk T (rdRows T s) = true := by
    unfold wrOk Fx.writeOk
    obtain ⟨r, hr⟩ := List.exists_mem_of_ne_nil _ hne
    rw [h1, Fx.rowOk_types (List.all_eq_true.1 h1 r hr)]
    simp; omega
  refine ⟨hok, ?_⟩
  unfold wrText
  rw [hok, e]
  have h2 := Fx.text_lines T (Fx.lines s)
  have h3 := Fx.lines_sum s
  simp only [if_true]; omega
end Go.Proofs.YtffifljfbeaodaaDoor
