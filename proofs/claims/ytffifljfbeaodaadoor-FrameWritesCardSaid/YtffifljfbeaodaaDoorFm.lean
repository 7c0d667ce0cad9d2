/- What is written: lengths; frame.Write. -/
import Derived.Test.YtffifljfbeaodaaDoorFl
import Derived.Test.YtffifljfbeaodaaDoorBw
namespace Go.Proofs.YtffifljfbeaodaaDoor
open Go.RowKit Go.Shelf

theorem wrap_fits' (n : Int) : (wrap64 (RowKit.wrap32 n) == n) = Fx.fits n := by
  unfold Fx.fits wrap64 RowKit.wrap32
  rw [Bool.eq_iff_iff]
  simp only [beq_iff_eq, Bool.and_eq_true, decide_eq_true_eq]
  omega
theorem Fits_all (n : Int) (w : World) : Calls Tryd.prog 22 #[.int .i64 n] w fun e w' => e = .returned (.bool (Fx.fits n)) ∧ w' = w := by
  go_enter Tryd.func22, Tryd.ntmps22
  go_wp2_with fail
  go_ret
  exact ⟨ret_bool (wrap_fits' n), rfl⟩
namespace Fx
/-- A row's text so far. -/
def pt (T r : List Int) (i : Nat) : Bs := joinW (List.zipWith text (T.take i) (r.take i))
theorem zip_take (T r : List Int) {i : Nat} {t n : Int} (ht : T[i]? = some t) (hn : r[i]? = some n) : List.zipWith text (T.take (i + 1)) (r.take (i + 1)) = List.zipWith text (T.take i) (r.take i) ++ [text t n] := by
  have h1 := (List.getElem?_eq_some_iff.1 ht).1
  have h2 := (List.getElem?_eq_some_iff.1 hn).1
  rw [List.take_add_one, List.take_add_one, ht, hn]
  simp only [Option.toList_some]
  rw [List.zipWith_append (by rw [List.length_take, List.length_take]; omega)]; rfl
theorem pt_succ (T r : List Int) {i : Nat} {t n : Int} (ht : T[i]? = some t) (hn : r[i]? = some n) : pt T r (i + 1) = if i = 0 then text t n else pt T r i ++ 32 :: text t n := by
  have h1 := (List.getElem?_eq_some_iff.1 ht).1
  have h2 := (List.getElem?_eq_some_iff.1 hn).1
  unfold pt
  rw [zip_take T r ht hn, join_snoc]
  by_cases hi : i = 0
  · subst hi; simp
  · rw [if_neg hi, if_neg]
    intro h
    have := congrArg List.length h
    rw [List.length_zipWith, List.length_take, List.length_take, List.length_nil] at this
    omega
theorem pt_zero (T r : List Int) : pt T r 0 = [] := rfl
theorem text_len {t n : Int} (h : may t n = true) : (text t n).length ≤ 11 := by
  unfold text
  split
  · split <;> simp [tru, fal]
  · rename_i h1
    have hf : fits n = true := by
      unfold may at h; simp [h1] at h; exact h.2
    have hf2 : -2147483648 ≤ n ∧ n ≤ 2147483647 := by simpa [fits] using hf
    unfold itoa
    split
    · have := (dec_is n.natAbs).2.2.2.2 9 (by omega); simp; omega
    · have := (dec_is n.toNat).2.2.2.2 9 (by omega); omega
theorem rowOk_take {T r : List Int} {i : Nat} {t n : Int} (ht : T[i]? = some t) (hn : r[i]? = some n) : rowOk (T.take (i + 1)) (r.take (i + 1)) = (rowOk (T.take i) (r.take i) && may t n) := by
  induction i generalizing T r with
  | zero =>
    cases T with
    | nil => simp at ht
    | cons a T => cases r with
      | nil => simp at hn
      | cons b r => simp at ht hn; subst ht hn; simp [rowOk]
  | succ i ih =>
    cases T with
    | nil => simp at ht
    | cons a T => cases r with
      | nil => simp at hn
      | cons b r =>
        simp only [List.getElem?_cons_succ] at ht hn
        simp only [List.take_succ_cons, rowOk, ih ht hn, Bool.and_assoc]
theorem rowOk_no {T r : List Int} {i : Nat} {t n : Int} (ht : T[i]? = some t) (hn : r[i]? = some n) (h : may t n = false) : rowOk T r = false := by
  induction i generalizing T r with
  | zero =>
    cases T with
    | nil => simp at ht
    | cons a T => cases r with
      | nil => simp at hn
      | cons b r => simp at ht hn; subst ht hn; simp [rowOk, h]
  | succ i ih =>
    cases T with
    | nil => simp at ht
    | cons a T => cases r with
      | nil => simp at hn
      | cons b r =>
        simp only [List.getElem?_cons_succ] at ht hn
        simp [rowOk, ih ht hn]
theorem pt_len {T r : List Int} : ∀ {i : Nat}, i ≤ T.length → i ≤ r.length → rowOk (T.take i) (r.take i) = true → (pt T r i).length ≤ 12 * i
  | 0, _, _, _ => by simp [pt_zero]
  | i + 1, h1, h2, h => by
    obtain ⟨t, ht⟩ : ∃ t, T[i]? = some t := ⟨_, List.getElem?_eq_getElem (by omega)⟩
    obtain ⟨n, hn⟩ : ∃ n, r[i]? = some n := ⟨_, List.getElem?_eq_getElem (by omega)⟩
    rw [rowOk_take ht hn, Bool.and_eq_true] at h
    have h3 := pt_len (by omega) (by omega) h.1
    have h4 := text_len h.2
    rw [pt_succ T r ht hn]
    split
    · omega
    · simp; omega
theorem pt_full {T r : List Int} (h : r.length = T.length) : pt T r T.length ++ [10] = rowText T r := by
  unfold pt rowText
  rw [List.take_of_length_le (Nat.le_refl _), List.take_of_length_le (by omega)]
theorem writeText_succ (T : List Int) {R : List (List Int)} {j : Nat} {r : List Int} (h : R[j]? = some r) : writeText T (R.take (j + 1)) = writeText T (R.take j) ++ rowText T r := by
  unfold writeText
  rw [List.take_add_one, h]; simp
theorem writeText_len (T : List Int) : ∀ (R : List (List Int)), R.all (rowOk T) = true → (writeText T R).length ≤ R.length * (12 * T.length + 1)
  | [], _ => by simp [writeText]
  | r :: R, h => by
    simp only [List.all_cons, Bool.and_eq_true] at h
    have h1 := writeText_len T R h.2
    have h2 := rowOk_len h.1
    have h3 : (rowText T r).length ≤ 12 * T.length + 1 := by
      rw [← pt_full h2]
      have := pt_len (T := T) (r := r) (i := T.length) (Nat.le_refl _) (by omega) (by rw [List.take_of_length_le (Nat.le_refl _), List.take_of_length_le (by omega)]; exact h.1)
      simp; omega
    have e : writeText T (r :: R) = rowText T r ++ writeText T R := rfl
    rw [e, List.length_append, List.length_cons, Nat.add_mul]; omega
end Fx
end Go.Proofs.YtffifljfbeaodaaDoor
