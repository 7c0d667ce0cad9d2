/- What a walk wants, over and over: blocks known whole, slices of numbers, rows of rows; what the library says as plain functions. -/
import Derived.Test.YtffifljfbeaodaaDoorSl
import Derived.Test.YtffifljfbeaodaaDoorFb
import Derived.Lib.AtoiTie
import Derived.Lib.SplitLaws
import Derived.Lib.ItoaNum
import Derived.Lib.Split
namespace Go.Proofs.YtffifljfbeaodaaDoor
open Go.RowKit Go.Shelf

theorem bytes_ext {a b : ByteArray} (h : a.data.toList = b.data.toList) : a = b := by
  obtain ⟨⟨a⟩⟩ := a
  obtain ⟨⟨b⟩⟩ := b
  simp at h; rw [h]
theorem list_size (s : ByteArray) : s.data.toList.length = s.size := by rw [Array.length_toList]; rfl
theorem concat_list (a b : ByteArray) : (a ++ b).data.toList = a.data.toList ++ b.data.toList := by simp
theorem ret_bool {a b : Bool} (h : a = b) : Ending.returned (.bool a) = .returned (.bool b) := by rw [h]
theorem ret_string {a b : ByteArray} (h : a = b) : Ending.returned (.string a) = .returned (.string b) := by rw [h]
theorem fields_eq {P : Program} {t : TypeId} {fs : Array Field} (h : P.underlying t = some (.struct fs)) : P.fieldsOf t = fs := by unfold Program.fieldsOf; rw [h]

/-- A block that is known whole. -/
def Blk (w : World) (b : Nat) (cs : Array Value) (T : Nat) : Prop := w.heap[b]? = some (.cells cs T (0, 0))
theorem Blk.new (w : World) (cs : Array Value) (T : Nat) : Blk (w.alloc (.cells cs T)) w.heap.size cs T := heap_alloc_new w _
theorem Blk.below {w w' : World} {b T : Nat} {cs : Array Value} (h : Blk w b cs T) (hb : Below w.heap.size w w') : Blk w' b cs T := (hb.block b (Array.getElem?_eq_some_iff.1 h).1).trans h
theorem Blk.lt {w : World} {b T : Nat} {cs : Array Value} (h : Blk w b cs T) : b < w.heap.size := (Array.getElem?_eq_some_iff.1 h).1
theorem one_cell {W : World} {b T : Nat} {x : Value} (h : Blk W b #[x] T) : W.cell? ⟨b, 0, none⟩ = some x ∧ W.frozen? ⟨b, 0, none⟩ = false := by
  unfold Blk at h; exact ⟨by simp [World.cell?, h], by simp [World.frozen?, h]⟩
theorem two_cells {W : World} {b T : Nat} {x y : Value} (h : Blk W b #[x, y] T) :
    W.cell? ⟨b, 0, none⟩ = some x ∧ W.cell? ⟨b, 1, none⟩ = some y ∧ W.frozen? ⟨b, 0, none⟩ = false ∧ W.frozen? ⟨b, 1, none⟩ = false := by
  unfold Blk at h; exact ⟨by simp [World.cell?, h], by simp [World.cell?, h], by simp [World.frozen?, h], by simp [World.frozen?, h]⟩
theorem Blk.set1 {W : World} {b T : Nat} {x : Value} (h : Blk W b #[x] T) (y : Value) : Blk (W.setCell ⟨b, 0, none⟩ y) b #[y] T := by
  unfold Blk at h ⊢
  simp [World.setCell, Array.getElem?_modify, h]
theorem Blk.other {W : World} {b T : Nat} {cs : Array Value} (h : Blk W b cs T) {p : Nat} (i : Nat) (hp : b ≠ p) (y : Value) : Blk (W.setCell ⟨p, i, none⟩ y) b cs T := by
  unfold Blk at h ⊢
  rw [Below.heap_setCell _ _ _ _ hp]; exact h

/-- A slice that a literal lays. -/
theorem Sl.lit {α : Type} {enc : α → List Value} {k : Nat} (hk : ∀ x, (enc x).length = k) {w : World} {b c T : Nat} {fr : Nat × Nat} {l : List α} (h : w.heap[b]? = some (.cells (l.flatMap enc).toArray T fr)) (hc : l.length ≤ c) : Sl enc k w (.slice (some ⟨b, 0, none⟩) l.length c) l :=
  Or.inr ⟨b, 0, c, rfl, hc, (Array.getElem?_eq_some_iff.1 h).1, fun i x hi j u hu => by
    rw [cell_of_row w b (0 + i * k + j) _ T fr h, Nat.zero_add]
    have := flatMap_cell hk l i x hi j u hu
    simpa using this⟩
/-- The first of them. -/
theorem Sl.take {α : Type} {enc : α → List Value} {k : Nat} {w : World} {a : Option Addr} {l : List α} {c n : Nat} (h : Sl enc k w (.slice a l.length c) l) (hn : n ≤ l.length) : Sl enc k w (.slice a n c) (l.take n) := by
  rcases h with ⟨h2, a', c', h1⟩ | ⟨b, o, c', h1, hc, hlt, hx⟩
  · subst h2; simp at hn; subst hn; exact Or.inl ⟨rfl, _, _, rfl⟩
  · simp only [Value.slice.injEq] at h1
    obtain ⟨rfl, _, rfl⟩ := h1
    refine Or.inr ⟨b, o, c, by rw [List.length_take, Nat.min_eq_left hn], by rw [List.length_take]; omega, hlt, fun i x hi j u hu => hx i x ?_ j u hu⟩
    rw [List.getElem?_take] at hi
    split at hi
    · exact hi
    · cases hi

def intC (x : Int) : List Value := [.int .i64 x]
theorem intC_len (x : Int) : (intC x).length = 1 := rfl
def strC (s : ByteArray) : List Value := [.string s]
theorem strC_len (x : ByteArray) : (strC x).length = 1 := rfl
def oneC (v : Value) : List Value := [v]
theorem oneC_len (x : Value) : (oneC x).length = 1 := rfl
theorem flat_one (l : List Value) : l.flatMap oneC = l := by induction l with
  | nil => rfl
  | cons a l ih => simp [List.flatMap_cons, oneC, ih]
/-- A slice of slices of numbers. -/
def Rs (w : World) (v : Value) (l : List (List Int)) : Prop := ∃ vs : List Value, Sl oneC 1 w v vs ∧ vs.length = l.length ∧ ∀ (i : Nat) (u : Value) (r : List Int), vs[i]? = some u → l[i]? = some r → Sl intC 1 w u r
theorem Rs.below {w w' : World} {v : Value} {l : List (List Int)} (h : Rs w v l) (hb : Below w.heap.size w w') : Rs w' v l := by
  obtain ⟨vs, h1, h2, h3⟩ := h
  exact ⟨vs, h1.below hb, h2, fun i u r hu hr => (h3 i u r hu hr).below hb⟩
theorem Rs.nil_ (w : World) : Rs w (.slice none 0 0) [] := ⟨[], Sl.nil_, rfl, fun i u r hu => by simp at hu⟩
theorem Rs.take {w : World} {a : Option Addr} {l : List (List Int)} {c n : Nat} (h : Rs w (.slice a l.length c) l) (hn : n ≤ l.length) : Rs w (.slice a n c) (l.take n) := by
  obtain ⟨vs, h1, h2, h3⟩ := h
  refine ⟨vs.take n, Sl.take (by rw [h2]; exact h1) (by omega), by simp [h2], fun i u r hu hr => ?_⟩
  rw [List.getElem?_take] at hu hr
  by_cases hin : i < n
  · rw [if_pos hin] at hu hr; exact h3 i u r hu hr
  · rw [if_neg hin] at hu; cases hu
/-- As a walk wants it. -/
theorem Rs.form {w : World} {v : Value} {l : List (List Int)} (h : Rs w v l) : ∃ a c, v = .slice a l.length c ∧ l.length ≤ c ∧ ∀ W, Below w.heap.size w W → ∀ i r, l[i]? = some r → ∃ b o u, a = some ⟨b, o, none⟩ ∧ W.cell? ⟨b, o + i, none⟩ = some u ∧ Sl intC 1 W u r := by
  obtain ⟨vs, h1, h2, h3⟩ := h
  obtain ⟨a, c, rfl, hc, hx⟩ := h1.form
  refine ⟨a, c, by rw [h2], by omega, fun W hW i r hr => ?_⟩
  obtain ⟨u, hu⟩ : ∃ u, vs[i]? = some u := ⟨_, List.getElem?_eq_getElem (by rw [h2]; exact (List.getElem?_eq_some_iff.1 hr).1)⟩
  obtain ⟨b, o, ha, hb⟩ := hx W hW i u hu
  exact ⟨b, o, u, ha, by have := hb 0 u rfl; simpa using this, (h3 i u r hu hr).below hW⟩

/-! ### the library's plain functions -/
namespace Fx
theorem digits_dec (n : Nat) : Lib.decDigits n = dec n := by
  induction n using Nat.strongRecOn with
  | _ n ih =>
    rw [Lib.decDigits]
    by_cases h : n < 10
    · rw [dif_pos h, dec_small h]; rfl
    · rw [dif_neg h, dec_big h, ih (n / 10) (by omega)]; rfl
theorem lib_itoa (n : Int) : Lib.itoa n = itoa n := by unfold Lib.itoa itoa; simp only [digits_dec]

theorem decFrom_all : ∀ (l : Bs) (a : Nat), l.all isD = true → Lib.decFrom a l = some (l.foldl (fun n c => 10 * n + (c.toNat - 48)) a)
  | [], a, _ => rfl
  | c :: r, a, h => by
    simp only [List.all_cons, Bool.and_eq_true] at h
    have hc := isD_nat h.1
    simp only [Lib.decFrom, Lib.digitVal, if_pos hc, List.foldl_cons]
    rw [decFrom_all r _ h.2, Nat.mul_comm]
theorem atoi_itoa {n : Int} (h : fits n = true) : Lib.atoiAll (itoa n) = .ok n := by
  have hf : -2147483648 ≤ n ∧ n ≤ 2147483647 := by simpa [fits] using h
  have key : ∀ m : Nat, m < 10000000000 → (dec m).length ≤ 10 ∧ Lib.decNat (dec m) = some m := fun m hm => by
    obtain ⟨h1, h2, h3, h4, h5⟩ := dec_is m
    refine ⟨h5 9 hm, ?_⟩
    unfold Lib.decNat
    rw [if_neg (by simpa using h3), decFrom_all _ _ h1]
    exact congrArg some h2
  unfold itoa
  by_cases hn : n < 0
  · rw [if_pos hn]
    obtain ⟨k1, k2⟩ := key n.natAbs (by omega)
    rw [Lib.atoiAll_short _ (by simp; omega)]
    simp only [Lib.atoi, beq_self_eq_true, if_true, k2, Option.map_some, Lib.NumEnd.ofOption]
    congr 1; omega
  · rw [if_neg hn]
    obtain ⟨k1, k2⟩ := key n.toNat (by omega)
    rw [Lib.atoiAll_short _ (by omega)]
    have hd := (dec_is n.toNat).1
    have hne := (dec_is n.toNat).2.2.1
    revert k2 hd hne
    generalize dec n.toNat = l
    intro k2 hd hne
    cases l with
    | nil => exact absurd rfl hne
    | cons c r =>
      simp only [List.all_cons, Bool.and_eq_true] at hd
      have hc := isD_nat hd.1
      have h45 : (c == 45) = false := by
        rw [beq_eq_false_iff_ne]; rintro rfl; exact absurd hc.1 (by decide)
      have h43 : (c == 43) = false := by
        rw [beq_eq_false_iff_ne]; rintro rfl; exact absurd hc.1 (by decide)
      simp only [Lib.atoi, h45, h43, Bool.false_eq_true, if_false, k2, Option.map_some, Lib.NumEnd.ofOption]
      congr 1; omega

theorem indexByte_is (c : UInt8) : ∀ (l : Bs), Lib.indexByte l c = if c ∈ l then ((l.takeWhile (· != c)).length : Int) else -1 := by
  intro l
  induction l with
  | nil => rfl
  | cons d l ih =>
    unfold Lib.indexByte
    by_cases hc : d = c
    · subst hc; simp
    · have h1 : (d == c) = false := by simpa using hc
      have h2 : (d != c) = true := by simpa using hc
      rw [h1]
      simp only [List.takeWhile_cons, h2, if_true, List.length_cons, ih, Bool.false_eq_true, if_false]
      by_cases hm : c ∈ l
      · have : c ∈ d :: l := by simp [hm]
        rw [if_pos hm, if_pos this]
        simp
      · have : c ∉ d :: l := by simp [hm, Ne.symm hc]
        rw [if_neg hm, if_neg this]; rfl
theorem split_at (c : UInt8) : ∀ (l : Bs), c ∈ l → l = l.takeWhile (· != c) ++ c :: l.drop ((l.takeWhile (· != c)).length + 1) := by
  intro l
  induction l with
  | nil => intro h; simp at h
  | cons d l ih =>
    intro h
    by_cases hc : d = c
    · subst hc; simp
    · have h2 : (d != c) = true := by simpa using hc
      have hm : c ∈ l := by simpa [Ne.symm hc] using h
      simp only [List.takeWhile_cons, h2, if_true, List.length_cons, List.drop_succ_cons, List.cons_append]
      exact congrArg _ (ih hm)
theorem splitK_words : ∀ (k : Nat) (s : Bs), s.count 32 ≤ k → (Lib.splitK [32] 0 k s).filter (fun w => !w.isEmpty) = words s
  | 0, s, h => by
    have hm : (32 : UInt8) ∉ s := List.count_eq_zero.1 (by omega)
    rw [words_one hm]
    simp only [Lib.splitK]
    cases s <;> simp
  | k + 1, s, h => by
    unfold Lib.splitK
    rw [Lib.index_one, indexByte_is]
    by_cases hm : (32 : UInt8) ∈ s
    · obtain ⟨w, hw⟩ : ∃ w, w = s.takeWhile (· != 32) := ⟨_, rfl⟩
      obtain ⟨r, hr⟩ : ∃ r, r = s.drop (w.length + 1) := ⟨_, rfl⟩
      have hs : s = w ++ 32 :: r := by rw [hr, hw]; exact split_at 32 s hm
      have hnw : (32 : UInt8) ∉ w := by
        rw [hw]; intro hin
        have := List.all_takeWhile (l := s) (p := (· != 32))
        rw [List.all_eq_true] at this
        have := this _ hin
        simp at this
      rw [if_pos hm, ← hw]
      have hne : ¬ (((w.length : Int)) == -1) = true := by simp
      rw [if_neg hne]
      have e1 : s.take ((w.length : Int).toNat + 0) = w := by rw [hs]; simp
      have e2 : s.drop ((w.length : Int).toNat + [(32 : UInt8)].length) = r := by rw [hr]; simp
      rw [e1, e2]
      have hc : r.count 32 ≤ k := by
        rw [hs, List.count_append, List.count_cons_self] at h; omega
      rw [List.filter_cons, splitK_words k r hc, hs, words_two hnw]
      cases w <;> simp
    · rw [if_neg hm]
      simp only [beq_self_eq_true, if_true]
      rw [words_one hm]
      cases s <;> simp
theorem split_words (s : Bs) : (Lib.split s [32]).filter (fun w => !w.isEmpty) = words s := splitK_words _ _ (by rw [Lib.count_one]; exact Nat.le_refl _)
end Fx
end Go.Proofs.YtffifljfbeaodaaDoor
