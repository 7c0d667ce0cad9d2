/- Slices that read as lists, each element in some cells; appends of one element. -/
import Derived.WalkKit
import Derived.WalkSpells
import Derived.Deep.Onto
import Derived.Deep.AppendLies
import Derived.Deep.Draws
import Derived.OwnWalk
namespace Go.Proofs.YtffifljfbeaodaaDoor
open Go.RowKit

theorem below_drawn {B : Nat} {a w : World} (h : Below B a w) (n : Nat) : Below B a (w.drewN n) := ⟨h.os, h.tape, h.output, h.size, h.block⟩
theorem below_grow {w w' : World} (h : Below w.heap.size w w') (row : Option Nat) : w.grownBy w' row := ⟨h.os, h.tape, h.output, h.size, fun k hk _ => h.block k hk⟩
/-- Two steps, each of which turns nothing that was there. -/
theorem below_next {a w w' : World} (h : Below a.heap.size a w) (k : Below w.heap.size w w') : Below a.heap.size a w' := h.trans (k.mono h.size)
theorem below_row {w w' : World} (h : Below w.heap.size w w') {base e size n : Nat} {v : Value} {xs : List Value} (ho : w.ownsRow base e size v n xs) : w'.ownsRow base e size v n xs :=
  ho.kept (below_grow h none) (by cases v.ownBlock <;> simp)

/-- A slice that reads as a list; each element in k cells. -/
def Sl {α : Type} (enc : α → List Value) (k : Nat) (w : World) (v : Value) (l : List α) : Prop :=
  (l = [] ∧ ∃ a c, v = .slice a 0 c) ∨ ∃ b o c, v = .slice (some ⟨b, o, none⟩) l.length c ∧ l.length ≤ c ∧ b < w.heap.size ∧ ∀ i x, l[i]? = some x → ∀ j u, (enc x)[j]? = some u → w.cell? ⟨b, o + i * k + j, none⟩ = some u

section
variable {α : Type} {enc : α → List Value} {k : Nat} {w w' : World} {v : Value} {l : List α}
theorem Sl.nil_ : Sl enc k w (.slice none 0 0) [] := Or.inl ⟨rfl, none, 0, rfl⟩
theorem Sl.below (h : Sl enc k w v l) (hb : Below w.heap.size w w') : Sl enc k w' v l := by
  rcases h with h | ⟨b, o, c, rfl, hc, hlt, hx⟩
  · exact Or.inl h
  · exact Or.inr ⟨b, o, c, rfl, hc, Nat.lt_of_lt_of_le hlt hb.size, fun i x hi j u hu => (hb.cell (p := ⟨b, o + i * k + j, none⟩) hlt).trans (hx i x hi j u hu)⟩
/-- As a walk wants it: the address a letter. -/
theorem Sl.form (h : Sl enc k w v l) : ∃ a c, v = .slice a l.length c ∧ l.length ≤ c ∧ ∀ W, Below w.heap.size w W → ∀ i x, l[i]? = some x → ∃ b o, a = some ⟨b, o, none⟩ ∧ ∀ j u, (enc x)[j]? = some u → W.cell? ⟨b, o + i * k + j, none⟩ = some u := by
  rcases h with ⟨rfl, a, c, rfl⟩ | ⟨b, o, c, rfl, hc, hlt, hx⟩
  · exact ⟨a, c, rfl, Nat.zero_le _, fun W _ i x hi => by simp at hi⟩
  · exact ⟨_, c, rfl, hc, fun W hW i x hi => ⟨b, o, rfl, fun j u hu => (hW.cell (p := ⟨b, o + i * k + j, none⟩) hlt).trans (hx i x hi j u hu)⟩⟩
end

theorem flatMap_cell {α : Type} {enc : α → List Value} {k : Nat} (hk : ∀ x, (enc x).length = k) : ∀ (l : List α) (i : Nat) (x : α), l[i]? = some x → ∀ j u, (enc x)[j]? = some u → (l.flatMap enc)[i * k + j]? = some u
  | [], i, x, h, _, _, _ => by simp at h
  | y :: r, 0, x, h, j, u, hu => by
    simp at h; subst h
    have hj : j < (enc y).length := (List.getElem?_eq_some_iff.1 hu).1
    rw [List.flatMap_cons, Nat.zero_mul, Nat.zero_add, List.getElem?_append_left hj]; exact hu
  | y :: r, i + 1, x, h, j, u, hu => by
    have h' : r[i]? = some x := by simpa using h
    have := flatMap_cell hk r i x h' j u hu
    rw [List.flatMap_cons, List.getElem?_append_right (by rw [hk, Nat.add_mul]; omega), hk, show (i + 1) * k + j - k = i * k + j by rw [Nat.add_mul]; omega]
    exact this
theorem flatMap_len {α : Type} {enc : α → List Value} {k : Nat} (hk : ∀ x, (enc x).length = k) : ∀ (l : List α), (l.flatMap enc).length = l.length * k
  | [] => by simp
  | y :: r => by rw [List.flatMap_cons, List.length_append, hk, flatMap_len hk r, List.length_cons, Nat.add_mul]; omega

/-- What the call made reads as it was made. -/
theorem Sl.own {α : Type} {enc : α → List Value} {k : Nat} (hk : ∀ x, (enc x).length = k) {w : World} {v : Value} {l : List α} {base e n : Nat} (h : w.ownsRow base e k v n (l.flatMap enc)) (hn : l.length = n) : Sl enc k w v l := by
  subst hn
  rcases h.2 with ⟨rfl, h0⟩ | ⟨g, cap, cur, rfl, _, hg, hcap, _, hsz, htake⟩
  · exact Or.inl ⟨List.eq_nil_of_length_eq_zero h0, none, 0, rfl⟩
  · refine Or.inr ⟨g, 0, cap, rfl, hcap, (Array.getElem?_eq_some_iff.1 hg).1, fun i x hi j u hu => ?_⟩
    have hc := flatMap_cell hk l i x hi j u hu
    rw [cell_of_row w g (0 + i * k + j) cur e (0, 0) hg, Nat.zero_add]
    rw [← htake, List.getElem?_take] at hc
    split at hc
    · simpa using hc
    · cases hc

/-! ### appends -/
/-- A slice type of a program: its elements, their cells, their bytes. -/
structure RowTy (P : Program) (t e size bytes : Nat) : Prop where
  ht : P.underlying t = some (.slice e)
  ex : ∃ i z, P.info? e = some i ∧ i.zero = some z ∧ i.size = size ∧ i.bytes = bytes ∧ z.cells.size = size
  pos : 0 < size

theorem RowTy.mk' {P : Program} {t e size bytes : Nat} {z : Value} (ht : P.underlying t = some (.slice e)) (h : (P.info? e).map (fun i => (i.zero, i.size, i.bytes)) = some (some z, size, bytes)) (hz : z.cells.size = size) (hp : 0 < size) : RowTy P t e size bytes := by
  obtain ⟨i, hi, a, b, c⟩ := info_parts h
  exact ⟨ht, ⟨i, z, hi, a, b, c, hz⟩, hp⟩

/-- append of one element, at the operation. -/
theorem wpList_app {P : Program} {w : World} {ops : Array Oper} {rest : List Oper} {o : Oper} {a : Act} {Q : Exit → Act → World → Prop} {t e size bytes : Nat} (R : RowTy P t e size bytes) (hgd : o.guard = none) (s x : Operand)
    (ho : o.op = .call { callee := .builtin .append, args := #[s, x], argTypes := #[t, t] })
    (base : Nat) (v : Value) (n : Nat) (xs : List Value) (hs : a.eval s = v) (hown : w.ownsRow base e size v n xs)
    (ad : Addr) (c : Nat) (news : List Value) (hx : a.eval x = .slice (some ad) 1 c) (hl : news.length = size) (hnews : ∀ j u, news[j]? = some u → w.cell? (ad.add j) = some u) (h1 : ∀ u ∈ news, u.oneCell' = true)
    (hn : (n + 1) * (bytes + 1) ≤ 140737488355328) (hbase : base ≤ w.heap.size) (H : Nat) (hH : w.heap.size = H)
    (h : ∀ g cap w', w'.ownsRow base e size (.slice (some ⟨g, 0, none⟩) (n + 1) cap) (n + 1) (xs ++ news) → w.grownBy w' v.ownBlock → (v.ownBlock = some g ∨ g = H) → g < w'.heap.size → n + 1 ≤ cap → wpList P ops Q rest (a.put o.dst (.slice (some ⟨g, 0, none⟩) (n + 1) cap)) w') : wpList P ops Q (o :: rest) a w := by
  obtain ⟨i, z, hi, hz, hsize, hby, hzs⟩ := R.ex
  have hb : (n + 1) * bytes ≤ 140737488355328 := Nat.le_trans (Nat.mul_le_mul_left _ (by omega)) hn
  have hm : n + 1 ≤ maxLen := by
    have : (n + 1) * 1 ≤ (n + 1) * (bytes + 1) := Nat.mul_le_mul_left _ (by omega)
    unfold maxLen; omega
  refine wpList_append_lies w hgd s x t ho base e i z size bytes R.ht hi hz hsize hby hzs R.pos v n xs hs hown ad 1 c news hx (by rw [hl]; omega) hnews h1 (by omega) hm hb hbase H hH ?_
  intro g cap w' ho' hg hat hlt
  refine h g cap w' ho' hg hat hlt ?_
  rcases ho'.2 with ⟨h0, _⟩ | ⟨g', cap', cur, h0, _, _, hc, _⟩
  · cases h0
  · cases h0; exact hc
end Go.Proofs.YtffifljfbeaodaaDoor
