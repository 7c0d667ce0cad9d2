/- The laws' loop over the script: its frame. -/
import Derived.Test.YtehknmcoccikhaaMc
import Derived.Deep.AppendLies
namespace Go.Proofs.Ytehknmcoccikhaa
open Go.RowKit

/-- The script lies so in the world. -/
def ScrAt (w : World) (a : Option Addr) (n : Nat) : Prop := ∀ i, i < n → ∃ (sb so : Nat) (d j f g h : Int) (b : Bool), a = some ⟨sb, so, none⟩ ∧ sb < w.heap.size ∧
  w.cell? ⟨sb, so + i * 6, none⟩ = some (.int .i64 d) ∧ w.cell? ⟨sb, so + i * 6 + 1, none⟩ = some (.int .i64 j) ∧ w.cell? ⟨sb, so + i * 6 + 2, none⟩ = some (.int .i64 f) ∧
  w.cell? ⟨sb, so + i * 6 + 3, none⟩ = some (.int .i64 g) ∧ w.cell? ⟨sb, so + i * 6 + 4, none⟩ = some (.int .i64 h) ∧ w.cell? ⟨sb, so + i * 6 + 5, none⟩ = some (.bool b) ∧
  (-9223372036854775808 ≤ j ∧ j ≤ 9223372036854775807) ∧ (-9223372036854775808 ≤ f ∧ f ≤ 9223372036854775807) ∧ (-9223372036854775808 ≤ g ∧ g ≤ 9223372036854775807) ∧ (-9223372036854775808 ≤ h ∧ h ≤ 9223372036854775807)

theorem ScrAt.below {w w' : World} {a : Option Addr} {n : Nat} (h : ScrAt w a n) (hb : Below w.heap.size w w') : ScrAt w' a n := by
  intro i hi
  obtain ⟨sb, so, d, j, f, g, k, b, ha, hl, c0, c1, c2, c3, c4, c5, r⟩ := h i hi
  exact ⟨sb, so, d, j, f, g, k, b, ha, Nat.lt_of_lt_of_le hl hb.size, (hb.cell hl).trans c0, (hb.cell hl).trans c1, (hb.cell hl).trans c2, (hb.cell hl).trans c3, (hb.cell hl).trans c4, (hb.cell hl).trans c5, r⟩

/-- What the loop keeps, behind k calls. -/
structure Lp (w0 w : World) (p vars budget k : Nat) (lv : Value) (s : St) (L : List Mk) : Prop where
  run : Run w0 w s p
  made : MadeAt w s w0.heap.size lv L
  two : 2 ≤ L.length
  len : L.length ≤ 2 + k
  hv : s.vars = vars
  hb : s.budget = budget
  ns : s.ns.length ≤ 2 + 96 * k

theorem Lp.ap {w0 w : World} {p vars budget k : Nat} {lv : Value} {s : St} {L : List Mk} (h : Lp w0 w p vars budget k lv s L) : ∃ g c, lv = .slice (some ⟨g, 0, none⟩) L.length c ∧ w0.heap.size ≤ g ∧ g < w.heap.size := by
  obtain ⟨g, c, hv, _, hg⟩ := World.ownsRow.form h.made.own (by have := h.two; omega)
  exact ⟨g, c, hv, (h.made.own.lt g (by rw [hv]; rfl)).1, hg⟩

theorem pow5 {v : Nat} (h : v ≤ 5) : 2 ^ v ≤ 32 := Nat.pow_le_pow_right (n := 2) (by omega) h

/-- The loop's state behind one more call that made a function. -/
theorem Lp.grown {w0 w w1 w2 : World} {p vars budget k : Nat} {lv tv : Value} {s s' : St} {L : List Mk} {r : Nat} {φ : (Nat → Bool) → Bool} {g cap : Nat} (h : Lp w0 w p vars budget k lv s L) (hv5 : vars ≤ 5)
    (R : Run w0 w1 s' p) (hM : More w s s') (hF : Fr s.bl w w1) (hT : SlBools w1 tv (tab s.vars φ)) (hA : Apart s' tv) (hnew : ∀ k, tv.ownBlock = some k → w.heap.size ≤ k) (hns : s'.ns.length ≤ s.ns.length + 3 * 2 ^ s.vars) (hφ : Fun s' r φ)
    (hown : w2.ownsRow w0.heap.size 32 2 (.slice (some ⟨g, 0, none⟩) (L.length + 1) cap) (L.length + 1) (flatM L ++ [.int .i64 r, tv]))
    (hgrow : (w1.alloc (.cells #[.int .i64 r, tv] 32)).grownBy w2 lv.ownBlock) (hat : lv.ownBlock = some g ∨ g = w1.heap.size + 1) :
    ∃ L', Lp w0 w2 p vars budget (k + 1) (.slice (some ⟨g, 0, none⟩) (L.length + 1) cap) s' L' := by
  obtain ⟨x, rfl, rfl, rfl, hxb, hxo⟩ := mk_of r hT
  have M1 := h.made.step h.run.store R.store hM hF
  have hp := pow5 hv5
  have hlv : ∀ q, lv.ownBlock = some q → w0.heap.size ≤ q ∧ q < w.heap.size := fun q hq => h.made.own.lt q hq
  obtain ⟨M2, S2, keep⟩ := M1.push (x := x) R.store hφ (by rw [hM.vars]; exact hT) hA (fun q hq e => by
      have a := (hlv q hq).2
      have b := hnew _ hxo
      omega) hxb M1.tlt hown hgrow hat
  refine ⟨L ++ [x], ⟨⟨S2, ?_, R.up, R.sb⟩, ?_, by have := h.two; simp; omega, by have := h.len; simp; omega, hM.vars.trans h.hv, hM.budget.trans h.hb, by have := h.ns; rw [h.hv] at hns; omega⟩⟩
  · exact (R.below.alloc R.below.size _).grown hgrow (by have := R.below.size; simp; omega) (fun q hq => (hlv q hq).1)
  · simpa using M2

theorem Lp.same {w0 w w1 : World} {p vars budget k : Nat} {lv : Value} {s s' : St} {L : List Mk} (h : Lp w0 w p vars budget k lv s L) (hv5 : vars ≤ 5)
    (R : Run w0 w1 s' p) (hM : More w s s') (hF : Fr s.bl w w1) (hns : s'.ns.length ≤ s.ns.length + 3 * 2 ^ s.vars) : Lp w0 w1 p vars budget (k + 1) lv s' L := by
  have hp := pow5 hv5
  exact ⟨R, h.made.step h.run.store R.store hM hF, h.two, by have := h.len; omega, hM.vars.trans h.hv, hM.budget.trans h.hb, by have := h.ns; rw [h.hv] at hns; omega⟩
end Go.Proofs.Ytehknmcoccikhaa
