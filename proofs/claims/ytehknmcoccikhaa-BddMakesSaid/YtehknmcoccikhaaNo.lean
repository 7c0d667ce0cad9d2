/- The script, opened. -/
import Derived.Test.YtehknmcoccikhaaRows
import Derived.Test.YtehknmcoccikhaaNa
import Derived.ProofKit
import Derived.OpenShut
import Derived.Lib.SmallJoins
import Derived.Deep.Slices
namespace Go.Proofs.Ytehknmcoccikhaa
open Go.ChangeShapes Go.WideShapes Go.ChangeAt Go.RowKit Go.Deep Go.Joins

theorem cellsOp : Try.prog.cellsOf 37 = 6 := by kernel_rfl
theorem cellsInt : Try.prog.cellsOf 3 = 1 := by kernel_rfl
theorem cellsBool : Try.prog.cellsOf 4 = 1 := by kernel_rfl

theorem wf_i64 {n : Int} (h : (Lit.int .i64 n).wf = true) : -9223372036854775808 ≤ n ∧ n ≤ 9223372036854775807 := by
  simp [Lit.wf, IntKind.min, IntKind.max, IntKind.signed, IntKind.bits] at h
  omega

theorem op_cells {H : Type} {enc : TypeId × Value → H} {W : World} {base : Nat} {spare : Nat → Bool} {held : Bool} {fuel : Nat} {cs : List Value} {x : DataW H × List MemPlace} (h : DataW.trod enc Try.prog W base spare held fuel 37 cs = some x) :
    ∃ (d j f g k : Int) (b : Bool), cs = [.int .i64 d, .int .i64 j, .int .i64 f, .int .i64 g, .int .i64 k, .bool b] ∧
      (-9223372036854775808 ≤ j ∧ j ≤ 9223372036854775807) ∧ (-9223372036854775808 ≤ f ∧ f ≤ 9223372036854775807) ∧ (-9223372036854775808 ≤ g ∧ g ≤ 9223372036854775807) ∧ (-9223372036854775808 ≤ k ∧ k ≤ 9223372036854775807) := by
  obtain ⟨xs, n, _, _, hl, hxs, hx⟩ := DataW.trod_struct Try.underlying37 h
  rw [cellsOp] at hl
  have hxs6 : xs.length = 6 := hxs
  match cs, hl with
  | [c0, c1, c2, c3, c4, c5], _ =>
    have one : ∀ i, i < 6 → ∃ y, xs[i]? = some y := fun i hi => ⟨_, List.getElem?_eq_getElem (by omega)⟩
    have i0 : DataW.trod enc Try.prog W base spare held n 3 (List.take (Try.prog.cellsOf 3) [c0, c1, c2, c3, c4, c5]) = xs[0]? := hx 0 _ rfl
    have i1 : DataW.trod enc Try.prog W base spare held n 3 (List.take (Try.prog.cellsOf 3) [c1, c2, c3, c4, c5]) = xs[1]? := hx 1 _ rfl
    have i2 : DataW.trod enc Try.prog W base spare held n 3 (List.take (Try.prog.cellsOf 3) [c2, c3, c4, c5]) = xs[2]? := hx 2 _ rfl
    have i3 : DataW.trod enc Try.prog W base spare held n 3 (List.take (Try.prog.cellsOf 3) [c3, c4, c5]) = xs[3]? := hx 3 _ rfl
    have i4 : DataW.trod enc Try.prog W base spare held n 3 (List.take (Try.prog.cellsOf 3) [c4, c5]) = xs[4]? := hx 4 _ rfl
    have i5 : DataW.trod enc Try.prog W base spare held n 4 (List.take (Try.prog.cellsOf 4) [c5]) = xs[5]? := hx 5 _ rfl
    obtain ⟨y0, e0⟩ := one 0 (by omega)
    obtain ⟨y1, e1⟩ := one 1 (by omega)
    obtain ⟨y2, e2⟩ := one 2 (by omega)
    obtain ⟨y3, e3⟩ := one 3 (by omega)
    obtain ⟨y4, e4⟩ := one 4 (by omega)
    obtain ⟨y5, e5⟩ := one 5 (by omega)
    rw [cellsInt, e0] at i0
    rw [cellsInt, e1] at i1
    rw [cellsInt, e2] at i2
    rw [cellsInt, e3] at i3
    rw [cellsInt, e4] at i4
    rw [cellsBool, e5] at i5
    obtain ⟨d, q0, _, _⟩ := DataW.trod_int Try.underlying3 i0
    obtain ⟨j, q1, _, w1⟩ := DataW.trod_int Try.underlying3 i1
    obtain ⟨f, q2, _, w2⟩ := DataW.trod_int Try.underlying3 i2
    obtain ⟨g, q3, _, w3⟩ := DataW.trod_int Try.underlying3 i3
    obtain ⟨k, q4, _, w4⟩ := DataW.trod_int Try.underlying3 i4
    obtain ⟨b, q5, _⟩ := DataW.trod_bool Try.underlying4 i5
    simp at q0 q1 q2 q3 q4 q5
    subst q0 q1 q2 q3 q4 q5
    exact ⟨d, j, f, g, k, b, rfl, wf_i64 w1, wf_i64 w2, wf_i64 w3, wf_i64 w4⟩

theorem cell_spot {w : World} {a : Addr} {v : Value} (h : w.cell? a = some v) : a.spot = none ∧ a.block < w.heap.size := by
  unfold World.cell? at h
  split at h
  · rename_i hb
    refine ⟨?_, (Array.getElem?_eq_some_iff.1 hb).1⟩
    cases hs : a.spot
    · rfl
    · rw [hs] at h; simp at h
  · simp at h

theorem add_spot {a : Addr} (h : a.spot = none) (n : Nat) : a.add n = ⟨a.block, a.off + n, none⟩ := by
  unfold Addr.add
  split
  · subst_vars; cases a; simp_all
  · rfl

/-- The script, as the law is handed it. -/
theorem scr_of {H : Type} {enc : TypeId × Value → H} {W : World} {spare : Nat → Bool} {held : Bool} {fuel : Nat} {v : Value} {x : DataW H × List MemPlace} (h : DataW.trod enc Try.prog W 0 spare held fuel 22 [v] = some x) :
    ∃ a n c, v = .slice a n c ∧ ScrAt W a n := by
  rcases open_slice Try.underlying22 h with ⟨hcs, _⟩ | ⟨a, len, cap, m, n, D, Pl, hcs, _, hle, _, hm, _, hx⟩
  · simp at hcs; subst hcs; exact ⟨none, 0, 0, rfl, fun i hi => by omega⟩
  · simp at hcs; subst hcs
    refine ⟨some a, len, cap, rfl, fun i hi => ?_⟩
    have hlm : len ≤ m := by rw [hm]; split <;> omega
    rw [cellsOp] at hx
    obtain ⟨cs0, h0, t0⟩ := hx 0 (by omega)
    obtain ⟨d0, _, _, _, _, _, rfl, _⟩ := op_cells t0
    have hs := cell_spot ((World.cells?_some h0).2.2 0 (by omega))
    have hs0 : a.spot = none := by simpa [Addr.add] using hs.1
    have hs1 : a.block < W.heap.size := by simpa [Addr.add] using hs.2
    obtain ⟨cs, h1, t1⟩ := hx i (by omega)
    obtain ⟨d, j, f, g, k, b, rfl, r1, r2, r3, r4⟩ := op_cells t1
    have hc := (World.cells?_some h1).2.2
    have ha : a = ⟨a.block, a.off, none⟩ := by cases a; simp_all
    have e : ∀ q, (a.add (i * 6)).add q = ⟨a.block, a.off + i * 6 + q, none⟩ := fun q => by rw [add_spot hs0, add_spot rfl]
    refine ⟨a.block, a.off, d, j, f, g, k, b, by rw [← ha], hs1, ?_, ?_, ?_, ?_, ?_, ?_, r1, r2, r3, r4⟩
    · have := hc 0 (by omega); rw [e] at this; exact this
    · have := hc 1 (by omega); rw [e] at this; exact this
    · have := hc 2 (by omega); rw [e] at this; exact this
    · have := hc 3 (by omega); rw [e] at this; exact this
    · have := hc 4 (by omega); rw [e] at this; exact this
    · have := hc 5 (by omega); rw [e] at this; exact this
end Go.Proofs.Ytehknmcoccikhaa
