/- frame.Read at every input; the reference's words, numbers, rows. -/
import Derived.Test.YtffifljfbeaodaaDoorFf
namespace Go.Proofs.YtffifljfbeaodaaDoor
open Go.RowKit Go.Shelf

set_option maxRecDepth 100000 in
set_option maxHeartbeats 2000000 in
theorem Read_any (T : List Int) (vt : Value) (s : ByteArray) (hs : s.size ≤ 1000000) (hTl : T.length ≤ 1000000) (w : World) (G : Gl w) (ht : Sl intC 1 w vt T) :
    Calls Tryd.prog 10 #[vt, .string s] w (ReadRes T s.data.toList w) := by
  by_cases hm : rdMany T s.data.toList = true
  · obtain ⟨ta, tc, rfl, htc, hcell⟩ := ht.form
    have HM : Hid (rdMany T s.data.toList = true) := hm
    have hor : (¬ (s.size : Int) ≤ 100000) ∨ ((s.size : Int) ≤ 100000 ∧ ¬ (T.length : Int) ≤ 200) := by
      unfold rdMany at hm; rw [list_size] at hm; simp at hm; omega
    have HB : Hid (∀ (n : Nat) (V : World), V = (((w.alloc (.cells #[.slice ta n tc] 22)).alloc (.cells #[.slice none 0 0] 24)).alloc (.cells #[.int .i64 7, .int .i64 (-1)] 27)) →
        Below w.heap.size w V ∧ Blk V (w.heap.size + 1) #[.slice none 0 0] 24 ∧ Blk V (w.heap.size + 1 + 1) #[.int .i64 7, .int .i64 (-1)] 27) := by
      intro n V hV
      subst hV
      have g1 := Blk.new (w.alloc (.cells #[.slice ta n tc] 22)) #[.slice none 0 0] 24
      have g2 := Blk.new ((w.alloc (.cells #[.slice ta n tc] 22)).alloc (.cells #[.slice none 0 0] 24)) #[.int .i64 7, .int .i64 (-1)] 27
      simp only [World.size_alloc] at g1 g2
      exact ⟨(((Below.refl _ _).alloc (Nat.le_refl _) _).alloc (by simp) _).alloc (by simp; omega) _, g1.below ((Below.refl _ _).alloc (Nat.le_refl _) _), g2⟩
    clear ht hcell hm
    generalize T.length = n at hor hTl HB ⊢
    rcases hor with h1 | ⟨h1, h2⟩
    all_goals
      go_enter Tryd.func10, Tryd.ntmps10
      go_wp2_with fail
      obtain ⟨V, hV⟩ : ∃ V, V = (((w.alloc (.cells #[.slice ta n tc] 22)).alloc (.cells #[.slice none 0 0] 24)).alloc (.cells #[.int .i64 7, .int .i64 (-1)] 27)) := ⟨_, rfl⟩
      rw [← hV]
      obtain ⟨hb, q0, q1⟩ := HB.out n V hV
      obtain ⟨c0, -⟩ := one_cell q0
      obtain ⟨c1, c2, -, -⟩ := two_cells q1
      clear hV
      refine bodyPost_ret (v := .tuple #[.slice none 0 0, .agg #[.int .i64 7, .int .i64 (-1)]]) (by simp [results, Tryd.results10, go_sem, c0, c1, c2]) rfl ?_
      refine ⟨_, _, _, rfl, hb, ?_, ?_, ?_⟩
      · unfold rdRows; rw [HM.out]; exact Rs.nil_ _
      · unfold rdEr; rw [HM.out]; rfl
      · unfold rdAt; rw [HM.out]; rfl
  · have h1 : s.size ≤ 100000 ∧ T.length ≤ 200 := by
      unfold rdMany at hm; rw [list_size] at hm; simp at hm; omega
    exact Read_small T vt s h1.1 h1.2 w G ht
end Go.Proofs.YtffifljfbeaodaaDoor
