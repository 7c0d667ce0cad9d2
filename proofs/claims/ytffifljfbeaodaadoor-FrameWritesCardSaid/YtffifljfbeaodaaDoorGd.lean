/- The law FrameWrites: the walk. -/
import Derived.Test.YtffifljfbeaodaaDoorGc
import Derived.Test.YtffifljfbeaodaaDoorFs
namespace Go.Proofs.YtffifljfbeaodaaDoor
open Go.RowKit Go.Shelf

set_option maxRecDepth 100000 in
set_option maxHeartbeats 2000000 in
theorem writes_any (T : List Int) (vt : Value) (R : List (List Int)) (vr : Value) (w : World) (G : Gl w) (ht : Sl intC 1 w vt T) (hr : Rs w vr R) : Calls Tryd.prog 4 #[vt, vr] w fun e w' => e = .returned (.bool true) ∧ Below w.heap.size w w' := by
  obtain ⟨ta, tc, rfl, -, -⟩ := ht.form
  obtain ⟨ra, rc, rfl, -, -⟩ := hr.form
  by_cases hbig : 60 < T.length ∨ 30 < R.length
  · have hor : (60 : Int) < (T.length : Int) ∨ (¬ (60 : Int) < (T.length : Int) ∧ (30 : Int) < (R.length : Int)) := by omega
    clear hbig ht hr
    generalize T.length = n at hor ⊢
    generalize R.length = m at hor ⊢
    rcases hor with h2 | ⟨h2, h3⟩
    all_goals
      go_enter Tryd.func4, Tryd.ntmps4
      go_wp2_with fail
      refine (live_any w G).mono ?_
      rintro e w1 ⟨rfl, hb1⟩
      go_wp2_with fail
      go_ret
      exact ⟨rfl, hb1⟩
  have hT1 : ¬ (60 : Int) < (T.length : Int) := by omega
  have hR1 : ¬ (30 : Int) < (R.length : Int) := by omega
  have HT : Hid (T.length ≤ 60) := by show _ ≤ _; omega
  have HR : Hid (R.length ≤ 30) := by show _ ≤ _; omega
  have HTY : Hid (Sl intC 1 w (.slice ta T.length tc) T) := ht
  have HRY : Hid (Rs w (.slice ra R.length rc) R) := hr
  clear hbig ht hr
  obtain ⟨n, hn⟩ : ∃ n, n = T.length := ⟨_, rfl⟩
  obtain ⟨m, hm⟩ : ∃ m, m = R.length := ⟨_, rfl⟩
  rw [← hn] at hT1 HTY ⊢
  rw [← hm] at hR1 HRY ⊢
  clear hn hm
  go_enter Tryd.func4, Tryd.ntmps4
  go_wp2_with fail
  refine (Write_any T R _ _ (by have := HT.out; omega) (by have := HR.out; omega) w G HTY.out HRY.out).mono ?_
  rintro e w1 ⟨q, er, rfl, hb1, hq, her⟩
  have G1 := G.below hb1
  have t1 := HTY.out.below hb1
  have r1 := HRY.out.below hb1
  have HQ : Hid (q.data.toList = wrText T R) := hq
  have HER : Hid (er = wrEr T R) := her
  clear G HTY HRY hq her
  go_wp2_with fail
  refine (rWrite_any T R _ _ (by have := HT.out; omega) (by have := HR.out; omega) w1 t1 r1).mono ?_
  rintro e w2 ⟨q2, er2, rfl, hb2, hq2, her2⟩
  obtain rfl : q2 = q := bytes_ext (hq2.trans HQ.out.symm)
  obtain rfl : er2 = er := her2.trans HER.out.symm
  have G2 := G1.below hb2
  have B2 := below_next hb1 hb2
  have e1 : (er2 == er2) = true := beq_self_eq_true _
  clear hq2 her2 HQ HER t1 r1 G1 hb1 hb2
  go_wp2_with fail
  refine (live_any w2 G2).mono ?_
  rintro e w4 ⟨rfl, hb4⟩
  have B4 := below_next B2 hb4
  go_wp2_with fail
  go_ret
  exact ⟨rfl, B4⟩
end Go.Proofs.YtffifljfbeaodaaDoor
