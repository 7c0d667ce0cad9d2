/- The law FrameBack: the walk. -/
import Derived.Test.YtffifljfbeaodaaDoorFp
namespace Go.Proofs.YtffifljfbeaodaaDoor
open Go.RowKit Go.Shelf

theorem rs_len {T : List Int} {R : List (List Int)} (h : wrOk T R = true) : T.length ≤ 200 ∧ R.all (Fx.rowOk T) = true := by
  unfold wrOk Fx.writeOk at h
  simp only [Bool.and_eq_true, decide_eq_true_eq] at h
  exact ⟨h.1, h.2.2⟩
/-- What is written is read. -/
theorem back_is {T : List Int} {R : List (List Int)} (h : wrOk T R = true) (hs : (wrText T R).length ≤ 100000) : rdRows T (wrText T R) = R ∧ rdEr T (wrText T R) = 0 ∧ rdAt T (wrText T R) = 0 := by
  obtain ⟨h1, h2⟩ := rs_len h
  have e : wrText T R = Fx.writeText T R := by unfold wrText; rw [h]; rfl
  have hm : rdMany T (wrText T R) = false := by unfold rdMany; simp; omega
  have hr := Fx.write_read (types := T) h2
  unfold rdRows rdEr rdAt
  rw [hm, e, hr]; simp
theorem wr_size {T : List Int} {R : List (List Int)} (hT : T.length ≤ 60) (hR : R.length ≤ 100) : (wrText T R).length ≤ 100000 := by
  unfold wrText
  split
  · rename_i h
    have h1 := Fx.writeText_len T R (rs_len h).2
    have h2 : 12 * T.length + 1 ≤ 721 := by omega
    have := Nat.mul_le_mul hR h2
    omega
  · simp

set_option maxRecDepth 100000 in
set_option maxHeartbeats 2000000 in
theorem back_any (T : List Int) (vt : Value) (R : List (List Int)) (vr : Value) (w : World) (G : Gl w) (ht : Sl intC 1 w vt T) (hr : Rs w vr R) : Calls Tryd.prog 5 #[vt, vr] w fun e w' => e = .returned (.bool true) ∧ Below w.heap.size w w' := by
  obtain ⟨ta, tc, rfl, -, -⟩ := ht.form
  obtain ⟨ra, rc, rfl, -, -⟩ := hr.form
  by_cases hbig : T.length < 1 ∨ 60 < T.length ∨ 30 < R.length
  · have hor : (T.length : Int) < 1 ∨ (¬ (T.length : Int) < 1 ∧ (60 : Int) < (T.length : Int)) ∨ (¬ (T.length : Int) < 1 ∧ ¬ (60 : Int) < (T.length : Int) ∧ (30 : Int) < (R.length : Int)) := by omega
    clear hbig ht hr
    generalize T.length = n at hor ⊢
    generalize R.length = m at hor ⊢
    rcases hor with h1 | ⟨h1, h2⟩ | ⟨h1, h2, h3⟩
    all_goals
      go_enter Tryd.func5, Tryd.ntmps5
      go_wp2_with fail
      refine (live_any w G).mono ?_
      rintro e w1 ⟨rfl, hb1⟩
      go_wp2_with fail
      go_ret
      exact ⟨rfl, hb1⟩
  have hT0 : ¬ (T.length : Int) < 1 := by omega
  have hT1 : ¬ (60 : Int) < (T.length : Int) := by omega
  have hR1 : ¬ (30 : Int) < (R.length : Int) := by omega
  have HT : Hid (T.length ≤ 60) := by show _ ≤ _; omega
  have HR : Hid (R.length ≤ 30) := by show _ ≤ _; omega
  have HTY : Hid (Sl intC 1 w (.slice ta T.length tc) T) := ht
  have HRY : Hid (Rs w (.slice ra R.length rc) R) := hr
  clear hbig ht hr
  obtain ⟨n, hn⟩ : ∃ n, n = T.length := ⟨_, rfl⟩
  obtain ⟨m, hm⟩ : ∃ m, m = R.length := ⟨_, rfl⟩
  rw [← hn] at hT0 hT1 HTY ⊢
  rw [← hm] at hR1 HRY ⊢
  clear hn hm
  go_enter Tryd.func5, Tryd.ntmps5
  go_wp2_with fail
  refine (Write_any T R _ _ (by have := HT.out; omega) (by have := HR.out; omega) w G HTY.out HRY.out).mono ?_
  rintro e w1 ⟨q, er, rfl, hb1, hq, her⟩
  have G1 := G.below hb1
  have t1 := HTY.out.below hb1
  have r1 := HRY.out.below hb1
  clear G HTY HRY
  by_cases hok : wrOk T R = true
  · have her0 : er = 0 := by rw [her]; unfold wrEr; rw [hok]; rfl
    subst her0
    have hqs : q.size ≤ 100000 := by rw [← list_size, hq]; exact wr_size HT.out (by have := HR.out; omega)
    have HRO : Hid (R.all (Fx.rowOk T) = true) := (rs_len hok).2
    obtain ⟨b1, b2, b3⟩ := back_is hok (wr_size HT.out (by have := HR.out; omega))
    clear her hok
    go_wp2_with fail
    refine (Read_any T _ q (by omega) (by have := HT.out; omega) w1 G1 t1).mono ?_
    rintro e w2 ⟨v, er, at_, rfl, hb2, s2, her, hat⟩
    rw [hq] at s2 her hat
    rw [b1] at s2
    rw [b2] at her
    rw [b3] at hat
    subst her hat
    have nb2 := (Below.refl w2.heap.size w2).alloc (Nat.le_refl _) (.cells #[.int .i64 0, .int .i64 0] 27)
    have B2 := below_next (below_next hb1 hb2) nb2
    have k2 := Blk.new w2 #[.int .i64 0, .int .i64 0] 27
    have s2 := s2.below nb2
    have r2 := (r1.below hb2).below nb2
    have G2 := (G1.below hb2).below nb2
    clear hb1 hb2 nb2 G1 t1 r1 b1 b2 b3 hq
    obtain ⟨p2, c2, rfl, -, -⟩ := s2.form
    go_wp2_with fail
    generalize w2.alloc (.cells #[.int .i64 0, .int .i64 0] 27) = W2 at B2 k2 s2 r2 G2 ⊢
    generalize w2.heap.size = b2 at k2 ⊢
    refine (Rows_any R R _ _ W2 s2 r2 (by have := HR.out; omega) (fun r hr => ?_)).mono ?_
    · have h4 := Fx.rowOk_len (List.all_eq_true.1 HRO.out r hr)
      have := HT.out; omega
    rintro e w3 ⟨rfl, nq, rfl⟩
    rw [show (R == R) = true by simp]
    have nb3 := below_drawn (Below.refl W2.heap.size W2) nq
    have B3 := below_next B2 nb3
    have k2 := k2.below nb3
    have G3 := G2.below nb3
    generalize W2.drewN nq = W3 at B3 k2 G3 ⊢
    clear nb3 B2 G2 s2 r2
    obtain ⟨g1, g2, -, -⟩ := two_cells k2
    have e1 : ∀ W, (Op.equalIn 10000 27 (.agg #[.int .i64 0, .int .i64 0]) (.agg #[.int .i64 0, .int .i64 0])).run Tryd.prog W = .ok true W := fun W => eqFault 0 0 0 0 W
    generalize R.length = m2
    go_wp2_with fail
    refine (live_any _ G3).mono ?_
    rintro e w4 ⟨rfl, hb4⟩
    have B4 := below_next B3 hb4
    go_wp2_with fail
    go_ret
    exact ⟨rfl, B4⟩
  · have hf : wrOk T R = false := by simpa using hok
    have her1 : er = 1 := by rw [her]; unfold wrEr; rw [hf]; rfl
    subst her1
    have hqe : q.toList.isEmpty = true := by
      rw [Lib.toList_data, hq]; unfold wrText; rw [hf]; rfl
    clear her hok hf hq t1 r1
    go_wp2_with fail
    refine (live_any _ G1).mono ?_
    rintro e w4 ⟨rfl, hb4⟩
    have B4 := below_next hb1 hb4
    go_wp2_with fail
    go_ret
    exact ⟨rfl, B4⟩
end Go.Proofs.YtffifljfbeaodaaDoor
