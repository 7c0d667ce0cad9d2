/- The law FrameAgain: the walk. -/
import Derived.Test.YtffifljfbeaodaaDoorFt
namespace Go.Proofs.YtffifljfbeaodaaDoor
open Go.RowKit Go.Shelf

set_option maxRecDepth 100000 in
set_option maxHeartbeats 2000000 in
theorem again_any (T : List Int) (vt : Value) (s : ByteArray) (w : World) (G : Gl w) (ht : Sl intC 1 w vt T) : Calls Tryd.prog 8 #[vt, .string s] w fun e w' => e = .returned (.bool true) ∧ Below w.heap.size w w' := by
  obtain ⟨ta, tc, rfl, -, -⟩ := ht.form
  by_cases hbig : 2000 < s.size ∨ T.length < 1 ∨ 60 < T.length
  · have hor : (2000 : Int) < (s.size : Int) ∨ (¬ (2000 : Int) < (s.size : Int) ∧ (T.length : Int) < 1) ∨ (¬ (2000 : Int) < (s.size : Int) ∧ ¬ (T.length : Int) < 1 ∧ (60 : Int) < (T.length : Int)) := by omega
    clear hbig ht
    generalize T.length = n at hor ⊢
    rcases hor with h1 | ⟨h1, h2⟩ | ⟨h1, h2, h3⟩
    all_goals
      go_enter Tryd.func8, Tryd.ntmps8
      go_wp2_with fail
      refine (live_any w G).mono ?_
      rintro e w1 ⟨rfl, hb1⟩
      go_wp2_with fail
      go_ret
      exact ⟨rfl, hb1⟩
  have hs0 : ¬ (2000 : Int) < (s.size : Int) := by omega
  have hT0 : ¬ (T.length : Int) < 1 := by omega
  have hT1 : ¬ (60 : Int) < (T.length : Int) := by omega
  have HT : Hid (T.length ≤ 60) := by show _ ≤ _; omega
  have HTY : Hid (Sl intC 1 w (.slice ta T.length tc) T) := ht
  clear hbig ht
  obtain ⟨n, hn⟩ : ∃ n, n = T.length := ⟨_, rfl⟩
  rw [← hn] at hT0 hT1 HTY ⊢
  clear hn
  obtain ⟨R, hR⟩ : ∃ R, R = rdRows T s.data.toList := ⟨_, rfl⟩
  have HRL : Hid (R.length ≤ 1000000 ∧ ∀ r ∈ R, r.length ≤ 200) := by rw [hR]; exact rdRows_len T s (by omega)
  have HA : Hid (R ≠ [] → wrOk T R = true ∧ (wrText T R).length ≤ 2001) := by
    intro h; rw [hR] at h ⊢; exact again_is HT.out (by rw [list_size]; omega) h
  have hRead := Read_any T (.slice ta n tc) s (by omega) (by have := HT.out; omega) w G HTY.out
  unfold ReadRes at hRead
  rw [← hR] at hRead
  clear hR
  go_enter Tryd.func8, Tryd.ntmps8
  go_wp2_with fail
  refine hRead.mono ?_
  rintro e w1 ⟨v, er, at_, rfl, hb1, s1, -, -⟩
  have nb1 := (Below.refl w1.heap.size w1).alloc (Nat.le_refl _) (.cells #[.int .i64 er, .int .i64 at_] 27)
  have B1 := below_next hb1 nb1
  have s1 := s1.below nb1
  have t1 := (HTY.out.below hb1).below nb1
  have G1 := (G.below hb1).below nb1
  clear hb1 nb1 G HTY hRead
  obtain ⟨p1, c1, rfl, -, -⟩ := s1.form
  by_cases hne : R = []
  · subst hne
    go_wp2_with fail
    refine (live_any _ G1).mono ?_
    rintro e w4 ⟨rfl, hb4⟩
    have B4 := below_next B1 hb4
    go_wp2_with fail
    go_ret
    exact ⟨rfl, B4⟩
  obtain ⟨hok, hlen⟩ := HA.out hne
  obtain ⟨b1, b2, b3⟩ := back_is hok (by omega)
  have hl0 : ((R.length : Int) == 0) = false := by
    rw [beq_eq_false_iff_ne]
    have : 0 < R.length := List.length_pos_iff.2 hne
    omega
  have HW : Hid (wrOk T R = true) := hok
  clear HA hne hok
  obtain ⟨m, hm⟩ : ∃ m, m = R.length := ⟨_, rfl⟩
  rw [← hm] at hl0 s1 ⊢
  clear hm
  go_wp2_with fail
  generalize w1.alloc (.cells #[.int .i64 er, .int .i64 at_] 27) = W1 at B1 s1 t1 G1 ⊢
  refine (Write_any T R _ _ (by have := HT.out; omega) HRL.out.1 W1 G1 t1 s1).mono ?_
  rintro e w2 ⟨q, er2, rfl, hb2, hq, her⟩
  have her0 : er2 = 0 := by rw [her]; unfold wrEr; rw [HW.out]; rfl
  subst her0
  have B2 := below_next B1 hb2
  have s2 := s1.below hb2
  have t2 := t1.below hb2
  have G2 := G1.below hb2
  have hqs : q.size ≤ 2001 := by rw [← list_size, hq]; exact hlen
  clear hb2 s1 t1 G1 her B1 hlen
  go_wp2_with fail
  refine (Read_any T _ q (by omega) (by have := HT.out; omega) w2 G2 t2).mono ?_
  rintro e w3 ⟨v3, er3, at3, rfl, hb3, s3, her, hat⟩
  rw [hq] at s3 her hat
  rw [b1] at s3
  rw [b2] at her
  rw [b3] at hat
  subst her hat
  have nb3 := (Below.refl w3.heap.size w3).alloc (Nat.le_refl _) (.cells #[.int .i64 0, .int .i64 0] 27)
  have B3 := below_next (below_next B2 hb3) nb3
  have k3 := Blk.new w3 #[.int .i64 0, .int .i64 0] 27
  have s3 := s3.below nb3
  have r3 := (s2.below hb3).below nb3
  have G3 := (G2.below hb3).below nb3
  clear hb3 nb3 s2 t2 G2 b1 b2 b3 hq B2
  obtain ⟨p3, c3, rfl, -, -⟩ := s3.form
  obtain ⟨g1, g2, -, -⟩ := two_cells k3
  go_wp2_with fail
  generalize w3.alloc (.cells #[.int .i64 0, .int .i64 0] 27) = W3 at B3 k3 s3 r3 G3 g1 g2 ⊢
  refine (Rows_any R R _ _ W3 s3 r3 (by have := HRL.out.1; omega) (fun r hr => by have := HRL.out.2 r hr; omega)).mono ?_
  rintro e w4 ⟨rfl, nq, rfl⟩
  rw [show (R == R) = true by simp]
  have nb4 := below_drawn (Below.refl W3.heap.size W3) nq
  have B4 := below_next B3 nb4
  have G4 := G3.below nb4
  generalize W3.drewN nq = W4 at B4 G4 ⊢
  clear nb4 B3 G3 s3 r3 g1 g2 k3
  go_wp2_with fail
  refine (live_any _ G4).mono ?_
  rintro e w5 ⟨rfl, hb5⟩
  have B5 := below_next B4 hb5
  go_wp2_with fail
  go_ret
  exact ⟨rfl, B5⟩
end Go.Proofs.YtffifljfbeaodaaDoor
