/- The law FrameReads: the walk. -/
import Derived.Test.YtffifljfbeaodaaDoorFo
namespace Go.Proofs.YtffifljfbeaodaaDoor
open Go.RowKit Go.Shelf

theorem rdRows_len (T : List Int) (s : ByteArray) (hs : s.size ≤ 1000000) : (rdRows T s.data.toList).length ≤ 1000000 ∧ ∀ r ∈ rdRows T s.data.toList, r.length ≤ 200 := by
  unfold rdRows
  by_cases h : rdMany T s.data.toList = true
  · rw [if_pos h]; simp
  · rw [if_neg h]
    obtain ⟨h1, h2⟩ := Fx.rows_read T (Fx.lines s.data.toList)
    have h3 := Fx.lines_len s.data.toList
    refine ⟨by show (Fx.readLs T (Fx.lines s.data.toList)).1.length ≤ _; rw [list_size] at h3; omega, fun r hr => ?_⟩
    have h4 := Fx.rowOk_len (List.all_eq_true.1 h1 r hr)
    have h5 : T.length ≤ 200 := by unfold rdMany at h; simp at h; omega
    omega

set_option maxRecDepth 100000 in
set_option maxHeartbeats 2000000 in
theorem reads_any (T : List Int) (vt : Value) (s : ByteArray) (w : World) (G : Gl w) (ht : Sl intC 1 w vt T) : Calls Tryd.prog 3 #[vt, .string s] w fun e w' => e = .returned (.bool true) ∧ Below w.heap.size w w' := by
  obtain ⟨ta, tc, rfl, -, -⟩ := ht.form
  by_cases hbig : 2000 < s.size ∨ 300 < T.length
  · have hor : (2000 : Int) < (s.size : Int) ∨ (¬ (2000 : Int) < (s.size : Int) ∧ (300 : Int) < (T.length : Int)) := by omega
    clear hbig ht
    generalize T.length = n at hor ⊢
    rcases hor with h1 | ⟨h1, h2⟩
    all_goals
      go_enter Tryd.func3, Tryd.ntmps3
      go_wp2_with fail
      refine (live_any w G).mono ?_
      rintro e w1 ⟨rfl, hb1⟩
      go_wp2_with fail
      go_ret
      exact ⟨rfl, hb1⟩
  have hs1 : s.size ≤ 2000 := by omega
  have hT1 : T.length ≤ 300 := by omega
  clear hbig
  obtain ⟨n, hn⟩ : ∃ n, n = T.length := ⟨_, rfl⟩
  have HTY : Hid (Sl intC 1 w (.slice ta T.length tc) T) := ht
  have HTL : Hid (T.length ≤ 300) := hT1
  rw [← hn] at hT1 HTY ⊢
  clear ht hn
  go_enter Tryd.func3, Tryd.ntmps3
  go_wp2_with fail
  refine (Read_any T _ s (by omega) (by have := HTL.out; omega) w G HTY.out).mono ?_
  rintro e w1 ⟨v, er, at_, rfl, hb1, s1, her, hat⟩
  have HE : Hid (er = rdEr T s.data.toList ∧ at_ = rdAt T s.data.toList) := ⟨her, hat⟩
  have nb1 := (Below.refl w1.heap.size w1).alloc (Nat.le_refl _) (.cells #[.int .i64 er, .int .i64 at_] 27)
  have B1 := below_next hb1 nb1
  have k1 := Blk.new w1 #[.int .i64 er, .int .i64 at_] 27
  have s1 := s1.below nb1
  have G1 := (G.below hb1).below nb1
  have t1 := (HTY.out.below hb1).below nb1
  clear hb1 nb1 G her hat HTY
  obtain ⟨p1, c1, rfl, -, -⟩ := s1.form
  go_wp2_with fail
  generalize w1.alloc (.cells #[.int .i64 er, .int .i64 at_] 27) = W1 at B1 k1 s1 G1 t1 ⊢
  generalize w1.heap.size = b1 at k1 ⊢
  refine (rRead_any T _ s (by omega) (by have := HTL.out; omega) W1 t1).mono ?_
  rintro e w2 ⟨v2, er2, at2, rfl, hb2, s2, her, hat⟩
  obtain ⟨rfl, rfl⟩ : er2 = er ∧ at2 = at_ := ⟨by rw [HE.out.1]; exact her, by rw [HE.out.2]; exact hat⟩
  have nb2 := (Below.refl w2.heap.size w2).alloc (Nat.le_refl _) (.cells #[.int .i64 er2, .int .i64 at2] 27)
  have B2 := below_next (below_next B1 hb2) nb2
  have k1 := (k1.below hb2).below nb2
  have s1 := (s1.below hb2).below nb2
  have G2 := (G1.below hb2).below nb2
  have k2 := Blk.new w2 #[.int .i64 er2, .int .i64 at2] 27
  have s2 := s2.below nb2
  clear hb2 nb2 her hat B1 G1 HE t1
  obtain ⟨p2, c2, rfl, -, -⟩ := s2.form
  go_wp2_with fail
  generalize w2.alloc (.cells #[.int .i64 er2, .int .i64 at2] 27) = W2 at B2 k1 k2 s1 s2 G2 ⊢
  generalize w2.heap.size = b2 at k2 ⊢
  obtain ⟨hl1, hl2⟩ := rdRows_len T s (by omega)
  refine (Rows_any _ _ _ _ W2 s1 s2 (by omega) (fun r hr => by have := hl2 r hr; omega)).mono ?_
  rintro e w3 ⟨rfl, nq, rfl⟩
  rw [show (rdRows T s.data.toList == rdRows T s.data.toList) = true by simp]
  have nb3 := below_drawn (Below.refl W2.heap.size W2) nq
  have B3 := below_next B2 nb3
  have k1 := k1.below nb3
  have k2 := k2.below nb3
  have G3 := G2.below nb3
  generalize W2.drewN nq = W3 at B3 k1 k2 G3 ⊢
  clear nb3 B2 G2 s1 s2 hl1 hl2
  generalize (rdRows T s.data.toList).length = m
  obtain ⟨g1, g2, -, -⟩ := two_cells k1
  obtain ⟨g3, g4, -, -⟩ := two_cells k2
  have e1 : ∀ W, (Op.equalIn 10000 27 (.agg #[.int .i64 er2, .int .i64 at2]) (.agg #[.int .i64 er2, .int .i64 at2])).run Tryd.prog W = .ok true W := fun W => by
    have := eqFault er2 at2 er2 at2 W; simpa using this
  go_wp2_with fail
  refine (live_any _ G3).mono ?_
  rintro e w4 ⟨rfl, hb4⟩
  have B4 := below_next B3 hb4
  go_wp2_with fail
  go_ret
  exact ⟨rfl, B4⟩
end Go.Proofs.YtffifljfbeaodaaDoor
