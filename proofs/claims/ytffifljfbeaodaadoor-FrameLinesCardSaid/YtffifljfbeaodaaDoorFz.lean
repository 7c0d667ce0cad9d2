/- The law FrameLines: the walk. -/
import Derived.Test.YtffifljfbeaodaaDoorFy
namespace Go.Proofs.YtffifljfbeaodaaDoor
open Go.RowKit Go.Shelf

set_option maxRecDepth 100000 in
set_option maxHeartbeats 2000000 in
theorem lines_law (T : List Int) (vt : Value) (s t : ByteArray) (w : World) (G : Gl w) (ht : Sl intC 1 w vt T) : Calls Tryd.prog 6 #[vt, .string s, .string t] w fun e w' => e = .returned (.bool true) ∧ Below w.heap.size w w' := by
  obtain ⟨ta, tc, rfl, -, -⟩ := ht.form
  by_cases hbig : 1000 < s.size ∨ 1000 < t.size ∨ 60 < T.length ∨ s.size = 0
  · have hor : (1000 : Int) < (s.size : Int) ∨ (¬ (1000 : Int) < (s.size : Int) ∧ (1000 : Int) < (t.size : Int)) ∨ (¬ (1000 : Int) < (s.size : Int) ∧ ¬ (1000 : Int) < (t.size : Int) ∧ (60 : Int) < (T.length : Int)) ∨ (¬ (1000 : Int) < (s.size : Int) ∧ ¬ (1000 : Int) < (t.size : Int) ∧ ¬ (60 : Int) < (T.length : Int) ∧ s.toList.isEmpty = true) := by
      rw [Lib.toList_data]
      have he : s.size = 0 → s.data.toList.isEmpty = true := fun h => by
        rw [List.isEmpty_iff, ← List.length_eq_zero_iff, list_size]; exact h
      rcases hbig with h | h | h | h
      · exact Or.inl (by omega)
      · by_cases h1 : (1000 : Int) < (s.size : Int)
        · exact Or.inl h1
        · exact Or.inr (Or.inl ⟨h1, by omega⟩)
      · by_cases h1 : (1000 : Int) < (s.size : Int)
        · exact Or.inl h1
        · by_cases h2 : (1000 : Int) < (t.size : Int)
          · exact Or.inr (Or.inl ⟨h1, h2⟩)
          · exact Or.inr (Or.inr (Or.inl ⟨h1, h2, by omega⟩))
      · by_cases h2 : (1000 : Int) < (t.size : Int)
        · exact Or.inr (Or.inl ⟨by omega, h2⟩)
        · by_cases h3 : (60 : Int) < (T.length : Int)
          · exact Or.inr (Or.inr (Or.inl ⟨by omega, h2, h3⟩))
          · exact Or.inr (Or.inr (Or.inr ⟨by omega, h2, h3, he h⟩))
    clear hbig ht
    generalize T.length = n at hor ⊢
    rcases hor with h1 | ⟨h1, h2⟩ | ⟨h1, h2, h3⟩ | ⟨h1, h2, h3, h4⟩
    all_goals
      go_enter Tryd.func6, Tryd.ntmps6
      go_wp2_with fail
      refine (live_any w G).mono ?_
      rintro e w1 ⟨rfl, hb1⟩
      go_wp2_with fail
      go_ret
      exact ⟨rfl, hb1⟩
  have h1 : ¬ (1000 : Int) < (s.size : Int) := by omega
  have h2 : ¬ (1000 : Int) < (t.size : Int) := by omega
  have h3 : ¬ (60 : Int) < (T.length : Int) := by omega
  have h4 : s.toList.isEmpty = false := by
    rw [Lib.toList_data, List.isEmpty_eq_false_iff, ne_eq, ← List.length_eq_zero_iff, list_size]; omega
  have HT : Hid (T.length ≤ 60) := by show _ ≤ _; omega
  have HTY : Hid (Sl intC 1 w (.slice ta T.length tc) T) := ht
  clear hbig ht
  obtain ⟨n, hn⟩ : ∃ n, n = T.length := ⟨_, rfl⟩
  rw [← hn] at h3 HTY ⊢
  clear hn
  obtain ⟨R1, hR1⟩ : ∃ R, R = rdRows T (s.data.toList ++ [10]) := ⟨_, rfl⟩
  obtain ⟨R2, hR2⟩ : ∃ R, R = rdRows T t.data.toList := ⟨_, rfl⟩
  obtain ⟨R3, hR3⟩ : ∃ R, R = rdRows T (s.data.toList ++ 10 :: t.data.toList) := ⟨_, rfl⟩
  obtain ⟨E1, hE1⟩ : ∃ R, R = rdEr T (s.data.toList ++ [10]) := ⟨_, rfl⟩
  obtain ⟨E2, hE2⟩ : ∃ R, R = rdEr T t.data.toList := ⟨_, rfl⟩
  obtain ⟨E3, hE3⟩ : ∃ R, R = rdEr T (s.data.toList ++ 10 :: t.data.toList) := ⟨_, rfl⟩
  obtain ⟨A1, hA1⟩ : ∃ R, R = rdAt T (s.data.toList ++ [10]) := ⟨_, rfl⟩
  obtain ⟨A2, hA2⟩ : ∃ R, R = rdAt T t.data.toList := ⟨_, rfl⟩
  obtain ⟨A3, hA3⟩ : ∃ R, R = rdAt T (s.data.toList ++ 10 :: t.data.toList) := ⟨_, rfl⟩
  have HTWO : Hid ((E1 ≠ 0 → R3 = R1 ∧ E3 = E1 ∧ A3 = A1) ∧ (E1 = 0 → R3 = R1 ++ R2 ∧ E3 = E2 ∧ A3 = if E2 = 0 then 0 else A2 + R1.length)) := by
    have := rd_two (T := T) (s := s.data.toList) (t := t.data.toList) HT.out (by rw [list_size]; omega) (by rw [list_size]; omega)
    rw [← hR1, ← hR2, ← hR3, ← hE1, ← hE2, ← hE3, ← hA1, ← hA2, ← hA3] at this; exact this
  have l1 : (s ++ ⟨#[10]⟩ : ByteArray).data.toList = s.data.toList ++ [10] := by rw [concat_list]
  have l3 : (s ++ ⟨#[10]⟩ ++ t : ByteArray).data.toList = s.data.toList ++ 10 :: t.data.toList := by rw [concat_list, concat_list]; simp
  have z1 : (s ++ ⟨#[10]⟩ : ByteArray).size ≤ 1001 := by rw [← list_size, l1, List.length_append, list_size]; simp; omega
  have z3 : (s ++ ⟨#[10]⟩ ++ t : ByteArray).size ≤ 2001 := by rw [← list_size, l3, List.length_append, List.length_cons, list_size, list_size]; omega
  have HL1 : Hid (R1.length ≤ 1000000 ∧ ∀ r ∈ R1, r.length ≤ 200) := by have := rdRows_len T (s ++ ⟨#[10]⟩) (by omega); rw [l1, ← hR1] at this; exact this
  have HL2 : Hid (R2.length ≤ 1000000 ∧ ∀ r ∈ R2, r.length ≤ 200) := by have := rdRows_len T t (by omega); rw [← hR2] at this; exact this
  have HL3 : Hid (R3.length ≤ 1000000 ∧ ∀ r ∈ R3, r.length ≤ 200) := by have := rdRows_len T (s ++ ⟨#[10]⟩ ++ t) (by omega); rw [l3, ← hR3] at this; exact this
  have HC1 : Hid (∀ W v, Gl W → Sl intC 1 W v T → Calls Tryd.prog 10 #[v, .string (s ++ ⟨#[10]⟩)] W fun e w' => ∃ (v : Value), e = .returned (.tuple #[v, .agg #[.int .i64 E1, .int .i64 A1]]) ∧ Below W.heap.size W w' ∧ Rs w' v R1) := fun W v G h => by
    refine (Read_any T v _ (by omega) (by have := HT.out; omega) W G h).mono ?_
    rintro e w' ⟨v, er, at_, rfl, hb, hs, he, ha⟩
    rw [l1] at hs he ha
    exact ⟨v, by rw [he, ha, hE1, hA1], hb, by rw [hR1]; exact hs⟩
  have HC2 : Hid (∀ W v, Gl W → Sl intC 1 W v T → Calls Tryd.prog 10 #[v, .string t] W fun e w' => ∃ (v : Value), e = .returned (.tuple #[v, .agg #[.int .i64 E2, .int .i64 A2]]) ∧ Below W.heap.size W w' ∧ Rs w' v R2) := fun W v G h => by
    refine (Read_any T v t (by omega) (by have := HT.out; omega) W G h).mono ?_
    rintro e w' ⟨v, er, at_, rfl, hb, hs, he, ha⟩
    exact ⟨v, by rw [he, ha, hE2, hA2], hb, by rw [hR2]; exact hs⟩
  have HC3 : Hid (∀ W v, Gl W → Sl intC 1 W v T → Calls Tryd.prog 10 #[v, .string (s ++ ⟨#[10]⟩ ++ t)] W fun e w' => ∃ (v : Value), e = .returned (.tuple #[v, .agg #[.int .i64 E3, .int .i64 A3]]) ∧ Below W.heap.size W w' ∧ Rs w' v R3) := fun W v G h => by
    refine (Read_any T v _ (by omega) (by have := HT.out; omega) W G h).mono ?_
    rintro e w' ⟨v, er, at_, rfl, hb, hs, he, ha⟩
    rw [l3] at hs he ha
    exact ⟨v, by rw [he, ha, hE3, hA3], hb, by rw [hR3]; exact hs⟩
  have HB2 : Hid (-1 ≤ A2 ∧ A2 ≤ 1000000) := by
    show _ ∧ _
    have h5 := (rdRows_len T t (by omega)).1
    rw [hA2]
    unfold rdAt rdRows at *
    by_cases h6 : rdMany T t.data.toList = true
    · rw [if_pos h6]; omega
    · rw [if_neg h6] at h5 ⊢
      split <;> omega
  clear hR1 hR2 hR3 hE1 hE2 hE3 hA1 hA2 hA3 l1 l3 z1 z3
  go_enter Tryd.func6, Tryd.ntmps6
  go_wp2_with fail
  refine (HC1.out w _ G HTY.out).mono ?_
  rintro e w1 ⟨v1, rfl, hb1, s1⟩
  have nb1 := (Below.refl w1.heap.size w1).alloc (Nat.le_refl _) (.cells #[.int .i64 E1, .int .i64 A1] 27)
  have B1 := below_next hb1 nb1
  have k1 := Blk.new w1 #[.int .i64 E1, .int .i64 A1] 27
  have s1 := s1.below nb1
  have t1 := (HTY.out.below hb1).below nb1
  have G1 := (G.below hb1).below nb1
  clear hb1 nb1 G HTY
  obtain ⟨p1, c1, rfl, -, -⟩ := s1.form
  go_wp2_with fail
  generalize w1.alloc (.cells #[.int .i64 E1, .int .i64 A1] 27) = W1 at B1 k1 s1 t1 G1 ⊢
  generalize w1.heap.size = b1 at k1 ⊢
  refine (HC2.out W1 _ G1 t1).mono ?_
  rintro e w2 ⟨v2, rfl, hb2, s2⟩
  have nb2 := (Below.refl w2.heap.size w2).alloc (Nat.le_refl _) (.cells #[.int .i64 E2, .int .i64 A2] 27)
  have B2 := below_next (below_next B1 hb2) nb2
  have k2 := Blk.new w2 #[.int .i64 E2, .int .i64 A2] 27
  have k1 := (k1.below hb2).below nb2
  have s1 := (s1.below hb2).below nb2
  have s2 := s2.below nb2
  have t2 := (t1.below hb2).below nb2
  have G2 := (G1.below hb2).below nb2
  clear hb2 nb2 G1 t1 B1
  obtain ⟨p2, c2, rfl, -, -⟩ := s2.form
  go_wp2_with fail
  generalize w2.alloc (.cells #[.int .i64 E2, .int .i64 A2] 27) = W2 at B2 k1 k2 s1 s2 t2 G2 ⊢
  generalize w2.heap.size = b2 at k2 ⊢
  refine (HC3.out W2 _ G2 t2).mono ?_
  rintro e w3 ⟨v3, rfl, hb3, s3⟩
  have nb3 := (Below.refl w3.heap.size w3).alloc (Nat.le_refl _) (.cells #[.int .i64 E3, .int .i64 A3] 27)
  have B3 := below_next (below_next B2 hb3) nb3
  have k3 := Blk.new w3 #[.int .i64 E3, .int .i64 A3] 27
  have k1 := (k1.below hb3).below nb3
  have k2 := (k2.below hb3).below nb3
  have s1 := (s1.below hb3).below nb3
  have s2 := (s2.below hb3).below nb3
  have s3 := s3.below nb3
  have G3 := (G2.below hb3).below nb3
  clear hb3 nb3 G2 t2 B2 HC1 HC2 HC3
  obtain ⟨p3, c3, rfl, hcap3, -⟩ := s3.form
  obtain ⟨V3, hV3⟩ : ∃ V, V = w3.alloc (.cells #[.int .i64 E3, .int .i64 A3] 27) := ⟨_, rfl⟩
  obtain ⟨b3, hb3⟩ : ∃ b, b = w3.heap.size := ⟨_, rfl⟩
  rw [← hV3] at B3 k1 k2 k3 s1 s2 s3 G3
  rw [← hb3] at k3
  by_cases hE : E1 = 0
  · obtain ⟨hR, hE3, hA3⟩ := HTWO.out.2 hE
    subst hE
    have HR3 : Hid (R3 = R1 ++ R2) := hR
    have HA3 : Hid (A3 = if E2 = 0 then 0 else A2 + R1.length) := hA3
    subst hE3
    have HV : Hid (V3 = w3.alloc (.cells #[.int .i64 E3, .int .i64 A3] 27) ∧ b3 = w3.heap.size) := ⟨hV3, hb3⟩
    clear hV3 hb3 hR hA3
    obtain ⟨g1, g2, -, -⟩ := two_cells k1
    rw [HV.out.1] at g1 g2
    obtain ⟨m1, hm1⟩ : ∃ m, m = R1.length := ⟨_, rfl⟩
    obtain ⟨m2, hm2⟩ : ∃ m, m = R2.length := ⟨_, rfl⟩
    obtain ⟨m3, hm3⟩ : ∃ m, m = R3.length := ⟨_, rfl⟩
    have HM : Hid (m1 = R1.length ∧ m2 = R2.length ∧ m3 = R3.length) := ⟨hm1, hm2, hm3⟩
    rw [← hm1] at s1 ⊢
    rw [← hm2] at s2 ⊢
    rw [← hm3] at s3 ⊢
    have hsum : m3 = m1 + m2 := by rw [hm3, hm1, hm2, HR3.out]; simp
    have hb : m3 ≤ 1000000 := by have := HL3.out.1; omega
    have hm3e : m3 = R3.length := hm3
    clear hm1 hm2 hm3
    have hne : ((m3 : Int) != (m1 : Int) + (m2 : Int)) = false := by simp; omega
    have hw64 : wrap64 ((m1 : Int) + (m2 : Int)) = (m3 : Int) := by unfold wrap64; omega
    have hle1 : (m1 : Int) ≤ (m3 : Int) := by omega
    have hle2 : (0 : Int) ≤ (m1 : Int) := by omega
    have HS : Hid (m3 = m1 + m2) := hsum
    have hcap : m3 ≤ c3 := by rw [hm3e]; exact hcap3
    have hcap1 : (m1 : Int) ≤ (c3 : Int) := by omega
    have q1 : Rs V3 (.slice p3 m1 c3) R1 := by
      have := Rs.take (n := m1) (l := R3) (by rw [← hm3e]; exact s3) (by omega)
      rwa [HR3.out, HM.out.1, List.take_left' rfl, ← HM.out.1] at this
    have q2 : Rs V3 (.slice (if c3 - m1 = 0 then p3 else p3.map (fun x => x.add m1)) (m3 - m1) (c3 - m1)) R2 := by
      have := Rs.slice (lo := m1) (hi := m3) (l := R3) (by rw [← hm3e]; exact s3) (by omega) (by omega)
      rwa [List.take_of_length_le (by omega), HR3.out, List.drop_left' HM.out.1.symm] at this
    clear hsum hm3e hcap3
    go_wp2_with fail
    rw [← HV.out.1]
    refine (Rows_any R1 R1 _ _ V3 q1 s1 (by have := HL1.out.1; omega) (fun r hr => by have := HL1.out.2 r hr; omega)).mono ?_
    rintro e w4 ⟨rfl, nq, rfl⟩
    rw [show (R1 == R1) = true by simp]
    have nb4 := below_drawn (Below.refl V3.heap.size V3) nq
    have B4 := below_next B3 nb4
    have G4 := G3.below nb4
    have k2 := k2.below nb4
    have k3 := k3.below nb4
    have q2 := q2.below nb4
    have s2 := s2.below nb4
    generalize V3.drewN nq = W4 at B4 G4 k2 k3 q2 s2 ⊢
    rw [HV.out.2] at k3
    clear nb4 B3 G3 g1 g2 HV
    have e0 : ∀ W, (Op.equalIn 10000 27 (.agg #[.int .i64 0, .int .i64 0]) (.agg #[.int .i64 0, .int .i64 0])).run Tryd.prog W = .ok true W := fun W => eqFault 0 0 0 0 W
    have tail : ∀ (v : Value), Rs W4 v R2 → Calls Tryd.prog 12 #[v, .slice p2 m2 c2] W4 fun e w' => e = .returned (.bool true) ∧ ∃ n, w' = W4.drewN n := fun v hv => by
      refine (Rows_any R2 R2 _ _ W4 hv s2 (by have := HL2.out.1; omega) (fun r hr => by have := HL2.out.2 r hr; omega)).mono ?_
      rintro e w' ⟨he, hw⟩
      exact ⟨by rw [he]; simp, hw⟩
    by_cases hz : c3 = m1
    · rw [if_pos (by omega)] at q2
      have t2 := tail _ q2
      rw [show c3 - m1 = 0 by omega] at t2
      clear tail q2
      go_wp2_with fail
      refine t2.mono ?_
      rintro e w5 ⟨rfl, nq5, rfl⟩
      have nb5 := below_drawn (Below.refl W4.heap.size W4) nq5
      have B5 := below_next B4 nb5
      have G5 := G4.below nb5
      have k2 := k2.below nb5
      have k3 := k3.below nb5
      generalize W4.drewN nq5 = W5 at B5 G5 k2 k3 ⊢
      clear nb5 B4 G4 t2 s2
      obtain ⟨g1, g2, -, -⟩ := two_cells k2
      obtain ⟨g3, g4, -, -⟩ := two_cells k3
      by_cases hE3 : E3 = 0
      · have hA : A3 = 0 := by rw [HA3.out, if_pos hE3]
        subst hE3 hA
        go_wp2_with fail
        refine (live_any _ G5).mono ?_
        rintro e w6 ⟨rfl, hb6⟩
        have B6 := below_next B5 hb6
        go_wp2_with fail
        go_ret
        exact ⟨rfl, B6⟩
      · have hA : A3 = A2 + (m1 : Int) := by rw [HA3.out, if_neg hE3, HM.out.1]
        have hA2 : A2 + (m1 : Int) = A3 := hA.symm
        have hne3 : (E3 != 0) = true := by simpa using hE3
        have HW : Hid (wrap64 (A2 + (m1 : Int)) = A3) := by show _ = _; have := HB2.out; unfold wrap64; omega
        have hw := HW.out
        have e3 : ∀ W, (Op.equalIn 10000 27 (.agg #[.int .i64 E3, .int .i64 A3]) (.agg #[.int .i64 E3, .int .i64 A3])).run Tryd.prog W = .ok true W := fun W => by
          have := eqFault E3 A3 E3 A3 W; simpa using this
        clear hA hA2
        go_wp2_with fail
        refine (live_any _ G5).mono ?_
        rintro e w6 ⟨rfl, hb6⟩
        have B6 := below_next B5 hb6
        go_wp2_with fail
        go_ret
        exact ⟨rfl, B6⟩
    · rw [if_neg (by omega)] at q2
      have t2 := tail _ q2
      clear tail q2
      go_wp2_with fail
      refine t2.mono ?_
      rintro e w5 ⟨rfl, nq5, rfl⟩
      have nb5 := below_drawn (Below.refl W4.heap.size W4) nq5
      have B5 := below_next B4 nb5
      have G5 := G4.below nb5
      have k2 := k2.below nb5
      have k3 := k3.below nb5
      generalize W4.drewN nq5 = W5 at B5 G5 k2 k3 ⊢
      clear nb5 B4 G4 t2 s2
      obtain ⟨g1, g2, -, -⟩ := two_cells k2
      obtain ⟨g3, g4, -, -⟩ := two_cells k3
      by_cases hE3 : E3 = 0
      · have hA : A3 = 0 := by rw [HA3.out, if_pos hE3]
        subst hE3 hA
        go_wp2_with fail
        refine (live_any _ G5).mono ?_
        rintro e w6 ⟨rfl, hb6⟩
        have B6 := below_next B5 hb6
        go_wp2_with fail
        go_ret
        exact ⟨rfl, B6⟩
      · have hA : A3 = A2 + (m1 : Int) := by rw [HA3.out, if_neg hE3, HM.out.1]
        have hA2 : A2 + (m1 : Int) = A3 := hA.symm
        have hne3 : (E3 != 0) = true := by simpa using hE3
        have HW : Hid (wrap64 (A2 + (m1 : Int)) = A3) := by show _ = _; have := HB2.out; unfold wrap64; omega
        have hw := HW.out
        have e3 : ∀ W, (Op.equalIn 10000 27 (.agg #[.int .i64 E3, .int .i64 A3]) (.agg #[.int .i64 E3, .int .i64 A3])).run Tryd.prog W = .ok true W := fun W => by
          have := eqFault E3 A3 E3 A3 W; simpa using this
        clear hA hA2
        go_wp2_with fail
        refine (live_any _ G5).mono ?_
        rintro e w6 ⟨rfl, hb6⟩
        have B6 := below_next B5 hb6
        go_wp2_with fail
        go_ret
        exact ⟨rfl, B6⟩
  · obtain ⟨rfl, rfl, rfl⟩ := HTWO.out.1 hE
    have hne : (E3 != 0) = true := by simpa using hE
    have HV : Hid (V3 = w3.alloc (.cells #[.int .i64 E3, .int .i64 A3] 27) ∧ b3 = w3.heap.size) := ⟨hV3, hb3⟩
    clear hV3 hb3
    obtain ⟨g1, g2, -, -⟩ := two_cells k1
    obtain ⟨g3, g4, -, -⟩ := two_cells k3
    rw [HV.out.1] at g1 g2 g3 g4
    rw [HV.out.2] at g3 g4
    have e1 : ∀ W, (Op.equalIn 10000 27 (.agg #[.int .i64 E3, .int .i64 A3]) (.agg #[.int .i64 E3, .int .i64 A3])).run Tryd.prog W = .ok true W := fun W => by
      have := eqFault E3 A3 E3 A3 W; simpa using this
    generalize R3.length = m at s1 s3 ⊢
    go_wp2_with fail
    rw [← HV.out.1]
    refine (Rows_any R3 R3 _ _ V3 s3 s1 (by have := HL3.out.1; omega) (fun r hr => by have := HL3.out.2 r hr; omega)).mono ?_
    rintro e w4 ⟨rfl, nq, rfl⟩
    rw [show (R3 == R3) = true by simp]
    have nb4 := below_drawn (Below.refl V3.heap.size V3) nq
    have B4 := below_next B3 nb4
    have G4 := G3.below nb4
    generalize V3.drewN nq = W4 at B4 G4 ⊢
    clear nb4 B3 G3 s3 s1 g1 g2 g3 g4 k3 HV
    go_wp2_with fail
    refine (live_any _ G4).mono ?_
    rintro e w5 ⟨rfl, hb5⟩
    have B5 := below_next B4 hb5
    go_wp2_with fail
    go_ret
    exact ⟨rfl, B5⟩
end Go.Proofs.YtffifljfbeaodaaDoor
