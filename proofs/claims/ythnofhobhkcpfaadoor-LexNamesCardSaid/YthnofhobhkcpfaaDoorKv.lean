/- The law LexNames: the walk. -/
import Derived.Test.YthnofhobhkcpfaaDoorKr
import Derived.Deep.QuietTactic
import Derived.BigQuiet
namespace Go.Proofs.YthnofhobhkcpfaaDoor
open Go.RowKit Go.Shelf

theorem one_toks {s : ByteArray} {k : Nat} (h : Lx.lexS s.data.toList = ([⟨k, s.data.toList, s.data.toList.length⟩], none)) : lexEr s = 0 ∧ lexToks s = [⟨k, s, 0⟩] := by
  have h2 : (Lx.lexS s.data.toList).2 = none := by rw [h]
  have h3 := lexEr_of_none h2
  refine ⟨h3, ?_⟩
  rw [(lexEr_zero h3).2.1, h]
  simp [toks, tok]
theorem toks_is {s : ByteArray} {x : Tok} {l : List Tok} (h : lexToks s = x :: l) : Lx.Is x.k x.t.data.toList := by
  by_cases hz : lexEr s = 0
  · rw [(lexEr_zero hz).2.1] at h
    cases hq : (Lx.lexS s.data.toList).1 with
    | nil => rw [hq] at h; simp [toks] at h
    | cons y r =>
      rw [hq] at h
      simp [toks] at h
      have := Lx.lexS_is s.data.toList y (by rw [hq]; simp)
      rw [← h.1]; exact this
  · obtain ⟨_, _, _, _, _, h4⟩ := lexEr_some hz
    rw [h4] at h; cases h

set_option maxRecDepth 100000 in
set_option maxHeartbeats 2000000 in
theorem names_any (s : ByteArray) (w : World) (G : Gl w) : Calls Tryd.prog 8 #[.string s] w fun e w' => e = .returned (.bool true) ∧ Below w.heap.size w w' := by
  by_cases hs : 100 < s.size
  · go_enter Tryd.func8, Tryd.ntmps8
    go_wp2_with fail
    refine (live_any w G).mono ?_
    rintro e w1 ⟨rfl, hb1⟩
    go_wp2_with fail
    go_ret
    exact ⟨rfl, hb1⟩
  have hs1 : s.size ≤ 100 := by omega
  clear hs
  go_enter Tryd.func8, Tryd.ntmps8
  go_wp2_with fail
  refine (Lex_res s (by omega) w G).mono ?_
  rintro e w1 ⟨v, er, at_, rfl, hb1, s1, her, hat⟩
  have G1 := G.below hb1
  have nb1 := (Below.refl w1.heap.size w1).alloc (Nat.le_refl _) (.cells #[.int .i64 er, .int .i64 at_] 26)
  have B1 := below_next hb1 nb1
  have k1 := Blk.new w1 #[.int .i64 er, .int .i64 at_] 26
  have s1 := s1.below nb1
  have G1 := G1.below nb1
  have HE : Hid (er = (lexEr s : Nat)) := her
  clear hb1 nb1 G her hat
  obtain ⟨bn, hbn⟩ : ∃ b, b = Lx.isName s.data.toList := ⟨_, rfl⟩
  obtain ⟨bw, hbw⟩ : ∃ b, b = Lx.isWord s.data.toList := ⟨_, rfl⟩
  have HN : Hid (Lx.isName s.data.toList = bn) := hbn.symm
  have HW : Hid (Lx.isWord s.data.toList = bw) := hbw.symm
  have cN := fun W G => IsName_any s W G
  have cW := fun W G => IsWord_any s W G
  rw [← hbn] at cN
  rw [← hbw] at cW
  have CN := Lib.hid cN
  have CW := Lib.hid cW
  clear hbn hbw cN cW
  go_wp2_with fail
  generalize w1.alloc (.cells #[.int .i64 er, .int .i64 at_] 26) = W1 at B1 k1 s1 G1 ⊢
  generalize w1.heap.size = b1 at k1 ⊢
  refine (CN.out W1 G1).mono ?_
  rintro e w2 ⟨rfl, hb2⟩
  have B2 := below_next B1 hb2
  have k2 := k1.below hb2
  have s2 := s1.below hb2
  have G2 := G1.below hb2
  clear hb2 B1 k1 s1 G1
  cases bn
  · go_wp2_with fail
    refine (CN.out w2 G2).mono ?_
    rintro e w3 ⟨rfl, hb3⟩
    have B3 := below_next B2 hb3
    have k3 := k2.below hb3
    have s3 := s2.below hb3
    have G3 := G2.below hb3
    clear hb3 B2 k2 s2 G2
    go_wp2_with fail
    refine (CW.out w3 G3).mono ?_
    rintro e w4 ⟨rfl, hb4⟩
    have B4 := below_next B3 hb4
    have k4 := k3.below hb4
    have s4 := s3.below hb4
    have G4 := G3.below hb4
    clear hb4 B3 k3 s3 G3 CN CW
    obtain ⟨a0, a1, -, -⟩ := two_cells k4
    cases bw
    · obtain ⟨p, c, rfl, hlc, f⟩ := s4.form
      match hl : lexToks s with
      | [] =>
        rw [hl] at hlc
        simp only [List.length_nil] at hlc ⊢
        clear f s4
        go_wp2_with fail
        refine (live_any _ G4).mono ?_
        rintro e w5 ⟨rfl, hb5⟩
        go_wp2_with fail
        go_ret
        exact ⟨rfl, below_next B4 hb5⟩
      | [x] =>
        rw [hl] at hlc
        simp only [List.length_cons, List.length_nil, Nat.zero_add] at hlc ⊢
        obtain ⟨b, o, rfl, hc⟩ := f w4 (Below.refl _ _) 0 x (by rw [hl]; rfl)
        have c0 : w4.cell? ⟨b, o, none⟩ = some (.int .i64 x.k) := by have := hc 0 _ rfl; simpa using this
        have c1 : w4.cell? ⟨b, o + 1, none⟩ = some (.string x.t) := by have := hc 1 _ rfl; simpa using this
        have hk := Lx.is_kind (toks_is hl)
        have HK : Hid (x.t.toList = s.toList → x.k = 2 ∨ x.k = 4) := fun h => by
          rw [Lib.toList_data, Lib.toList_data] at h
          rw [h, HW.out, HN.out] at hk
          rcases hk with hk | ⟨_, hk⟩ | ⟨_, hk⟩
          · exact hk
          · cases hk
          · cases hk
        clear f hc hk s4
        generalize x.t = xt at *
        generalize x.k = xk at *
        by_cases he : xt.toList = s.toList
        · have e1 : (xt.toList == s.toList) = true := by simp [he]
          have hor := HK.out he
          rcases hor with h | h
          · have e2 : ((xk : Int) == 2) = true := by rw [beq_iff_eq]; omega
            clear h
            go_wp2_with fail
            refine (live_any _ G4).mono ?_
            rintro e w5 ⟨rfl, hb5⟩
            go_wp2_with fail
            go_ret
            exact ⟨rfl, below_next B4 hb5⟩
          · have e2 : ((xk : Int) == 2) = false := by rw [beq_eq_false_iff_ne]; omega
            have e3 : ((xk : Int) == 4) = true := by rw [beq_iff_eq]; omega
            clear h
            go_wp2_with fail
            refine (live_any _ G4).mono ?_
            rintro e w5 ⟨rfl, hb5⟩
            go_wp2_with fail
            go_ret
            exact ⟨rfl, below_next B4 hb5⟩
        · have e1 : (xt.toList == s.toList) = false := by simp [he]
          go_wp2_with fail
          refine (live_any _ G4).mono ?_
          rintro e w5 ⟨rfl, hb5⟩
          go_wp2_with fail
          go_ret
          exact ⟨rfl, below_next B4 hb5⟩
      | x :: y :: r =>
        rw [hl] at hlc
        obtain ⟨n, hn⟩ : ∃ n, n = (x :: y :: r).length := ⟨_, rfl⟩
        have hn2 : ((n : Int) != 1) = true := by rw [bne_iff_ne, hn]; simp; omega
        rw [← hn] at hlc ⊢
        clear f s4 hn
        go_wp2_with fail
        refine (live_any _ G4).mono ?_
        rintro e w5 ⟨rfl, hb5⟩
        go_wp2_with fail
        go_ret
        exact ⟨rfl, below_next B4 hb5⟩
    · obtain ⟨q1, q2⟩ := one_toks (Lx.lexS_word HW.out)
      have er0 : er = 0 := by rw [HE.out, q1]; rfl
      subst er0
      rw [q2] at s4
      obtain ⟨p, c, rfl, hlc, f⟩ := s4.form
      obtain ⟨b, o, rfl, hc⟩ := f w4 (Below.refl _ _) 0 ⟨3, s, 0⟩ rfl
      have c0 : w4.cell? ⟨b, o, none⟩ = some (.int .i64 3) := by have := hc 0 _ rfl; simpa using this
      have c1 : w4.cell? ⟨b, o + 1, none⟩ = some (.string s) := by have := hc 1 _ rfl; simpa using this
      have c2 : w4.cell? ⟨b, o + 2, none⟩ = some (.int .i64 0) := by have := hc 2 _ rfl; simpa using this
      have hq : ∀ W, (Op.equalIn 10000 33 (.agg #[.int .i64 3, .string s, .int .i64 0]) (.agg #[.int .i64 3, .string s, .int .i64 0])).run Tryd.prog W = .ok true W := fun W => by
        have := eqTok ⟨3, s, 0⟩ ⟨3, s, 0⟩ W
        rw [tokEq_iff.2 rfl] at this; exact this
      clear f hc s4 q1 q2
      go_wp2_with fail
      refine (live_any _ G4).mono ?_
      rintro e w5 ⟨rfl, hb5⟩
      go_wp2_with fail
      go_ret
      exact ⟨rfl, below_next B4 hb5⟩
  · obtain ⟨q1, q2⟩ := one_toks (Lx.lexS_name HN.out)
    have hnw := Lx.name_not_word HN.out
    rw [HW.out] at hnw
    subst hnw
    go_wp2_with fail
    refine (CW.out w2 G2).mono ?_
    rintro e w3 ⟨rfl, hb3⟩
    have B3 := below_next B2 hb3
    have k3 := k2.below hb3
    have s3 := s2.below hb3
    have G3 := G2.below hb3
    clear hb3 B2 k2 s2 G2
    go_wp2_with fail
    refine (CN.out w3 G3).mono ?_
    rintro e w4 ⟨rfl, hb4⟩
    have B4 := below_next B3 hb4
    have k4 := k3.below hb4
    have s4 := s3.below hb4
    have G4 := G3.below hb4
    clear hb4 B3 k3 s3 G3 CN CW
    obtain ⟨a0, a1, -, -⟩ := two_cells k4
    have er0 : er = 0 := by rw [HE.out, q1]; rfl
    subst er0
    rw [q2] at s4
    obtain ⟨p, c, rfl, hlc, f⟩ := s4.form
    obtain ⟨b, o, rfl, hc⟩ := f w4 (Below.refl _ _) 0 ⟨1, s, 0⟩ rfl
    have c0 : w4.cell? ⟨b, o, none⟩ = some (.int .i64 1) := by have := hc 0 _ rfl; simpa using this
    have c1 : w4.cell? ⟨b, o + 1, none⟩ = some (.string s) := by have := hc 1 _ rfl; simpa using this
    have c2 : w4.cell? ⟨b, o + 2, none⟩ = some (.int .i64 0) := by have := hc 2 _ rfl; simpa using this
    have hq : ∀ W, (Op.equalIn 10000 33 (.agg #[.int .i64 1, .string s, .int .i64 0]) (.agg #[.int .i64 1, .string s, .int .i64 0])).run Tryd.prog W = .ok true W := fun W => by
      have := eqTok ⟨1, s, 0⟩ ⟨1, s, 0⟩ W
      rw [tokEq_iff.2 rfl] at this; exact this
    clear f hc s4 q1 q2
    go_wp2_with fail
    refine (live_any _ G4).mono ?_
    rintro e w5 ⟨rfl, hb5⟩
    go_wp2_with fail
    go_ret
    exact ⟨rfl, below_next B4 hb5⟩
end Go.Proofs.YthnofhobhkcpfaaDoor
