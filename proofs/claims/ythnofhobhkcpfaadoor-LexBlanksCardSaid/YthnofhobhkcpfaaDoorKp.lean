/- The law LexReads: the walk. -/
import Derived.Test.YthnofhobhkcpfaaDoorKn
namespace Go.Proofs.YthnofhobhkcpfaaDoor
open Go.RowKit Go.Shelf

theorem bytes_ext {a b : ByteArray} (h : a.data.toList = b.data.toList) : a = b := by
  obtain ⟨⟨a⟩⟩ := a
  obtain ⟨⟨b⟩⟩ := b
  simp at h; rw [h]
/-- Lex answers, and the fault in a block of its own. -/
theorem fault_cells (W : World) (x y : Value) : Blk (W.alloc (.cells #[x, y] 26)) W.heap.size #[x, y] 26 := Blk.new W _ _

set_option maxRecDepth 100000 in
set_option maxHeartbeats 2000000 in
theorem reads_any (s : ByteArray) (w : World) (G : Gl w) : Calls Tryd.prog 3 #[.string s] w fun e w' => e = .returned (.bool true) ∧ Below w.heap.size w w' := by
  by_cases hs : 1000 < s.size
  · go_enter Tryd.func3, Tryd.ntmps3
    go_wp2_with fail
    refine (live_any w G).mono ?_
    rintro e w1 ⟨rfl, hb1⟩
    go_wp2_with fail
    go_ret
    exact ⟨rfl, hb1⟩
  have hs1 : s.size ≤ 1000 := by omega
  clear hs
  go_enter Tryd.func3, Tryd.ntmps3
  go_wp2_with fail
  refine (Lex_res s (by omega) w G).mono ?_
  rintro e w1 ⟨v, er, at_, rfl, hb1, s1, her, hat⟩
  have HE : Hid (er = lexEr s ∧ at_ = lexAt s) := ⟨her, hat⟩
  have G1 := G.below hb1
  have nb1 := (Below.refl w1.heap.size w1).alloc (Nat.le_refl _) (.cells #[.int .i64 er, .int .i64 at_] 26)
  have B1 := below_next hb1 nb1
  have k1 := Blk.new w1 #[.int .i64 er, .int .i64 at_] 26
  have s1 := s1.below nb1
  have G1 := G1.below nb1
  clear hb1 nb1 G her hat
  go_wp2_with fail
  generalize w1.alloc (.cells #[.int .i64 er, .int .i64 at_] 26) = W1 at B1 k1 s1 G1 ⊢
  generalize w1.heap.size = b1 at k1 ⊢
  refine (rLex_res s (by omega) W1).mono ?_
  rintro e w2 ⟨v2, er2, at2, rfl, hb2, s2, her, hat⟩
  obtain ⟨rfl, rfl⟩ : er2 = er ∧ at2 = at_ := ⟨by rw [HE.out.1]; exact her, by rw [HE.out.2]; exact hat⟩
  have nb2 := (Below.refl w2.heap.size w2).alloc (Nat.le_refl _) (.cells #[.int .i64 er2, .int .i64 at2] 26)
  have B2 := below_next (below_next B1 hb2) nb2
  have k1 := (k1.below hb2).below nb2
  have s1 := (s1.below hb2).below nb2
  have G2 := (G1.below hb2).below nb2
  have k2 := Blk.new w2 #[.int .i64 er2, .int .i64 at2] 26
  have s2 := s2.below nb2
  clear hb2 nb2 her hat B1 G1 HE
  go_wp2_with fail
  generalize w2.alloc (.cells #[.int .i64 er2, .int .i64 at2] 26) = W2 at B2 k1 k2 s1 s2 G2 ⊢
  generalize w2.heap.size = b2 at k2 ⊢
  have hlen := lexToks_len s
  have hroom := lexToks_room s
  refine (rSame_any W2 v v2 (lexToks s) (lexToks s) s1 s2 (by omega)).mono ?_
  rintro e w3 ⟨rfl, hb3⟩
  rw [show toksEq (lexToks s) (lexToks s) = true from toksEq_iff.2 rfl]
  have B3 := below_next B2 hb3
  have k1 := k1.below hb3
  have k2 := k2.below hb3
  have s1 := s1.below hb3
  have s2 := s2.below hb3
  have G3 := G2.below hb3
  obtain ⟨a0, a1, -, -⟩ := two_cells k1
  obtain ⟨c0, c1, -, -⟩ := two_cells k2
  have q1 : ∀ W, (Op.equalIn 10000 26 (.agg #[.int .i64 er2, .int .i64 at2]) (.agg #[.int .i64 er2, .int .i64 at2])).run Tryd.prog W = .ok true W := fun W => by rw [eqFault]; simp
  clear hb3 B2 G2
  go_wp2_with fail
  clear a0 a1 c0 c1 q1 k1 k2
  refine (IsName_any s w3 G3).mono ?_
  rintro e w4 ⟨rfl, hb4⟩
  have B4 := below_next B3 hb4
  have s1 := s1.below hb4
  have s2 := s2.below hb4
  have G4 := G3.below hb4
  clear hb4 B3 G3
  have cN := rIsName_any s w4
  generalize Lx.isName s.data.toList = bn at cN ⊢
  go_wp2_with fail
  refine cN.mono ?_
  rintro e w5 ⟨rfl, hb5⟩
  have B5 := below_next B4 hb5
  have s1 := s1.below hb5
  have s2 := s2.below hb5
  have G5 := G4.below hb5
  clear hb5 B4 G4 cN
  go_wp2_with fail
  refine (IsWord_any s w5 G5).mono ?_
  rintro e w6 ⟨rfl, hb6⟩
  have B6 := below_next B5 hb6
  have s1 := s1.below hb6
  have s2 := s2.below hb6
  have G6 := G5.below hb6
  clear hb6 B5 G5
  have cW := rIsWord_any s w6
  generalize Lx.isWord s.data.toList = bw at cW ⊢
  go_wp2_with fail
  refine cW.mono ?_
  rintro e w7 ⟨rfl, hb7⟩
  have B7 := below_next B6 hb7
  have s1 := s1.below hb7
  have s2 := s2.below hb7
  have G7 := G6.below hb7
  clear hb7 B6 G6 cW
  go_wp2_with fail
  refine (Join_any w7 v (lexToks s) s1 (by omega)).mono ?_
  rintro e w8 ⟨rfl, hb8⟩
  have B8 := below_next B7 hb8
  have s2 := s2.below hb8
  have G8 := G7.below hb8
  clear hb8 B7 G7 s1
  have cJ := rJoin_any w8 v2 (lexToks s) s2 (by omega)
  go_wp2_with fail
  refine cJ.mono ?_
  rintro e w9 ⟨j2, rfl, hj, hW⟩
  subst hW
  obtain ⟨j1, hj1⟩ : ∃ j1 : ByteArray, j1 = ⟨(Lx.join (texts (lexToks s))).toArray⟩ := ⟨_, rfl⟩
  have : j2 = j1 := bytes_ext (by rw [hj, hj1])
  rw [← hj1]
  subst this
  clear hj hj1 cJ s2
  go_wp2_with fail
  refine (live_any w9 G8).mono ?_
  rintro e w10 ⟨rfl, hb10⟩
  go_wp2_with fail
  go_ret
  exact ⟨rfl, below_next B8 hb10⟩
end Go.Proofs.YthnofhobhkcpfaaDoor
