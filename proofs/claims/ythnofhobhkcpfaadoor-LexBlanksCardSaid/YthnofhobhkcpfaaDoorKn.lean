/- live: the walk. -/
import Derived.Test.YthnofhobhkcpfaaDoorKm
namespace Go.Proofs.YthnofhobhkcpfaaDoor
open Go.RowKit Go.Shelf

set_option maxRecDepth 100000 in
set_option maxHeartbeats 1000000 in
theorem live_any (w : World) (G : Gl w) : Calls Tryd.prog 9 #[] w fun e w' => e = .returned (.bool true) ∧ Below w.heap.size w w' := by
  go_enter Tryd.func9, Tryd.ntmps9
  go_wp2_with fail
  refine (Lex_res live1 (by decide) w G).mono ?_
  rintro e w1 ⟨v, er, at_, rfl, hb1, hs1, her, hat⟩
  rw [live1_er.1] at her
  rw [live1_er.2] at hat
  rw [live1_toks] at hs1
  subst her hat
  have G1 := G.below hb1
  have nb1 := (Below.refl w1.heap.size w1).alloc (Nat.le_refl _) (.cells #[.int .i64 0, .int .i64 0] 26)
  have B1 := below_next hb1 nb1
  have k1 := Blk.new w1 #[.int .i64 0, .int .i64 0] 26
  have s1 := hs1.below nb1
  have G2 := G1.below nb1
  clear hb1 G1 nb1 hs1 G
  go_wp2_with fail
  obtain ⟨b1, hb1⟩ : ∃ b, b = w1.heap.size := ⟨_, rfl⟩
  rw [← hb1] at k1 ⊢
  generalize w1.alloc (.cells #[.int .i64 0, .int .i64 0] 26) = W1 at B1 k1 s1 G2 ⊢
  clear hb1
  refine (Lex_res live2 (by decide) W1 G2).mono ?_
  rintro e w2 ⟨v2, er, at_, rfl, hb2, -, her, hat⟩
  rw [live2_er.1] at her
  rw [live2_er.2] at hat
  subst her hat
  have nb2 := (Below.refl w2.heap.size w2).alloc (Nat.le_refl _) (.cells #[.int .i64 2, .int .i64 2] 26)
  have B2 := below_next (below_next B1 hb2) nb2
  have k1 := (k1.below hb2).below nb2
  have k2 := Blk.new w2 #[.int .i64 2, .int .i64 2] 26
  have s2 := (s1.below hb2).below nb2
  have G3 := (G2.below hb2).below nb2
  clear hb2 G2 nb2 s1 B1
  go_wp2_with fail
  obtain ⟨b2, hb2⟩ : ∃ b, b = w2.heap.size := ⟨_, rfl⟩
  rw [← hb2] at k2 ⊢
  have e2 : ∀ x y : Nat, w2.alloc (.cells #[.int .i64 ((x : Nat) : Int), .int .i64 ((y : Nat) : Int)] 26) = w2.alloc (.cells #[.int .i64 ((x : Nat) : Int), .int .i64 ((y : Nat) : Int)] 26) := fun _ _ => rfl
  generalize w2.alloc (.cells #[.int .i64 2, .int .i64 2] 26) = W2 at B2 k1 k2 s2 G3 ⊢
  clear hb2 e2
  refine (Lex_res live3 (by decide) W2 G3).mono ?_
  rintro e w3 ⟨v3, er, at_, rfl, hb3, -, her, hat⟩
  rw [live3_er.1] at her
  rw [live3_er.2] at hat
  subst her hat
  have nb3 := (Below.refl w3.heap.size w3).alloc (Nat.le_refl _) (.cells #[.int .i64 5, .int .i64 2] 26)
  have B3 := below_next (below_next B2 hb3) nb3
  have k1 := (k1.below hb3).below nb3
  have k2 := (k2.below hb3).below nb3
  have k3 := Blk.new w3 #[.int .i64 5, .int .i64 2] 26
  have s3 := (s2.below hb3).below nb3
  have G4 := (G3.below hb3).below nb3
  clear hb3 G3 nb3 s2 B2
  have sl := Sl.lit (c := 5) tokC_len (l := liveToks) (heap_alloc_new (w3.alloc (.cells #[.int .i64 5, .int .i64 2] 26)) (.cells (liveToks.flatMap tokC).toArray 33)) (by decide)
  rw [liveCells, World.size_alloc] at sl
  go_wp2_with fail
  generalize w3.alloc (.cells #[.int .i64 5, .int .i64 2] 26) = W3 at B3 k1 k2 k3 s3 G4 sl ⊢
  generalize w3.heap.size = b3 at k3 sl ⊢
  have nb4 := (Below.refl W3.heap.size W3).alloc (Nat.le_refl _) (.cells (liveToks.flatMap tokC).toArray 33)
  rw [liveCells] at nb4

  refine (rSame_any _ v _ liveToks liveToks (s3.below nb4) sl (by decide)).mono ?_
  rintro e w5 ⟨rfl, hb5⟩

  have hT : toksEq liveToks liveToks = true := toksEq_iff.2 rfl
  rw [hT]
  have B5 := below_next (below_next B3 nb4) hb5
  have k1 := two_cells ((k1.below nb4).below hb5)
  have k2 := two_cells ((k2.below nb4).below hb5)
  have k3 := two_cells ((k3.below nb4).below hb5)
  obtain ⟨a0, a1, -, -⟩ := k1
  obtain ⟨c0, c1, -, -⟩ := k2
  obtain ⟨d0, d1, -, -⟩ := k3
  have s5 := (s3.below nb4).below hb5
  have G5 := (G4.below nb4).below hb5
  have q1 : ∀ W, (Op.equalIn 10000 26 (.agg #[.int .i64 0, .int .i64 0]) (.agg #[.int .i64 0, .int .i64 0])).run Tryd.prog W = .ok true W := eqFault 0 0 0 0
  have q2 : ∀ W, (Op.equalIn 10000 26 (.agg #[.int .i64 2, .int .i64 2]) (.agg #[.int .i64 2, .int .i64 2])).run Tryd.prog W = .ok true W := eqFault 2 2 2 2
  have q3 : ∀ W, (Op.equalIn 10000 26 (.agg #[.int .i64 5, .int .i64 2]) (.agg #[.int .i64 5, .int .i64 2])).run Tryd.prog W = .ok true W := eqFault 5 2 5 2
  clear hb5 sl nb4 B3 G4 s3 hT

  go_wp2_with fail
  refine (IsName_any ⟨#[120, 95, 49]⟩ w5 G5).mono ?_
  rintro e w6 ⟨rfl, hb6⟩
  have hn1 : Lx.isName (⟨#[120, 95, 49]⟩ : ByteArray).data.toList = true := by decide +kernel
  rw [hn1]
  have B6 := below_next B5 hb6
  have s6 := s5.below hb6
  have G6 := G5.below hb6
  clear B5 s5 G5 hb6 hn1 a0 a1 c0 c1 d0 d1
  go_wp2_with fail
  refine (IsName_any ⟨#[110, 111, 100, 101]⟩ w6 G6).mono ?_
  rintro e w7 ⟨rfl, hb7⟩
  have hn2 : Lx.isName (⟨#[110, 111, 100, 101]⟩ : ByteArray).data.toList = false := by decide +kernel
  rw [hn2]
  have B7 := below_next B6 hb7
  have s7 := s6.below hb7
  have G7 := G6.below hb7
  clear B6 s6 G6 hb7 hn2
  go_wp2_with fail
  refine (IsWord_any ⟨#[110, 111, 100, 101]⟩ w7 G7).mono ?_
  rintro e w8 ⟨rfl, hb8⟩
  have hn3 : Lx.isWord (⟨#[110, 111, 100, 101]⟩ : ByteArray).data.toList = true := by decide +kernel
  rw [hn3]
  have B8 := below_next B7 hb8
  have s8 := s7.below hb8
  clear B7 s7 G7 hb8 hn3
  go_wp2_with fail
  refine (Join_any w8 v liveToks s8 (by decide +kernel)).mono ?_
  rintro e w9 ⟨rfl, hb9⟩
  have hj : (Lx.join (texts liveToks)).toArray = #[97, 32, 45, 62, 32, 112, 114, 101, 32, 98, 32, 49, 50] := by decide +kernel
  rw [hj]
  have B9 := below_next B8 hb9
  clear B8 s8 hb9 hj
  go_wp2_with fail
  go_ret
  exact ⟨rfl, B9⟩
end Go.Proofs.YthnofhobhkcpfaaDoor
