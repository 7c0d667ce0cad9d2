/- live: the walk. -/
import Derived.Test.YtffifljfbeaodaaDoorFn
namespace Go.Proofs.YtffifljfbeaodaaDoor
open Go.RowKit Go.Shelf

def lv1 : ByteArray := ⟨#[45, 51, 32, 116, 114, 117, 101, 10, 55, 32, 32, 102, 97, 108, 115, 101]⟩
def lv2 : ByteArray := ⟨#[49, 32, 116, 114, 117, 101, 10, 48, 49, 32, 116, 114, 117, 101, 10]⟩
def lv3 : ByteArray := ⟨#[45, 51, 32, 116, 114, 117, 101, 10, 55, 32, 102, 97, 108, 115, 101, 10]⟩
theorem lv1_is : rdRows [2, 1] lv1.data.toList = [[-3, 1], [7, 0]] ∧ rdEr [2, 1] lv1.data.toList = 0 ∧ rdAt [2, 1] lv1.data.toList = 0 := by decide +kernel
theorem lv2_is : rdRows [2, 1] lv2.data.toList = [[1, 1]] ∧ rdEr [2, 1] lv2.data.toList = 17 ∧ rdAt [2, 1] lv2.data.toList = 1 := by decide +kernel
theorem lv3_is : wrText [2, 1] [[-3, 1], [7, 0]] = lv3.data.toList ∧ wrEr [2, 1] [[-3, 1], [7, 0]] = 0 := by decide +kernel
theorem lv4_is : wrEr [2, 1] [[1, 2]] = 1 := by decide +kernel
/-- A row of numbers that a literal lays. -/
theorem Sl.ints (w : World) (l : List Int) : Sl intC 1 (w.alloc (.cells (l.flatMap intC).toArray 3)) (.slice (some ⟨w.heap.size, 0, none⟩) l.length l.length) l :=
  Sl.lit intC_len (heap_alloc_new w _) (Nat.le_refl _)
theorem Rs.lit {w : World} (vs : List Value) (l : List (List Int)) (hl : vs.length = l.length) (h : ∀ (i : Nat) (u : Value) (r : List Int), vs[i]? = some u → l[i]? = some r → Sl intC 1 w u r) : Rs (w.alloc (.cells vs.toArray 22)) (.slice (some ⟨w.heap.size, 0, none⟩) l.length l.length) l := by
  refine ⟨vs, ?_, hl, fun i u r hu hr => (h i u r hu hr).below ((Below.refl _ _).alloc (Nat.le_refl _) _)⟩
  rw [← hl]
  have := heap_alloc_new w (.cells vs.toArray 22)
  exact Sl.lit (l := vs) oneC_len (by rw [flat_one]; exact this) (Nat.le_refl _)

theorem lit2 (w : World) (r1 r2 : List Int) : Rs (((w.alloc (.cells (r1.flatMap intC).toArray 3)).alloc (.cells (r2.flatMap intC).toArray 3)).alloc (.cells #[.slice (some ⟨w.heap.size, 0, none⟩) r1.length r1.length, .slice (some ⟨w.heap.size + 1, 0, none⟩) r2.length r2.length] 22)) (.slice (some ⟨w.heap.size + 1 + 1, 0, none⟩) 2 2) [r1, r2] ∧
    Below w.heap.size w (((w.alloc (.cells (r1.flatMap intC).toArray 3)).alloc (.cells (r2.flatMap intC).toArray 3)).alloc (.cells #[.slice (some ⟨w.heap.size, 0, none⟩) r1.length r1.length, .slice (some ⟨w.heap.size + 1, 0, none⟩) r2.length r2.length] 22)) := by
  have al : ∀ (W : World) (o : Obj), Below W.heap.size W (W.alloc o) := fun W o => (Below.refl _ _).alloc (Nat.le_refl _) _
  have h1 := (Sl.ints w r1).below (al _ (.cells (r2.flatMap intC).toArray 3))
  have h2 := Sl.ints (w.alloc (.cells (r1.flatMap intC).toArray 3)) r2
  rw [World.size_alloc] at h2
  have h3 := Rs.lit (w := (w.alloc (.cells (r1.flatMap intC).toArray 3)).alloc (.cells (r2.flatMap intC).toArray 3)) [.slice (some ⟨w.heap.size, 0, none⟩) r1.length r1.length, .slice (some ⟨w.heap.size + 1, 0, none⟩) r2.length r2.length] [r1, r2] rfl (by
    intro i u r hu hr
    match i with
    | 0 => simp at hu hr; subst hu hr; exact h1
    | 1 => simp at hu hr; subst hu hr; exact h2
    | i + 2 => simp at hu)
  rw [World.size_alloc, World.size_alloc] at h3
  exact ⟨h3, below_next (below_next (al _ _) (al _ _)) (al _ _)⟩
theorem lit1 (w : World) (r1 : List Int) : Rs ((w.alloc (.cells (r1.flatMap intC).toArray 3)).alloc (.cells #[.slice (some ⟨w.heap.size, 0, none⟩) r1.length r1.length] 22)) (.slice (some ⟨w.heap.size + 1, 0, none⟩) 1 1) [r1] ∧
    Below w.heap.size w ((w.alloc (.cells (r1.flatMap intC).toArray 3)).alloc (.cells #[.slice (some ⟨w.heap.size, 0, none⟩) r1.length r1.length] 22)) := by
  have al : ∀ (W : World) (o : Obj), Below W.heap.size W (W.alloc o) := fun W o => (Below.refl _ _).alloc (Nat.le_refl _) _
  have h1 := Sl.ints w r1
  have h3 := Rs.lit (w := w.alloc (.cells (r1.flatMap intC).toArray 3)) [.slice (some ⟨w.heap.size, 0, none⟩) r1.length r1.length] [r1] rfl (by
    intro i u r hu hr
    match i with
    | 0 => simp at hu hr; subst hu hr; exact h1
    | i + 1 => simp at hu)
  rw [World.size_alloc] at h3
  exact ⟨h3, below_next (al _ _) (al _ _)⟩
def cl (l : List Int) : Obj := .cells (l.flatMap intC).toArray 3
theorem cl1 : (.cells #[.int .i64 (-3), .int .i64 1] 3 : Obj) = cl [-3, 1] := rfl
theorem cl2 : (.cells #[.int .i64 7, .int .i64 0] 3 : Obj) = cl [7, 0] := rfl
theorem cl3 : (.cells #[.int .i64 1, .int .i64 2] 3 : Obj) = cl [1, 2] := rfl
theorem cl4 : (.cells #[.int .i64 1, .int .i64 1] 3 : Obj) = cl [1, 1] := rfl

theorem faultPart0 (z u : Value) (w : World) : (part 25 #[z, u] 0).run Tryd.prog w = .ok z w := by kernel_rfl
theorem faultPart1 (z u : Value) (w : World) : (part 3 #[z, u] 1).run Tryd.prog w = .ok u w := by kernel_rfl
theorem faultStood : Tryd.prog.stoodInHeld 27 = false := by kernel_rfl
theorem eqFault (a b c d : Int) (w : World) : (Op.equalIn 10000 27 (.agg #[.int .i64 a, .int .i64 b]) (.agg #[.int .i64 c, .int .i64 d])).run Tryd.prog w = .ok (a == c && b == d) w := by
  have hu := Tryd.underlying27
  have hf := fields_eq Tryd.underlying27
  have hi : ∀ (d : Nat) (p q : Int), (Op.equalIn (d + 1) 3 (.int .i64 p) (.int .i64 q)).run Tryd.prog w = .ok (p == q) w := fun d p q => run_equalIn_int w d _ _ _ p q Tryd.underlying3
  have hs : ∀ (d : Nat) (p q : Int), (Op.equalIn (d + 1) 25 (.int .i64 p) (.int .i64 q)).run Tryd.prog w = .ok (p == q) w := fun d p q => run_equalIn_int w d _ _ _ p q Tryd.underlying25
  rw [run_equalIn_agg w 9999 _ _ _ (by rw [hf]; exact hu) faultStood, hf]
  simp only [Op.eqFields]
  cases h1 : (a == c) <;> cases h2 : (b == d) <;> simp [hi, hs, faultPart0, faultPart1, h1, h2, Result.andThen]

set_option maxRecDepth 100000 in
set_option maxHeartbeats 2000000 in
theorem live_any (w : World) (G : Gl w) : Calls Tryd.prog 9 #[] w fun e w' => e = .returned (.bool true) ∧ Below w.heap.size w w' := by
  have t0 := Sl.ints w [2, 1]
  have nb0 := (Below.refl w.heap.size w).alloc (Nat.le_refl _) (.cells (([2, 1] : List Int).flatMap intC).toArray 3)
  have G0 := G.below nb0
  have E0 : w.alloc (.cells #[.int .i64 2, .int .i64 1] 3) = w.alloc (.cells (([2, 1] : List Int).flatMap intC).toArray 3) := rfl
  have HE0 : Hid (_ = _) := E0
  clear E0 G
  go_enter Tryd.func9, Tryd.ntmps9
  go_wp2_with fail
  rw [HE0.out]
  clear HE0
  obtain ⟨v0, hv0⟩ : ∃ v0, v0 = Value.slice (some ⟨w.heap.size, 0, none⟩) 2 2 := ⟨_, rfl⟩
  have t0 : Sl intC 1 (w.alloc (.cells (([2, 1] : List Int).flatMap intC).toArray 3)) v0 [2, 1] := by rw [hv0]; exact t0
  have B0 : Below w.heap.size w (w.alloc (.cells (([2, 1] : List Int).flatMap intC).toArray 3)) := nb0
  rw [← hv0]
  generalize w.alloc (.cells (([2, 1] : List Int).flatMap intC).toArray 3) = W0 at t0 B0 G0 ⊢
  clear hv0 nb0
  refine (Read_any [2, 1] v0 lv1 (by decide) (by decide) W0 G0 t0).mono ?_
  rintro e w1 ⟨v1, er, at_, rfl, hb1, hs1, her, hat⟩
  rw [lv1_is.2.1] at her
  rw [lv1_is.2.2] at hat
  rw [lv1_is.1] at hs1
  subst her hat
  have nb1 := (Below.refl w1.heap.size w1).alloc (Nat.le_refl _) (.cells #[.int .i64 0, .int .i64 0] 27)
  have B1 := below_next B0 (below_next hb1 (nb1.mono (Nat.le_refl _)))
  have k1 := Blk.new w1 #[.int .i64 0, .int .i64 0] 27
  have s1 := hs1.below nb1
  have t1 := (t0.below hb1).below nb1
  have G1 := (G0.below hb1).below nb1
  clear hb1 nb1 hs1 t0 B0 G0
  obtain ⟨p0, c0, rfl, -, -⟩ := t1.form
  obtain ⟨p1, c1, rfl, -, -⟩ := s1.form
  go_wp2_with fail
  obtain ⟨b1, hb1⟩ : ∃ b, b = w1.heap.size := ⟨_, rfl⟩
  rw [← hb1] at k1 ⊢
  generalize w1.alloc (.cells #[.int .i64 0, .int .i64 0] 27) = W1 at B1 k1 s1 t1 G1 ⊢
  clear hb1
  refine (Read_any [2, 1] _ lv2 (by decide) (by decide) W1 G1 t1).mono ?_
  rintro e w2 ⟨v2, er, at_, rfl, hb2, hs2, her, hat⟩
  rw [lv2_is.2.1] at her
  rw [lv2_is.2.2] at hat
  rw [lv2_is.1] at hs2
  subst her hat
  have nb2 := (Below.refl w2.heap.size w2).alloc (Nat.le_refl _) (.cells #[.int .i64 17, .int .i64 1] 27)
  have B2 := below_next (below_next B1 hb2) nb2
  have k2 := Blk.new w2 #[.int .i64 17, .int .i64 1] 27
  have k1 := (k1.below hb2).below nb2
  have s1 := (s1.below hb2).below nb2
  have s2 := hs2.below nb2
  have t2 := (t1.below hb2).below nb2
  have G2 := (G1.below hb2).below nb2
  clear hb2 nb2 hs2 t1 B1 G1
  obtain ⟨p2, c2, rfl, -, -⟩ := s2.form
  go_wp2_with fail
  obtain ⟨b2, hb2⟩ : ∃ b, b = w2.heap.size := ⟨_, rfl⟩
  rw [cl1, cl2]
  rw [← hb2] at k2 ⊢
  generalize hW2 : w2.alloc (.cells #[.int .i64 17, .int .i64 1] 27) = W2 at B2 k1 k2 s1 s2 t2 G2 ⊢
  have hz2 : b2 + 1 = W2.heap.size := by rw [← hW2, hb2]; simp
  rw [hz2]
  clear hb2 hW2 hz2
  obtain ⟨A3, hA3⟩ : ∃ A3, A3 = ((W2.alloc (cl [-3, 1])).alloc (cl [7, 0])).alloc (.cells #[.slice (some ⟨W2.heap.size, 0, none⟩) 2 2, .slice (some ⟨W2.heap.size + 1, 0, none⟩) 2 2] 22) := ⟨_, rfl⟩
  obtain ⟨r3, nb3⟩ : Rs A3 (.slice (some ⟨W2.heap.size + 1 + 1, 0, none⟩) 2 2) [[-3, 1], [7, 0]] ∧ Below W2.heap.size W2 A3 := by rw [hA3]; exact lit2 W2 [-3, 1] [7, 0]
  rw [← hA3]
  clear hA3
  have B3 := below_next B2 nb3
  have k1 := k1.below nb3
  have k2 := k2.below nb3
  have s1 := s1.below nb3
  have s2 := s2.below nb3
  have t3 := t2.below nb3
  have G3 := G2.below nb3
  clear nb3 t2 B2 G2
  generalize W2.heap.size = z2 at r3 ⊢
  refine (Write_any [2, 1] [[-3, 1], [7, 0]] _ _ (by decide) (by decide) A3 G3 t3 r3).mono ?_
  rintro e w4 ⟨q1, er, rfl, hb4, hq1, her⟩
  rw [lv3_is.1] at hq1
  rw [lv3_is.2] at her
  subst her
  obtain rfl : q1 = lv3 := bytes_ext hq1
  have B4 := below_next B3 hb4
  have k1 := k1.below hb4
  have k2 := k2.below hb4
  have s1 := s1.below hb4
  have s2 := s2.below hb4
  have t4 := t3.below hb4
  have G4 := G3.below hb4
  clear hb4 t3 B3 G3 r3 hq1
  go_wp2_with fail
  rw [cl3]
  obtain ⟨A5, hA5⟩ : ∃ A5, A5 = (w4.alloc (cl [1, 2])).alloc (.cells #[.slice (some ⟨w4.heap.size, 0, none⟩) 2 2] 22) := ⟨_, rfl⟩
  obtain ⟨r5, nb5⟩ : Rs A5 (.slice (some ⟨w4.heap.size + 1, 0, none⟩) 1 1) [[1, 2]] ∧ Below w4.heap.size w4 A5 := by rw [hA5]; exact lit1 w4 [1, 2]
  rw [← hA5]
  clear hA5
  have B5 := below_next B4 nb5
  have k1 := k1.below nb5
  have k2 := k2.below nb5
  have s1 := s1.below nb5
  have s2 := s2.below nb5
  have t5 := t4.below nb5
  have G5 := G4.below nb5
  clear nb5 t4 B4 G4
  generalize w4.heap.size = z4 at r5 ⊢
  refine (Write_any [2, 1] [[1, 2]] _ _ (by decide) (by decide) A5 G5 t5 r5).mono ?_
  rintro e w6 ⟨q2, er, rfl, hb6, -, her⟩
  rw [lv4_is] at her
  subst her
  have B6 := below_next B5 hb6
  have k1 := k1.below hb6
  have k2 := k2.below hb6
  have s1 := s1.below hb6
  have s2 := s2.below hb6
  clear hb6 t5 B5 G5 r5
  go_wp2_with fail
  rw [cl1, cl2]
  obtain ⟨A7, hA7⟩ : ∃ A7, A7 = ((w6.alloc (cl [-3, 1])).alloc (cl [7, 0])).alloc (.cells #[.slice (some ⟨w6.heap.size, 0, none⟩) 2 2, .slice (some ⟨w6.heap.size + 1, 0, none⟩) 2 2] 22) := ⟨_, rfl⟩
  obtain ⟨r7, nb7⟩ : Rs A7 (.slice (some ⟨w6.heap.size + 1 + 1, 0, none⟩) 2 2) [[-3, 1], [7, 0]] ∧ Below w6.heap.size w6 A7 := by rw [hA7]; exact lit2 w6 [-3, 1] [7, 0]
  rw [← hA7]
  clear hA7
  have B7 := below_next B6 nb7
  have k1 := k1.below nb7
  have k2 := k2.below nb7
  have s1 := s1.below nb7
  have s2 := s2.below nb7
  clear nb7 B6
  generalize w6.heap.size = z6 at r7 ⊢
  refine (Rows_any [[-3, 1], [7, 0]] [[-3, 1], [7, 0]] _ _ A7 s1 r7 (by decide) (by decide)).mono ?_
  rintro e w8 ⟨rfl, nq8, rfl⟩
  have nb8 := below_drawn (Below.refl A7.heap.size A7) nq8
  have B8 := below_next B7 nb8
  have k1 := k1.below nb8
  have k2 := k2.below nb8
  have s2 := s2.below nb8
  generalize A7.drewN nq8 = w8 at B8 k1 k2 s2 ⊢
  clear nb8 B7 r7 s1
  have hk1 := fun W (h : Below w8.heap.size w8 W) => two_cells (k1.below h)
  have e1 : ∀ W, (Op.equalIn 10000 27 (.agg #[.int .i64 0, .int .i64 0]) (.agg #[.int .i64 0, .int .i64 0])).run Tryd.prog W = .ok true W := fun W => eqFault 0 0 0 0 W
  have e2 : ∀ W, (Op.equalIn 10000 27 (.agg #[.int .i64 17, .int .i64 1]) (.agg #[.int .i64 17, .int .i64 1])).run Tryd.prog W = .ok true W := fun W => eqFault 17 1 17 1 W
  obtain ⟨g1, g2, -, -⟩ := two_cells k1
  go_wp2_with fail
  rw [cl4]
  obtain ⟨A9, hA9⟩ : ∃ A9, A9 = (w8.alloc (cl [1, 1])).alloc (.cells #[.slice (some ⟨w8.heap.size, 0, none⟩) 2 2] 22) := ⟨_, rfl⟩
  obtain ⟨r9, nb9⟩ : Rs A9 (.slice (some ⟨w8.heap.size + 1, 0, none⟩) 1 1) [[1, 1]] ∧ Below w8.heap.size w8 A9 := by rw [hA9]; exact lit1 w8 [1, 1]
  rw [← hA9]
  clear hA9 hk1
  have B9 := below_next B8 nb9
  have k2 := k2.below nb9
  have s2 := s2.below nb9
  clear nb9 B8
  generalize w8.heap.size = z8 at r9 ⊢
  refine (Rows_any [[1, 1]] [[1, 1]] _ _ A9 s2 r9 (by decide) (by decide)).mono ?_
  rintro e w10 ⟨rfl, nq10, rfl⟩
  have nb10 := below_drawn (Below.refl A9.heap.size A9) nq10
  have B10 := below_next B9 nb10
  have k2 := k2.below nb10
  generalize A9.drewN nq10 = w10 at B10 k2 ⊢
  clear nb10 B9 r9 s2
  obtain ⟨g3, g4, -, -⟩ := two_cells k2
  have hs : (lv3.toList == [45, 51, 32, 116, 114, 117, 101, 10, 55, 32, 102, 97, 108, 115, 101, 10]) = true := by decide +kernel
  go_wp2_with fail
  go_ret
  exact ⟨rfl, B10⟩
end Go.Proofs.YtffifljfbeaodaaDoor
