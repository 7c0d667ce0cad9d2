/- live of the laws of expressions: the walk. Expressions out of texts: the laws, plainly. The law ExprRound, whatever its argument: the walk. The law ExprFault, whatever its argument: the walk. -/
import Derived.Test.YtmklieoikbgmpaaGreatDoorJ14
import Derived.Test.YtmklieoikbgmpaaGreatDoorJ15
import Derived.Test.YtmklieoikbgmpaaGreatDoorJ38
set_option linter.unusedVariables false
set_option linter.unusedSimpArgs false
namespace Go.Proofs.YtmklieoikbgmpaaGreatDoor
open Go.RowKit Go.Shelf Tx Px
theorem flt_fields {P : Program} {t : TypeId} {fs : Array Field} (h : P.underlying t = some (.struct fs)) : P.fieldsOf t = fs := by unfold Program.fieldsOf; rw [h]
theorem fltPart0 (z u : Value) (w : World) : (part 25 #[z, u] 0).run Tryz.prog w = .ok z w := by kernel_rfl
theorem fltPart1 (z u : Value) (w : World) : (part 3 #[z, u] 1).run Tryz.prog w = .ok u w := by kernel_rfl
theorem fltStood : Tryz.prog.stoodInHeld 27 = false := by kernel_rfl
theorem eqFlt (a b c d : Int) (w : World) : (Op.equalIn 10000 27 (.agg #[.int .i64 a, .int .i64 b]) (.agg #[.int .i64 c, .int .i64 d])).run Tryz.prog w = .ok (a == c && b == d) w := by
  have hu := Tryz.underlying27
  have hf := flt_fields Tryz.underlying27
  have hi : ∀ (d : Nat) (p q : Int), (Op.equalIn (d + 1) 3 (.int .i64 p) (.int .i64 q)).run Tryz.prog w = .ok (p == q) w := fun d p q => run_equalIn_int w d _ _ _ p q Tryz.underlying3
  have hs : ∀ (d : Nat) (p q : Int), (Op.equalIn (d + 1) 25 (.int .i64 p) (.int .i64 q)).run Tryz.prog w = .ok (p == q) w := fun d p q => run_equalIn_int w d _ _ _ p q Tryz.underlying25
  rw [run_equalIn_agg w 9999 _ _ _ (by rw [hf]; exact hu) fltStood, hf]
  simp only [Op.eqFields]
  cases h1 : (a == c) <;> cases h2 : (b == d) <;> simp [hi, hs, fltPart0, fltPart1, h1, h2, Result.andThen]
def e4A : ByteArray := ⟨#[97, 32, 45, 62, 32, 98, 32, 62, 32, 49]⟩
def e4B : ByteArray := ⟨#[97, 32, 43, 32]⟩
def e4C : ByteArray := ⟨#[97, 32, 98]⟩
def e4D : ByteArray := ⟨#[97, 32, 61, 32, 98, 32, 61, 32, 99]⟩
def fE4 : Fo := .tr 19 0 ByteArray.empty (.tr 3 0 ⟨#[97]⟩ .no (.tr 12 0 ByteArray.empty (.tr 1 1 ByteArray.empty .no (.tr 3 0 ⟨#[98]⟩ .no .no)) .no)) .no
theorem e4A_read : RdS e4A (.ok fE4) := by
  have h1 : (Lx.lexS e4A.data.toList).2 = none := by kernel_rfl
  unfold RdS
  rw [h1]
  exact ⟨.ok (fE4, (toks e4A.size (Lx.lexS e4A.data.toList).1).length), ⟨60, by kernel_rfl⟩, by kernel_rfl⟩
theorem e4_err {s : ByteArray} {c p : Int} (h1 : (Lx.lexS s.data.toList).2 = none) (x : Except (Int × Int) (Fo × Nat)) (h2 : parse (toks s.size (Lx.lexS s.data.toList).1) 60 0 = some x) (h3 : endR (toks s.size (Lx.lexS s.data.toList).1) x = .error (c, p)) : RdS s (.error (c, p)) := by
  unfold RdS
  rw [h1]
  refine ⟨x, ⟨60, h2⟩, ?_⟩
  rw [← h3]
  match x with
  | .error e => rfl
  | .ok (F, i) => rfl
theorem e4B_read : RdS e4B (.error (5, -1)) := e4_err (by kernel_rfl) (.error (5, -1)) (by kernel_rfl) rfl
theorem e4C_read : RdS e4C (.error (5, 2)) := e4_err (by kernel_rfl) (.ok (.tr 3 0 ⟨#[97]⟩ .no .no, 1)) (by kernel_rfl) (by kernel_rfl)
def fD4 : Fo := .tr 10 0 ByteArray.empty (.tr 3 0 ⟨#[97]⟩ .no (.tr 3 0 ⟨#[98]⟩ .no .no)) .no
theorem e4D_lex : (Lx.lexS e4D.data.toList).2 = none := by kernel_rfl
theorem e4D_par : parse (toks e4D.size (Lx.lexS e4D.data.toList).1) 60 0 = some (.ok (fD4, 3)) := by kernel_rfl
theorem e4D_end : endR (toks e4D.size (Lx.lexS e4D.data.toList).1) (.ok (fD4, 3)) = .error (5, 6) := by kernel_rfl
theorem e4D_read : RdS e4D (.error (5, 6)) := @e4_err e4D 5 6 e4D_lex (.ok (fD4, 3)) e4D_par e4D_end
theorem e4A_nodes : fE4.flat 0 = [⟨3, -1, -1, -1, 0, ⟨#[97]⟩⟩, ⟨1, -1, -1, -1, 1, ⟨#[]⟩⟩, ⟨3, -1, -1, -1, 0, ⟨#[98]⟩⟩, ⟨12, 1, 2, -1, 0, ⟨#[]⟩⟩, ⟨19, 0, 3, -1, 0, ⟨#[]⟩⟩] := by kernel_rfl
set_option maxRecDepth 100000 in
theorem at_nil (w : World) : Calls Tryz.prog 23 #[.slice none 0 0, .int .i64 0] w fun e w' => e = .returned (.int .i64 (-1)) ∧ w' = w := by
  go_enter Tryz.func23, Tryz.ntmps23
  go_wp2_with fail
  go_ret
  exact ⟨rfl, rfl⟩
set_option maxRecDepth 100000 in
set_option maxHeartbeats 4000000 in
theorem live04_any (w : World) (G : Gl w) : Calls Tryz.prog 11 #[] w fun e w' => e = .returned (.bool true) ∧ Below w.heap.size w w' := by
  have rdA := pRead_any e4A (by decide) (.ok fE4) e4A_read w G
  have rdB := fun W (hW : Below w.heap.size w W) => pRead_any e4B (by decide) _ e4B_read W (G.below hW)
  have rdC := fun W (hW : Below w.heap.size w W) => pRead_any e4C (by decide) _ e4C_read W (G.below hW)
  have rdD := fun W (hW : Below w.heap.size w W) => pRead_any e4D (by decide) _ e4D_read W (G.below hW)
  have HB := Lib.hid rdB
  have HC := Lib.hid rdC
  have HD := Lib.hid rdD
  clear rdB rdC rdD G
  go_enter Tryz.func11, Tryz.ntmps11
  go_wp2_with fail
  refine rdA.mono ?_
  rintro e w1 ⟨hb1, v1, rfl, ho1⟩
  have hE := ho1.isE
  rw [e4A_nodes] at hE
  obtain ⟨a1, c1, hv1, hc1, hx1⟩ := hE.form
  have hv1' : v1 = .slice a1 5 c1 := hv1
  subst hv1'
  clear hv1
  obtain ⟨b, o, hab, hcell⟩ := hx1 w1 (Below.refl _ _) 1 _ rfl
  subst hab
  obtain ⟨b', o', hab, hcell3⟩ := hx1 w1 (Below.refl _ _) 3 _ rfl
  cases hab
  obtain ⟨b', o', hab, hcell4⟩ := hx1 w1 (Below.refl _ _) 4 _ rfl
  cases hab
  have k10 : w1.cell? ⟨b, o + 6, none⟩ = some (.int .i64 1) := hcell 0 _ rfl
  have k30 : w1.cell? ⟨b, o + 18, none⟩ = some (.int .i64 12) := hcell3 0 _ rfl
  have k31 : w1.cell? ⟨b, o + 18 + 1, none⟩ = some (.int .i64 1) := hcell3 1 _ rfl
  have k32 : w1.cell? ⟨b, o + 18 + 2, none⟩ = some (.int .i64 2) := hcell3 2 _ rfl
  have k33 : w1.cell? ⟨b, o + 18 + 3, none⟩ = some (.int .i64 (-1)) := hcell3 3 _ rfl
  have k34 : w1.cell? ⟨b, o + 18 + 4, none⟩ = some (.int .i64 0) := hcell3 4 _ rfl
  have k35 : w1.cell? ⟨b, o + 18 + 5, none⟩ = some (.string ⟨#[]⟩) := hcell3 5 _ rfl
  have k40 : w1.cell? ⟨b, o + 24, none⟩ = some (.int .i64 19) := hcell4 0 _ rfl
  have hbl : b < w1.heap.size := World.block_lt_of_cell? w1 _ k10
  have KC : Hid (∀ W, Below w1.heap.size w1 W → W.cell? ⟨b, o + 6, none⟩ = some (.int .i64 1) ∧ W.cell? ⟨b, o + 18, none⟩ = some (.int .i64 12) ∧ W.cell? ⟨b, o + 18 + 1, none⟩ = some (.int .i64 1) ∧ W.cell? ⟨b, o + 18 + 2, none⟩ = some (.int .i64 2) ∧ W.cell? ⟨b, o + 18 + 3, none⟩ = some (.int .i64 (-1)) ∧ W.cell? ⟨b, o + 18 + 4, none⟩ = some (.int .i64 0) ∧ W.cell? ⟨b, o + 18 + 5, none⟩ = some (.string ⟨#[]⟩) ∧ W.cell? ⟨b, o + 24, none⟩ = some (.int .i64 19)) := fun W h =>
    ⟨(h.cell (p := ⟨b, o + 6, none⟩) hbl).trans k10, (h.cell (p := ⟨b, o + 18, none⟩) hbl).trans k30, (h.cell (p := ⟨b, o + 18 + 1, none⟩) hbl).trans k31, (h.cell (p := ⟨b, o + 18 + 2, none⟩) hbl).trans k32, (h.cell (p := ⟨b, o + 18 + 3, none⟩) hbl).trans k33, (h.cell (p := ⟨b, o + 18 + 4, none⟩) hbl).trans k34, (h.cell (p := ⟨b, o + 18 + 5, none⟩) hbl).trans k35, (h.cell (p := ⟨b, o + 24, none⟩) hbl).trans k40⟩
  have hc5 : 5 ≤ c1 := hc1
  clear rdA ho1 hE hx1 hcell hcell3 hcell4 k10 k30 k31 k32 k33 k34 k35 k40 hc1 hbl
  obtain ⟨W1, hW1⟩ : ∃ W1, W1 = w1.alloc (.cells #[.int .i64 0, .int .i64 0] 27) := ⟨_, rfl⟩
  have b1 : Below w1.heap.size w1 W1 := by rw [hW1]; exact (Below.refl _ _).alloc (Nat.le_refl _) _
  have F1 : Hid (Blk W1 w1.heap.size #[.int .i64 0, .int .i64 0] 27) := by show Blk _ _ _ _; rw [hW1]; exact Blk.new w1 _ _
  have B1 : Hid (Below w.heap.size w W1) := below_next hb1 b1
  have KB1 := Lib.hid b1
  have HW1 := Lib.hid hW1
  clear hW1 b1 hb1
  go_wp2_with fail
  rw [← HW1.out]
  refine (HB.out W1 B1.out).mono ?_
  rintro e w2 ⟨hb2, hne, rfl⟩
  obtain ⟨W2, hW2⟩ : ∃ W2, W2 = w2.alloc (.cells #[.int .i64 5, .int .i64 (-1)] 27) := ⟨_, rfl⟩
  have b2 : Below w2.heap.size w2 W2 := by rw [hW2]; exact (Below.refl _ _).alloc (Nat.le_refl _) _
  have F2 : Hid (Blk W2 w2.heap.size #[.int .i64 5, .int .i64 (-1)] 27) := by show Blk _ _ _ _; rw [hW2]; exact Blk.new w2 _ _
  have F12 := Lib.hid ((F1.out.below hb2).below b2)
  have B2 : Hid (Below w.heap.size w W2) := below_next (below_next B1.out hb2) b2
  have KB2 : Hid (Below w1.heap.size w1 W2) := below_next (below_next KB1.out hb2) b2
  have HW2 := Lib.hid hW2
  clear hW2 b2 hb2 hne HW1
  go_wp2_with fail
  rw [← HW2.out]
  refine (HC.out W2 B2.out).mono ?_
  rintro e w3 ⟨hb3, hne, rfl⟩
  obtain ⟨W3, hW3⟩ : ∃ W3, W3 = w3.alloc (.cells #[.int .i64 5, .int .i64 2] 27) := ⟨_, rfl⟩
  have b3 : Below w3.heap.size w3 W3 := by rw [hW3]; exact (Below.refl _ _).alloc (Nat.le_refl _) _
  have F3 : Hid (Blk W3 w3.heap.size #[.int .i64 5, .int .i64 2] 27) := by show Blk _ _ _ _; rw [hW3]; exact Blk.new w3 _ _
  have F13 := Lib.hid ((F12.out.below hb3).below b3)
  have F23 := Lib.hid ((F2.out.below hb3).below b3)
  have B3 : Hid (Below w.heap.size w W3) := below_next (below_next B2.out hb3) b3
  have KB3 : Hid (Below w1.heap.size w1 W3) := below_next (below_next KB2.out hb3) b3
  have HW3 := Lib.hid hW3
  clear hW3 b3 hb3 hne HW2
  go_wp2_with fail
  rw [← HW3.out]
  refine (HD.out W3 B3.out).mono ?_
  rintro e w4 ⟨hb4, hne, rfl⟩
  obtain ⟨W4, hW4⟩ : ∃ W4, W4 = w4.alloc (.cells #[.int .i64 5, .int .i64 6] 27) := ⟨_, rfl⟩
  have b4 : Below w4.heap.size w4 W4 := by rw [hW4]; exact (Below.refl _ _).alloc (Nat.le_refl _) _
  have F4 : Hid (Blk W4 w4.heap.size #[.int .i64 5, .int .i64 6] 27) := by show Blk _ _ _ _; rw [hW4]; exact Blk.new w4 _ _
  have F14 := Lib.hid ((F13.out.below hb4).below b4)
  have F24 := Lib.hid ((F23.out.below hb4).below b4)
  have F34 := Lib.hid ((F3.out.below hb4).below b4)
  have B4 : Hid (Below w.heap.size w W4) := below_next (below_next B3.out hb4) b4
  have KB4 : Hid (Below w1.heap.size w1 W4) := below_next (below_next KB3.out hb4) b4
  have HW4 := Lib.hid hW4
  clear hW4 b4 hb4 hne HW3
  obtain ⟨k10, k30, k31, k32, k33, k34, k35, k40⟩ := KC.out W4 KB4.out
  obtain ⟨u0, u1, -, -⟩ := two_cells F14.out
  obtain ⟨v0, v1, -, -⟩ := two_cells F24.out
  obtain ⟨x0, x1, -, -⟩ := two_cells F34.out
  obtain ⟨y0, y1, -, -⟩ := two_cells F4.out
  have q1 : ∀ W, (Op.equalIn 10000 27 (.agg #[.int .i64 0, .int .i64 0]) (.agg #[.int .i64 0, .int .i64 0])).run Tryz.prog W = .ok true W := eqFlt 0 0 0 0
  have q2 : ∀ W, (Op.equalIn 10000 27 (.agg #[.int .i64 5, .int .i64 (-1)]) (.agg #[.int .i64 5, .int .i64 (-1)])).run Tryz.prog W = .ok true W := eqFlt 5 (-1) 5 (-1)
  have q3 : ∀ W, (Op.equalIn 10000 27 (.agg #[.int .i64 5, .int .i64 2]) (.agg #[.int .i64 5, .int .i64 2])).run Tryz.prog W = .ok true W := eqFlt 5 2 5 2
  have q4 : ∀ W, (Op.equalIn 10000 27 (.agg #[.int .i64 5, .int .i64 6]) (.agg #[.int .i64 5, .int .i64 6])).run Tryz.prog W = .ok true W := eqFlt 5 6 5 6
  have q5 : ∀ W, (Op.equalIn 10000 60 (.agg #[.int .i64 12, .int .i64 1, .int .i64 2, .int .i64 (-1), .int .i64 0, .string ⟨#[]⟩]) (.agg #[.int .i64 12, .int .i64 1, .int .i64 2, .int .i64 (-1), .int .i64 0, .string ⟨#[]⟩])).run Tryz.prog W = .ok true W := fun W => by
    have h := eqNd ⟨12, 1, 2, -1, 0, ⟨#[]⟩⟩ ⟨12, 1, 2, -1, 0, ⟨#[]⟩⟩ W
    simpa [ndV] using h
  have hat := at_nil W4
  have hw4 := HW4.out
  clear HW4
  subst hw4
  go_wp2_with fail
  refine hat.mono ?_
  rintro e w5 ⟨rfl, rfl⟩
  clear hat
  go_wp2_with fail
  go_ret
  exact ⟨rfl, B4.out⟩
end Go.Proofs.YtmklieoikbgmpaaGreatDoor
namespace Go.Proofs.YtmklieoikbgmpaaGreatDoor
open Go.RowKit Go.Shelf Tx Px
theorem RdS.okE {s : ByteArray} {F : Fo} (h : RdS s (.ok F)) : (Lx.lexS s.data.toList).2 = none ∧ RdR (toks s.size (Lx.lexS s.data.toList).1) (.ok F) := by
  unfold RdS at h
  split at h
  · cases h
  · rename_i e; exact ⟨e, h⟩
theorem RdS.good {s : ByteArray} {F : Fo} (h : RdS s (.ok F)) : Px.Good F ∧ F.size ≤ 5000 ∧ F.depth ≤ 40 := by
  obtain ⟨f, _, h1, h2, h3⟩ := h.okE.2.ok (toks_is s)
  exact ⟨h3, h1, h2⟩
theorem RdS.may {s : ByteArray} {F : Fo} (h : RdS s (.ok F)) : mayB (F.flat 0) = true := by
  obtain ⟨h1, h2, h3⟩ := h.good
  exact good_may h1 h2 h3
theorem round_S {s t : ByteArray} {F : Fo} (h : RdS s (.ok F)) (ht : t.data.toList = 40 :: (s.data.toList ++ [10, 41])) : RdS t (.ok F) ∨ ∃ a, RdS t (.error (6, a)) := by
  obtain ⟨h1, h2⟩ := h.okE
  have hp := lexS_par s.data.toList h1
  have key : ∀ r, RdR (toks t.size (Lx.lexS t.data.toList).1) r → RdS t r := fun r hr => by
    unfold RdS; rw [ht, hp]; rw [ht, hp] at hr; exact hr
  have hr := round_par (toks_is s) (p := t.size - (s.data.toList.length + 3)) (q := t.size - 1) (M := ((Lx.lexS s.data.toList).1.map (Lx.sh 2)).map (tok t.size)) (by simp [toks]) (fun i x hx => by
    unfold toks at hx
    rw [List.getElem?_map] at hx
    obtain ⟨y, hy, rfl⟩ := Option.map_eq_some_iff.1 hx
    exact ⟨tok t.size (Lx.sh 2 y), by rw [List.getElem?_map, List.getElem?_map, hy]; rfl, rfl, rfl⟩) h2
  have e : toks t.size (Lx.lexS t.data.toList).1 = lparT (t.size - (s.data.toList.length + 3)) :: ((Lx.lexS s.data.toList).1.map (Lx.sh 2)).map (tok t.size) ++ [rparT (t.size - 1)] := by
    rw [ht, hp]
    unfold toks
    simp only [List.map_cons, List.map_append, List.map_nil, List.cons_append]
    rfl
  rw [← e] at hr
  rcases hr with hr | ⟨a, hr⟩
  · exact Or.inl (key _ hr)
  · exact Or.inr ⟨a, key _ hr⟩
theorem fault_S {s : ByteArray} {c p : Int} (h : RdS s (.error (c, p))) (h1 : (Lx.lexS s.data.toList).2 = none) : p = -1 ∨ ∃ t ∈ toks s.size (Lx.lexS s.data.toList).1, p = t.p := by
  unfold RdS at h
  rw [h1] at h
  exact (fault_par h).2
theorem fault_L {s : ByteArray} {c p : Int} {k m : Nat} (h : RdS s (.error (c, p))) (h1 : (Lx.lexS s.data.toList).2 = some (k, m)) : c = (k : Int) ∧ p = ((s.size - m : Nat) : Int) := by
  unfold RdS at h
  rw [h1] at h
  simp only [Except.error.injEq, Prod.mk.injEq] at h
  exact h
theorem short_S {s : ByteArray} {F : Fo} (h : RdS s (.ok F)) : 1 ≤ (toks s.size (Lx.lexS s.data.toList).1).length ∧ ∀ G n, ParR ((toks s.size (Lx.lexS s.data.toList).1).take ((toks s.size (Lx.lexS s.data.toList).1).length - 1)) 0 (.ok (G, n)) → n < (toks s.size (Lx.lexS s.data.toList).1).length ∧ G.size ≤ F.size :=
  short_par (toks_is s) h.okE.2
theorem concat3 (s : ByteArray) : ((⟨#[40]⟩ ++ s) ++ (⟨#[10, 41]⟩ : ByteArray)).data.toList = 40 :: (s.data.toList ++ [10, 41]) := by simp
end Go.Proofs.YtmklieoikbgmpaaGreatDoor
namespace Go.Proofs.YtmklieoikbgmpaaGreatDoor
open Go.RowKit Go.Shelf Tx Px
set_option maxRecDepth 100000 in
set_option maxHeartbeats 4000000 in
theorem exprRound_any (s : ByteArray) (hs : s.size ≤ maxLen) (w : World) (G : Gl w) :
    Calls Tryz.prog 3 #[.string s] w fun e w' => e = .returned (.bool true) ∧ Below w.heap.size w w' := by
  have hlive := fun W (hW : Below w.heap.size w W) => live04_any W (G.below hW)
  unfold maxLen at hs
  by_cases hbig : 1500 < s.size
  · have hl := hlive w (Below.refl _ _)
    have hb1 : (1500 : Int) < (s.size : Int) := by omega
    clear hlive G
    go_enter Tryz.func3, Tryz.ntmps3
    go_wp2_with fail
    refine hl.mono ?_
    rintro e w1 ⟨rfl, hb⟩
    have HB := Lib.hid hb
    clear hl hb
    go_wp2_with fail
    go_ret
    exact ⟨rfl, HB.out⟩
  · have hb1 : ¬ (1500 : Int) < (s.size : Int) := by omega
    obtain ⟨r, hr⟩ := RdS.all s
    have hrd := pRead_any s (by omega) r hr w G
    have HLV := Lib.hid hlive
    have HG := Lib.hid G
    have HR := Lib.hid hr
    clear hlive G hr
    go_enter Tryz.func3, Tryz.ntmps3
    go_wp2_with fail
    refine hrd.mono ?_
    rintro e w1 ⟨hb1', hpost⟩
    match r, hpost with
    | .error (c, p), ⟨hc, he⟩ =>
      subst he
      have hc0 : (c != 0) = true := by simp [hc]
      obtain ⟨W1, hW1⟩ : ∃ W1, W1 = w1.alloc (.cells #[.int .i64 c, .int .i64 p] 27) := ⟨_, rfl⟩
      have b1 : Below w1.heap.size w1 W1 := by rw [hW1]; exact (Below.refl _ _).alloc (Nat.le_refl _) _
      have hl := HLV.out W1 (below_next hb1' b1)
      have HB1 : Hid (Below w.heap.size w W1) := below_next hb1' b1
      subst hW1
      clear hrd hb1' b1 hc hpost
      go_wp2_with fail
      refine hl.mono ?_
      rintro e w2 ⟨rfl, hb2⟩
      have HB2 := Lib.hid (below_next HB1.out hb2)
      clear hl hb2
      go_wp2_with fail
      go_ret
      exact ⟨rfl, HB2.out⟩
    | .ok F, ⟨v, he, ho⟩ =>
      cases he
      have HMAY := Lib.hid HR.out.may
      have HGD := Lib.hid HR.out.good
      obtain ⟨fl, hfl⟩ : ∃ fl, fl = F.flat 0 := ⟨_, rfl⟩
      have hfs : fl.length ≤ 5000 := by rw [hfl, Fo.flat_len]; exact HGD.out.2.1
      obtain ⟨va, vc, rfl, -⟩ := ho.form
      rw [← hfl] at ho HMAY ⊢
      obtain ⟨n, hn⟩ : ∃ n, n = fl.length := ⟨_, rfl⟩
      rw [← hn] at ho ⊢
      have HFL := Lib.hid hfl
      have HFS := Lib.hid hfs
      obtain ⟨t, ht⟩ : ∃ t : ByteArray, t = (⟨#[40]⟩ ++ s) ++ ⟨#[10, 41]⟩ := ⟨_, rfl⟩
      have htl : t.data.toList = 40 :: (s.data.toList ++ [10, 41]) := by rw [ht]; exact concat3 s
      have hts : t.size ≤ 100000 := by
        have h1 := size_toList t; have h2 := size_toList s
        rw [htl] at h1; simp at h1; omega
      obtain ⟨W1, hW1⟩ : ∃ W1, W1 = w1.alloc (.cells #[.int .i64 0, .int .i64 0] 27) := ⟨_, rfl⟩
      have b1 : Below w1.heap.size w1 W1 := by rw [hW1]; exact (Below.refl _ _).alloc (Nat.le_refl _) _
      have B1 := below_next hb1' b1
      have HO1 : Hid (IsE W1 (.slice va n vc) fl) := Sl.below ho.isE b1
      have HB1 := Lib.hid B1
      have hcase := round_S HR.out htl
      have hread : ∀ r', RdS t r' → Calls Tryz.prog 12 #[.string t] W1 (RdPost W1 r') := fun r' hr' => pRead_any t hts r' hr' W1 (HG.out.below B1)
      have HRD := Lib.hid hread
      have HW1 := Lib.hid hW1
      have HT := Lib.hid ht
      clear hrd hb1' b1 B1 hpost ho hread hW1 ht htl hts hfl hfs hn
      rcases hcase with h2 | ⟨a, h2⟩
      · have hcall := HRD.out _ h2
        clear h2
        go_wp2_with fail
        rw [← HW1.out, ← HT.out]
        refine hcall.mono ?_
        rintro e w2 ⟨hb2, v2, rfl, ho2⟩
        obtain ⟨va2, vc2, rfl, -⟩ := ho2.form
        rw [← HFL.out] at ho2 ⊢
        obtain ⟨n2, hn2⟩ : ∃ n2, n2 = fl.length := ⟨_, rfl⟩
        rw [← hn2] at ho2 ⊢
        obtain ⟨W2, hW2⟩ : ∃ W2, W2 = w2.alloc (.cells #[.int .i64 0, .int .i64 0] 27) := ⟨_, rfl⟩
        have b2 : Below w2.heap.size w2 W2 := by rw [hW2]; exact (Below.refl _ _).alloc (Nat.le_refl _) _
        have hO2 : IsE W2 (.slice va2 n2 vc2) fl := Sl.below ho2.isE b2
        have hO1 : IsE W2 (.slice va n vc) fl := Sl.below (Sl.below HO1.out hb2) b2
        have hsame := Same_any fl fl _ _ W2 (by have := HFS.out; omega) (by have := HFS.out; omega) hO1 hO2
        rw [decide_eq_true rfl] at hsame
        have hmay := fun q => rMay_any fl _ (W2.drewN q) (by have := HFS.out; omega) (Sl.below hO1 (below_drawn (Below.refl W2.heap.size W2) q))
        rw [HMAY.out] at hmay
        have HB2 : Hid (Below w.heap.size w W2) := below_next HB1.out (below_next hb2 b2)
        have F2 := two_cells (show W2.heap[w2.heap.size]? = _ by rw [hW2]; exact Blk.new w2 _ _)
        obtain ⟨u0, u1, -, -⟩ := F2
        have HLV2 : Hid (∀ q, (W2.drewN q).cell? ⟨w2.heap.size, 0, none⟩ = some (.int .i64 0)) := fun q => u0
        subst hW2
        clear hcall ho2 hn2 b2 hO1 hO2 hb2
        go_wp2_with fail
        refine hsame.mono ?_
        rintro e w3 ⟨rfl, q, hq⟩
        have u2 : w3.cell? ⟨w2.heap.size, 0, none⟩ = some (.int .i64 0) := by rw [hq]; exact HLV2.out q
        have hm := hmay q
        rw [← hq] at hm
        have hB3 : Below w.heap.size w w3 := by rw [hq]; exact below_drawn HB2.out q
        have HB3 := Lib.hid hB3
        clear hsame hmay hq hB3 u0 u1
        go_wp2_with fail
        refine hm.mono ?_
        rintro e w4 ⟨rfl, hb4⟩
        have B4 := below_next HB3.out hb4
        have hl := HLV.out w4 B4
        have HB4 := Lib.hid B4
        clear hm hb4 B4 u2
        go_wp2_with fail
        refine hl.mono ?_
        rintro e w5 ⟨rfl, hb5⟩
        have HB5 := Lib.hid (below_next HB4.out hb5)
        clear hl hb5
        go_wp2_with fail
        go_ret
        exact ⟨rfl, HB5.out⟩
      · have hcall := HRD.out _ h2
        clear h2
        go_wp2_with fail
        rw [← HW1.out, ← HT.out]
        refine hcall.mono ?_
        rintro e w2 ⟨hb2, -, rfl⟩
        obtain ⟨W2, hW2⟩ : ∃ W2, W2 = w2.alloc (.cells #[.int .i64 6, .int .i64 a] 27) := ⟨_, rfl⟩
        have b2 : Below w2.heap.size w2 W2 := by rw [hW2]; exact (Below.refl _ _).alloc (Nat.le_refl _) _
        have hO1 : IsE W2 (.slice va n vc) fl := Sl.below (Sl.below HO1.out hb2) b2
        have hm := rMay_any fl _ W2 (by have := HFS.out; omega) hO1
        rw [HMAY.out] at hm
        have HB2 : Hid (Below w.heap.size w W2) := below_next HB1.out (below_next hb2 b2)
        subst hW2
        clear hcall b2 hO1 hb2
        go_wp2_with fail
        refine hm.mono ?_
        rintro e w4 ⟨rfl, hb4⟩
        have B4 := below_next HB2.out hb4
        have hl := HLV.out w4 B4
        have HB4 := Lib.hid B4
        clear hm hb4 B4
        go_wp2_with fail
        refine hl.mono ?_
        rintro e w5 ⟨rfl, hb5⟩
        have HB5 := Lib.hid (below_next HB4.out hb5)
        clear hl hb5
        go_wp2_with fail
        go_ret
        exact ⟨rfl, HB5.out⟩
end Go.Proofs.YtmklieoikbgmpaaGreatDoor
namespace Go.Proofs.YtmklieoikbgmpaaGreatDoor
open Go.RowKit Go.Shelf Tx Px
theorem sl_take {α : Type} {enc : α → List Value} {k : Nat} {w : World} {a : Option Addr} {n c m : Nat} {l : List α} (h : Sl enc k w (.slice a n c) l) (hn : n = l.length) (hm : m ≤ n) : Sl enc k w (.slice a m c) (l.take m) := by
  rcases h with ⟨rfl, a', c', e⟩ | ⟨b, o, c', e, h1, h2, h3⟩
  · cases e
    have : m = 0 := by simpa using hm
    subst this; exact Or.inl ⟨rfl, _, _, rfl⟩
  · cases e
    refine Or.inr ⟨b, o, c, by rw [List.length_take, Nat.min_eq_left (by omega)], by rw [List.length_take]; omega, h2, fun i x hx j u hu => h3 i x ?_ j u hu⟩
    rw [List.getElem?_take] at hx
    split at hx
    · exact hx
    · cases hx
def FoundAt (L : List Tok) (p : Int) (i : Nat) (b : Bool) : Prop := b = true ↔ (p = -1 ∨ ∃ j t, j < i ∧ L[j]? = some t ∧ (t.p : Int) = p)
theorem FoundAt.next {L : List Tok} {p : Int} {i : Nat} {b : Bool} {t : Tok} (h : FoundAt L p i b) (ht : L[i]? = some t) : FoundAt L p (i + 1) (b || ((t.p : Int) == p)) := by
  unfold FoundAt at h ⊢
  rw [Bool.or_eq_true, h, beq_iff_eq]
  constructor
  · rintro ((h1 | ⟨j, u, h1, h2, h3⟩) | h1)
    · exact Or.inl h1
    · exact Or.inr ⟨j, u, by omega, h2, h3⟩
    · exact Or.inr ⟨i, t, by omega, ht, h1⟩
  · rintro (h1 | ⟨j, u, h1, h2, h3⟩)
    · exact Or.inl (Or.inl h1)
    · by_cases e : j = i
      · subst e; rw [ht] at h2; cases h2; exact Or.inr h3
      · exact Or.inl (Or.inr ⟨j, u, by omega, h2, h3⟩)
theorem FoundAt.all {L : List Tok} {p : Int} {b : Bool} (h : FoundAt L p L.length b) (hp : p = -1 ∨ ∃ t ∈ L, p = (t.p : Int)) : b = true := by
  unfold FoundAt at h
  rw [h]
  rcases hp with hp | ⟨t, ht, hp⟩
  · exact Or.inl hp
  · obtain ⟨j, hj⟩ := List.mem_iff_getElem?.1 ht
    exact Or.inr ⟨j, t, (List.getElem?_eq_some_iff.1 hj).1, hj, hp.symm⟩
set_option maxRecDepth 100000 in
set_option maxHeartbeats 4000000 in
theorem exprFault_any (s : ByteArray) (hs : s.size ≤ maxLen) (w : World) (G : Gl w) :
    Calls Tryz.prog 5 #[.string s] w fun e w' => e = .returned (.bool true) ∧ Below w.heap.size w w' := by
  have hlive := fun W (hW : Below w.heap.size w W) => live04_any W (G.below hW)
  unfold maxLen at hs
  by_cases hbig : 1000 < s.size
  · have hl := hlive w (Below.refl _ _)
    have hb1 : (1000 : Int) < (s.size : Int) := by omega
    clear hlive G
    go_enter Tryz.func5, Tryz.ntmps5
    go_wp2_with fail
    refine hl.mono ?_
    rintro e w1 ⟨rfl, hb⟩
    have HB := Lib.hid hb
    clear hl hb
    go_wp2_with fail
    go_ret
    exact ⟨rfl, HB.out⟩
  · have hb1 : ¬ (1000 : Int) < (s.size : Int) := by omega
    obtain ⟨r, hr⟩ := RdS.all s
    have hrd := pRead_any s (by omega) r hr w G
    have hlex := fun W => rLex_any s (by omega) W
    have HLV := Lib.hid hlive
    have HR := Lib.hid hr
    have HLX := Lib.hid hlex
    have HSZ : Hid (s.size ≤ 1000) := by show _ ≤ _; omega
    clear hlive G hr hlex
    go_enter Tryz.func5, Tryz.ntmps5
    go_wp2_with fail
    refine hrd.mono ?_
    rintro e w1 ⟨hb1', hpost⟩
    match r, hpost with
    | .error (c, p), ⟨hc, he⟩ =>
      subst he
      have hc0 : (c == 0) = false := by simp [hc]
      obtain ⟨W1, hW1⟩ : ∃ W1, W1 = w1.alloc (.cells #[.int .i64 c, .int .i64 p] 27) := ⟨_, rfl⟩
      have b1 : Below w1.heap.size w1 W1 := by rw [hW1]; exact (Below.refl _ _).alloc (Nat.le_refl _) _
      have F1 : Hid (Blk W1 w1.heap.size #[.int .i64 c, .int .i64 p] 27) := by show Blk _ _ _ _; rw [hW1]; exact Blk.new w1 _ _
      have B1 : Hid (Below w.heap.size w W1) := below_next hb1' b1
      have HW1 := Lib.hid hW1
      clear hrd hb1' b1 hc hpost hW1
      go_wp2_with fail
      rw [← HW1.out]
      refine (HLX.out W1).mono ?_
      rintro e w2 ⟨v, er, at_, rfl, hb2, hcase⟩
      have F2 := Lib.hid (F1.out.below hb2)
      have B2 : Hid (Below w.heap.size w w2) := below_next B1.out hb2
      rcases hcase with ⟨rfl, rfl, hl, hown⟩ | ⟨k, m, hk, rfl, rfl, hl, rfl⟩
      · obtain ⟨L, hL⟩ : ∃ L, L = toks s.size (Lx.lexS s.data.toList).1 := ⟨_, rfl⟩
        have hfp := fault_S HR.out hl
        have hLl := toks_len s
        rw [← hL] at hown hfp hLl
        have hLlen : (Lx.lexS s.data.toList).1.length = L.length := by rw [hL]; simp [toks]
        rw [hLlen] at hown
        have hsl : Sl tokC 3 w2 v L := Sl.own tokC_len hown rfl
        obtain ⟨ta, tc, rfl, htc, hcell⟩ := hsl.form
        obtain ⟨n, hn⟩ : ∃ n, n = L.length := ⟨_, rfl⟩
        rw [← hn] at hsl htc hLl ⊢
        have HN := Lib.hid hn
        have HCELL := Lib.hid hcell
        have HFP := Lib.hid hfp
        have hn1 : n ≤ 100000 := by have := HSZ.out; omega
        obtain ⟨W2, hW2⟩ : ∃ W2, W2 = w2.alloc (.cells #[.int .i64 0, .int .i64 0] 27) := ⟨_, rfl⟩
        have b2 : Below w2.heap.size w2 W2 := by rw [hW2]; exact (Below.refl _ _).alloc (Nat.le_refl _) _
        have F22 := Lib.hid (F2.out.below b2)
        have G2 : Hid (Blk W2 w2.heap.size #[.int .i64 0, .int .i64 0] 27) := by show Blk _ _ _ _; rw [hW2]; exact Blk.new w2 _ _
        have B22 : Hid (Below w.heap.size w W2) := below_next B2.out b2
        have HBB := Lib.hid b2
        obtain ⟨u0, u1, -, -⟩ := two_cells F22.out
        obtain ⟨v0, v1, -, -⟩ := two_cells G2.out
        have HW2 := Lib.hid hW2
        have hw2 := hW2
        clear hL hLlen hown hsl hcell hfp hn hW2 b2 hb2 hl HW1
        subst hw2
        go_wp2_with fail
        obtain ⟨W2, hW2⟩ : ∃ W2, W2 = w2.alloc (.cells #[.int .i64 0, .int .i64 0] 27) := ⟨_, rfl⟩
        rw [← hW2]
        rw [← hW2] at F22 G2 B22 HBB u0 u1 v0 v1
        clear hW2 HW2
        go_loopw [10, 11] (fun fd iv wr => ∃ (i : Nat) (b : Bool), fd = .bool b ∧ iv = .int .i64 i ∧ i ≤ n ∧ FoundAt L p i b ∧ Below W2.heap.size W2 wr) (fun _ iv _ => n - (intOf iv).toNat)
        case atStart => exact ⟨0, _, rfl, rfl, Nat.zero_le _, by unfold FoundAt; simp, Below.refl _ _⟩
        case round =>
          obtain ⟨i, b, rfl, rfl, hi, hF, hB⟩ := hrel
          have HF := Lib.hid hF
          have HBI := Lib.hid hB
          obtain ⟨x0, x1, -, -⟩ := two_cells (F22.out.below hB)
          clear hF hB u0 u1 v0 v1
          by_cases hlt : i < n
          · obtain ⟨t, ht⟩ : ∃ t, L[i]? = some t := ⟨_, List.getElem?_eq_getElem (by rw [← HN.out]; exact hlt)⟩
            obtain ⟨tb, q, rfl, hj⟩ := HCELL.out wr (below_next HBB.out HBI.out) i t ht
            have d2 := hj 2 _ rfl
            have hi0 : (0 : Int) ≤ (i : Int) := by omega
            have hi1 : (i : Int) < (n : Int) := by omega
            have HFN := Lib.hid (HF.out.next ht)
            obtain ⟨z, hz⟩ : ∃ z, z = ((t.p : Int) == p) := ⟨_, rfl⟩
            have hz2 : ((t.p : Int) == p) = z := hz.symm
            rw [← hz] at HFN
            clear hz hj ht
            cases b
            · go_wp2_with fail
              go_quiet (fail)
              have HB3 := Lib.hid (below_drawn HBI.out nq)
              generalize wr.drewN nq = V at *
              clear x0 x1 d2
              go_wp2_with fail
              go_roundw
              case rel => exact ⟨i + 1, _, rfl, by go_num, by omega, by simpa using HFN.out, HB3.out⟩
              case measure => simp [intOf]; omega
            · go_wp2_with fail
              go_quiet (fail)
              have HB3 := Lib.hid (below_drawn HBI.out nq)
              generalize wr.drewN nq = V at *
              clear x0 x1 d2
              go_wp2_with fail
              go_roundw
              case rel => exact ⟨i + 1, true, rfl, by go_num, by omega, by simpa using HFN.out, HB3.out⟩
              case measure => simp [intOf]; omega
          · obtain rfl : i = n := by omega
            have hb : b = true := (show FoundAt L p L.length b by rw [← HN.out]; exact HF.out).all HFP.out
            subst hb
            have hl := HLV.out wr (below_next B22.out HBI.out)
            clear x0 x1
            go_wp2_with fail
            refine hl.mono ?_
            rintro e w5 ⟨rfl, hb5⟩
            have HB5 := Lib.hid (below_next (below_next B22.out HBI.out) hb5)
            clear hl hb5
            go_wp2_with fail
            go_ret
            exact ⟨rfl, HB5.out⟩
      · have hcp := fault_L HR.out hl
        obtain ⟨pm, hpm⟩ : ∃ pm, pm = s.size - m := ⟨_, rfl⟩
        rw [← hpm] at hcp ⊢
        obtain ⟨rfl, rfl⟩ := hcp
        have hk0 : ((k : Int) != 0) = true := by simp [hk]
        obtain ⟨W2, hW2⟩ : ∃ W2, W2 = w2.alloc (.cells #[.int .i64 k, .int .i64 pm] 27) := ⟨_, rfl⟩
        have b2 : Below w2.heap.size w2 W2 := by rw [hW2]; exact (Below.refl _ _).alloc (Nat.le_refl _) _
        have F22 := two_cells (F2.out.below b2)
        have G2 : Blk W2 w2.heap.size #[.int .i64 k, .int .i64 pm] 27 := by rw [hW2]; exact Blk.new w2 _ _
        have B22 : Hid (Below w.heap.size w W2) := below_next B2.out b2
        obtain ⟨u0, u1, -, -⟩ := F22
        obtain ⟨v0, v1, -, -⟩ := two_cells G2
        have hq : ∀ W, (Op.equalIn 10000 27 (.agg #[.int .i64 k, .int .i64 pm]) (.agg #[.int .i64 k, .int .i64 pm])).run Tryz.prog W = .ok true W := fun W => by rw [eqFlt]; simp
        have hl2 := HLV.out W2 B22.out
        clear hpm hl G2 b2 hb2 HW1
        subst hW2
        go_wp2_with fail
        refine hl2.mono ?_
        rintro e w5 ⟨rfl, hb5⟩
        have HB5 := Lib.hid (below_next B22.out hb5)
        clear hl2 hb5
        go_wp2_with fail
        go_ret
        exact ⟨rfl, HB5.out⟩
    | .ok F, ⟨v, he, ho⟩ =>
      cases he
      have HGD := Lib.hid HR.out.good
      have HSH := Lib.hid (short_S HR.out)
      obtain ⟨va, vc, rfl, -⟩ := ho.form
      obtain ⟨n, hn⟩ : ∃ n, n = (F.flat 0).length := ⟨_, rfl⟩
      have HNF : Hid (n = F.size) := by show _ = _; rw [hn, Fo.flat_len]
      rw [← hn]
      have hnn : n ≤ 5000 := by rw [HNF.out]; exact HGD.out.2.1
      obtain ⟨W1, hW1⟩ : ∃ W1, W1 = w1.alloc (.cells #[.int .i64 0, .int .i64 0] 27) := ⟨_, rfl⟩
      have b1 : Below w1.heap.size w1 W1 := by rw [hW1]; exact (Below.refl _ _).alloc (Nat.le_refl _) _
      have F1 : Hid (Blk W1 w1.heap.size #[.int .i64 0, .int .i64 0] 27) := by show Blk _ _ _ _; rw [hW1]; exact Blk.new w1 _ _
      have B1 : Hid (Below w.heap.size w W1) := below_next hb1' b1
      have HW1 := Lib.hid hW1
      clear hrd hb1' b1 hpost hW1 ho hn
      go_wp2_with fail
      rw [← HW1.out]
      refine (HLX.out W1).mono ?_
      rintro e w2 ⟨v, er, at_, rfl, hb2, hcase⟩
      have F2 := Lib.hid (F1.out.below hb2)
      have B2 : Hid (Below w.heap.size w w2) := below_next B1.out hb2
      have hln := HR.out.okE.1
      rcases hcase with ⟨rfl, rfl, hl, hown⟩ | ⟨k, m, hk, rfl, rfl, hl, rfl⟩
      · obtain ⟨L, hL⟩ : ∃ L, L = toks s.size (Lx.lexS s.data.toList).1 := ⟨_, rfl⟩
        have hsh := HSH.out
        have hLk := toks_is s
        have hLl := toks_len s
        rw [← hL] at hown hsh hLk hLl
        have hLlen : (Lx.lexS s.data.toList).1.length = L.length := by rw [hL]; simp [toks]
        rw [hLlen] at hown
        have hsl : Sl tokC 3 w2 v L := Sl.own tokC_len hown rfl
        obtain ⟨ta, tc, rfl, htc, -⟩ := hsl.form
        obtain ⟨k, hk⟩ : ∃ k, k = L.length := ⟨_, rfl⟩
        rw [← hk] at hsl htc hLl ⊢
        obtain ⟨hk1, hsh⟩ := hsh
        rw [← hk] at hk1 hsh
        have HSH2 := Lib.hid hsh
        obtain ⟨k', rfl⟩ : ∃ k', k = k' + 1 := ⟨k - 1, by omega⟩
        simp only [Nat.add_sub_cancel] at HSH2
        obtain ⟨W2, hW2⟩ : ∃ W2, W2 = w2.alloc (.cells #[.int .i64 0, .int .i64 0] 27) := ⟨_, rfl⟩
        have b2 : Below w2.heap.size w2 W2 := by rw [hW2]; exact (Below.refl _ _).alloc (Nat.le_refl _) _
        have hsl2 := sl_take (Sl.below hsl b2) hk (m := k') (by omega)
        have hLk2 : ∀ t ∈ L.take k', TokOk t := fun t ht => hLk t (List.mem_of_mem_take ht)
        obtain ⟨x, hx⟩ := ParR.all hLk2 (i := 0) (Nat.zero_le _)
        have hlt : (L.take k').length = k' := by rw [List.length_take]; omega
        have hpar := pParse_any (L.take k') (by rw [hlt]; have := HSZ.out; omega) hLk2 (.slice ta k' tc) 0 (Nat.zero_le _) x W2 hsl2 hx
        have HX := Lib.hid hx
        have HXC := Lib.hid (codeOk_of hx)
        have F22 := Lib.hid (F2.out.below b2)
        have B22 : Hid (Below w.heap.size w W2) := below_next B2.out b2
        obtain ⟨u0, u1, -, -⟩ := two_cells F22.out
        have hkk : k' + 1 ≤ 1000 := by have := HSZ.out; omega
        have hkc : (k' : Int) ≤ (tc : Int) := by omega
        have hk0 : (0 : Int) ≤ (k' : Int) := by omega
        have hk2 : (k' : Int) ≤ (k' : Int) + 1 := by omega
        have hw2 := hW2
        clear hL hLlen hown hsl hk hLk hLk2 hsh hk1 b2 hsl2 hx hlt hW2 hb2 hl hln HW1 hLl
        subst hw2
        go_wp2_with fail
        refine hpar.mono ?_
        rintro e w3 ⟨hb3, hpost⟩
        have B3 : Hid (Below w.heap.size w w3) := below_next B22.out hb3
        clear hpar u0 u1
        match x, hpost with
        | .error (c, p), he =>
          subst he
          have hc : c ≠ 0 := HXC.out
          have hc0 : (c != 0) = true := by simp [hc]
          obtain ⟨W3, hW3⟩ : ∃ W3, W3 = w3.alloc (.cells #[.int .i64 c, .int .i64 p] 27) := ⟨_, rfl⟩
          have b3 : Below w3.heap.size w3 W3 := by rw [hW3]; exact (Below.refl _ _).alloc (Nat.le_refl _) _
          have B4 : Hid (Below w.heap.size w W3) := below_next B3.out b3
          have hl2 := HLV.out W3 B4.out
          clear hpost hb3 b3 hc
          subst hW3
          go_wp2_with fail
          refine hl2.mono ?_
          rintro e w5 ⟨rfl, hb5⟩
          have HB5 := Lib.hid (below_next B4.out hb5)
          clear hl2 hb5
          go_wp2_with fail
          go_ret
          exact ⟨rfl, HB5.out⟩
        | .ok (H, i), ⟨v4, he, hO⟩ =>
          subst he
          obtain ⟨hik, hHF⟩ := HSH2.out H i HX.out
          obtain ⟨ya, yc, rfl, -⟩ := hO.form
          obtain ⟨z, hz⟩ : ∃ z, z = (H.flat 0).length := ⟨_, rfl⟩
          have hzn : z ≤ n := by rw [hz, Fo.flat_len, HNF.out]; exact hHF
          rw [← hz]
          have hik2 : (i : Int) < (k' : Int) + 1 := by omega
          have hzn2 : (z : Int) < (n : Int) + 1 := by omega
          obtain ⟨W3, hW3⟩ : ∃ W3, W3 = w3.alloc (.cells #[.int .i64 0, .int .i64 0] 27) := ⟨_, rfl⟩
          have b3 : Below w3.heap.size w3 W3 := by rw [hW3]; exact (Below.refl _ _).alloc (Nat.le_refl _) _
          have B4 : Hid (Below w.heap.size w W3) := below_next B3.out b3
          have hl2 := HLV.out W3 B4.out
          clear hpost hb3 b3 hz hO hHF
          subst hW3
          go_wp2_with fail
          refine hl2.mono ?_
          rintro e w5 ⟨rfl, hb5⟩
          have HB5 := Lib.hid (below_next B4.out hb5)
          clear hl2 hb5
          go_wp2_with fail
          go_ret
          exact ⟨rfl, HB5.out⟩
      · rw [hl] at hln; cases hln
end Go.Proofs.YtmklieoikbgmpaaGreatDoor
