/- live of the laws of programs: the walk. Expressions out of texts: the laws, plainly. The law ExprFault, whatever its argument: the walk. The law ProgFault, whatever its argument: the walk. (Printed by gen/proglaws.py.) -/
import Derived.Deep.QuietTactic
import Derived.BigQuiet
import Derived.Lib.Hide
import Derived.Test.YtahalimekacliaaGreatDoorJ1
import Derived.Test.YtahalimekacliaaGreatDoorJ12
import Derived.Test.YtahalimekacliaaGreatDoorJ42
import Derived.Test.YtahalimekacliaaGreatDoorJ43
set_option linter.unusedVariables false
set_option linter.unusedSimpArgs false
namespace Go.Proofs.YtahalimekacliaaGreatDoor
open Go.RowKit Go.Shelf Tx Px Gx
def xf (L : List Tok) : XO := fun i => if i < L.length then (parse L 60 i).getD (.error (5, -1)) else .error (5, -1)
theorem xf_all {L : List Tok} (h : ((List.range L.length).all fun i => (parse L 60 i).isSome) = true) : XAll L (xf L) := fun i => by
  unfold xf
  by_cases hi : i < L.length
  · rw [if_pos hi]
    have h1 := List.all_eq_true.1 h i (by simpa using hi)
    cases h2 : parse L 60 i with
    | none => rw [h2] at h1; cases h1
    | some r => exact ⟨60, h2⟩
  · rw [if_neg hi]; exact ParR_out (by omega)
theorem pg_of {s : ByteArray} {r : Except (Int × Int) Pg} (h1 : (Lx.lexS s.data.toList).2 = none) (h2 : ((List.range (toks s.size (Lx.lexS s.data.toList).1).length).all fun i => (parse (toks s.size (Lx.lexS s.data.toList).1) 60 i).isSome) = true)
    (h3 : progS (toks s.size (Lx.lexS s.data.toList).1) (xf (toks s.size (Lx.lexS s.data.toList).1)) = r) : PgS s r := by
  unfold PgS
  rw [h1]
  exact ⟨_, xf_all h2, h3.symm⟩
def e6A : ByteArray := ⟨#[110, 111, 100, 101, 32, 102, 40, 97, 58, 32, 105, 110, 116, 59, 32, 98, 58, 32, 98, 111, 111, 108, 41, 32, 114, 101, 116, 117, 114, 110, 115, 32, 40, 99, 58, 32, 105, 110, 116, 41, 32, 99, 111, 110, 116, 114, 97, 99, 116, 32, 97, 115, 115, 117, 109, 101, 32, 98, 59, 32, 103, 104, 111, 115, 116, 32, 103, 58, 32, 105, 110, 116, 32, 61, 32, 97, 59, 32, 101, 110, 100, 32, 118, 97, 114, 32, 120, 58, 32, 105, 110, 116, 59, 32, 108, 101, 116, 32, 120, 32, 61, 32, 97, 59, 32, 99, 32, 61, 32, 120, 59, 32, 116, 101, 108, 32, 99, 111, 110, 116, 114, 97, 99, 116, 32, 107, 40, 41, 32, 101, 110, 100, 32, 109, 97, 105, 110, 32, 102, 59, 32, 102, 97, 108, 108, 98, 97, 99, 107, 32, 102, 59]⟩
def e6B : ByteArray := ⟨#[110, 111, 100, 101, 32, 102, 40, 41, 32, 114, 101, 116, 117, 114, 110, 115, 32, 40, 99, 58, 32, 105, 110, 116, 41, 32, 108, 101, 116, 32, 99, 32, 61, 32, 49, 32, 116, 101, 108, 32, 109, 97, 105, 110, 32, 102, 59]⟩
def e6C : ByteArray := ⟨#[109, 97, 105, 110, 32, 102]⟩
def u6A : Un := ⟨false, ⟨#[102]⟩, [⟨⟨#[97]⟩, 2⟩, ⟨⟨#[98]⟩, 1⟩], ⟨⟨#[99]⟩, 2⟩, [⟨⟨#[120]⟩, 2⟩], [⟨⟨#[120]⟩, [⟨3, -1, -1, -1, 0, ⟨#[97]⟩⟩]⟩, ⟨⟨#[99]⟩, [⟨3, -1, -1, -1, 0, ⟨#[120]⟩⟩]⟩], [⟨1, ⟨#[]⟩, 0, [⟨3, -1, -1, -1, 0, ⟨#[98]⟩⟩], [], []⟩, ⟨3, ⟨#[103]⟩, 2, [⟨3, -1, -1, -1, 0, ⟨#[97]⟩⟩], [], []⟩]⟩
def u6B : Un := ⟨true, ⟨#[107]⟩, [], ⟨⟨#[]⟩, 0⟩, [], [], []⟩
theorem e6A_lex : (Lx.lexS e6A.data.toList).2 = none := by kernel_rfl
theorem e6A_all : ((List.range (toks e6A.size (Lx.lexS e6A.data.toList).1).length).all fun i => (parse (toks e6A.size (Lx.lexS e6A.data.toList).1) 60 i).isSome) = true := by kernel_rfl
set_option maxRecDepth 100000 in
theorem e6A_prog : progS (toks e6A.size (Lx.lexS e6A.data.toList).1) (xf (toks e6A.size (Lx.lexS e6A.data.toList).1)) = .ok ⟨[u6A, u6B], ⟨#[102]⟩, ⟨#[102]⟩⟩ := by kernel_rfl
set_option maxRecDepth 100000 in
theorem e6A_read : PgS e6A (.ok ⟨[u6A, u6B], ⟨#[102]⟩, ⟨#[102]⟩⟩) := @pg_of e6A (.ok ⟨[u6A, u6B], ⟨#[102]⟩, ⟨#[102]⟩⟩) e6A_lex e6A_all e6A_prog
theorem e6B_lex : (Lx.lexS e6B.data.toList).2 = none := by kernel_rfl
theorem e6B_all : ((List.range (toks e6B.size (Lx.lexS e6B.data.toList).1).length).all fun i => (parse (toks e6B.size (Lx.lexS e6B.data.toList).1) 60 i).isSome) = true := by kernel_rfl
theorem e6B_prog : progS (toks e6B.size (Lx.lexS e6B.data.toList).1) (xf (toks e6B.size (Lx.lexS e6B.data.toList).1)) = .error (5, 36) := by kernel_rfl
set_option maxRecDepth 100000 in
theorem e6B_read : PgS e6B (.error (5, 36)) := @pg_of e6B (.error (5, 36)) e6B_lex e6B_all e6B_prog
set_option maxRecDepth 100000 in
theorem e6C_read : PgS e6C (.error (5, -1)) := @pg_of e6C (.error (5, -1)) (by kernel_rfl) (by kernel_rfl) (by kernel_rfl)
theorem slice_len {a a' : Option Addr} {n n' c c' : Nat} (h : Value.slice a n c = .slice a' n' c') : a = a' ∧ n = n' ∧ c = c' := by cases h; exact ⟨rfl, rfl, rfl⟩
set_option maxRecDepth 100000 in
set_option maxHeartbeats 8000000 in
theorem live06_any (w : World) (G : Gl w) : Calls Tryz.prog 9 #[] w fun e w' => e = .returned (.bool true) ∧ Below w.heap.size w w' := by
  have rdA := pProg_any e6A (by decide) _ e6A_read w G
  have HB := Lib.hid (fun W (hW : Below w.heap.size w W) => pProg_any e6B (by decide) _ e6B_read W (G.below hW))
  have HC := Lib.hid (fun W (hW : Below w.heap.size w W) => pProg_any e6C (by decide) _ e6C_read W (G.below hW))
  clear G
  unfold e6A at rdA
  go_enter Tryz.func9, Tryz.ntmps9
  go_wp2_with fail
  refine rdA.mono ?_
  rintro e w1 ⟨hb1, va0, n0, uc, rfl, hU⟩
  obtain ⟨a_, c_, e_, -, hun⟩ := hU.sg.form (keepsUn _)
  obtain ⟨rfl, rfl, rfl⟩ := slice_len e_
  obtain ⟨ub, uo, cs0, rfl, -, -⟩ := hun w1 (Below.refl _ _) 0 u6A rfl
  have HUN := Lib.hid hun
  have HB1 := Lib.hid hb1
  clear rdA hU e_ hun hb1
  go_upto_region 2 with fail
  refine wp_letW ?_
  intro W1 hW1
  have b1 : Below w1.heap.size w1 W1 := by rw [hW1]; exact ((Below.refl _ _).alloc (Nat.le_refl _) _).alloc (by simp) _
  have K1 : Hid (Blk W1 w1.heap.size #[.slice (some ⟨ub, uo, none⟩) 2 uc, .string ⟨#[102]⟩, .string ⟨#[102]⟩] 31) := by show Blk _ _ _ _; rw [hW1]; exact (Blk.new w1 _ _).below ((Below.refl _ _).alloc (Nat.le_refl _) _)
  have F1 : Hid (Blk W1 (w1.heap.size + 1) #[.int .i64 0, .int .i64 0] 25) := by show Blk _ _ _ _; rw [hW1]; have h := Blk.new (w1.alloc (.cells #[.slice (some ⟨ub, uo, none⟩) 2 uc, .string ⟨#[102]⟩, .string ⟨#[102]⟩] 31)) #[.int .i64 0, .int .i64 0] 25; simpa using h
  have B1 : Hid (Below w.heap.size w W1) := below_next HB1.out b1
  have b01 := Lib.hid b1
  have hB := HB.out W1 B1.out
  unfold e6B at hB
  obtain ⟨x1, hx1⟩ : ∃ b, b = w1.heap.size := ⟨_, rfl⟩
  rw [← hx1] at K1 F1 ⊢
  clear hW1 b1 hx1
  go_wp2_with fail
  refine hB.mono ?_
  rintro e w2 ⟨hb2, -, rfl⟩
  have HB2 := Lib.hid hb2
  clear hB hb2
  go_upto_region 3 with fail
  refine wp_letW ?_
  intro W2 hW2
  have b2 : Below w2.heap.size w2 W2 := by rw [hW2]; exact ((Below.refl _ _).alloc (Nat.le_refl _) _).alloc (by simp) _
  have F2 : Hid (Blk W2 (w2.heap.size + 1) #[.int .i64 5, .int .i64 36] 25) := by show Blk _ _ _ _; rw [hW2]; have h := Blk.new (w2.alloc (.cells #[.slice none 0 0, .string ⟨#[]⟩, .string ⟨#[]⟩] 31)) #[.int .i64 5, .int .i64 36] 25; simpa using h
  have b12 : Hid (Below W1.heap.size W1 W2) := below_next HB2.out b2
  have B2 : Hid (Below w.heap.size w W2) := below_next B1.out b12.out
  have hC := HC.out W2 B2.out
  unfold e6C at hC
  obtain ⟨x2, hx2⟩ : ∃ b, b = w2.heap.size := ⟨_, rfl⟩
  rw [← hx2] at F2 ⊢
  clear hW2 b2 hx2
  go_wp2_with fail
  refine hC.mono ?_
  rintro e w3 ⟨hb3, -, rfl⟩
  have HB3 := Lib.hid hb3
  clear hC hb3
  go_upto_region 4 with fail
  refine wp_letW ?_
  intro W3 hW3
  have b3 : Below w3.heap.size w3 W3 := by rw [hW3]; exact ((Below.refl _ _).alloc (Nat.le_refl _) _).alloc (by simp) _
  have F3 : Hid (Blk W3 (w3.heap.size + 1) #[.int .i64 5, .int .i64 (-1)] 25) := by show Blk _ _ _ _; rw [hW3]; have h := Blk.new (w3.alloc (.cells #[.slice none 0 0, .string ⟨#[]⟩, .string ⟨#[]⟩] 31)) #[.int .i64 5, .int .i64 (-1)] 25; simpa using h
  have b23 : Below W2.heap.size W2 W3 := below_next HB3.out b3
  have b13 : Below W1.heap.size W1 W3 := below_next b12.out b23
  have b03 : Below w1.heap.size w1 W3 := below_next b01.out b13
  have B3 : Hid (Below w.heap.size w W3) := below_next B2.out b23
  have K13 := Lib.hid (K1.out.below b13)
  have F13 := Lib.hid (F1.out.below b13)
  have F23 := Lib.hid (F2.out.below b23)
  obtain ⟨x3, hx3⟩ : ∃ b, b = w3.heap.size := ⟨_, rfl⟩
  rw [← hx3] at F3 ⊢
  obtain ⟨b_, o_, cs0, e_, ⟨vi, vv, vq, vx, rfl, hi, hv, hq, hx⟩, hc0⟩ := HUN.out W3 b03 0 u6A rfl
  cases e_
  obtain ⟨b_, o_, cs1, e_, ⟨vi', vv', vq', vx', rfl, -, -, -, -⟩, hc1⟩ := HUN.out W3 b03 1 u6B rfl
  cases e_
  have g0 := hc1 0 _ rfl
  obtain ⟨ia, ic, rfl, -, hir⟩ := hi.sg.form (keepsPm _)
  obtain ⟨va, vc, rfl, -⟩ := hv.form
  obtain ⟨qa, qc, rfl, -⟩ := hq.form
  obtain ⟨xa, xc, rfl, -, hxr⟩ := hx.sg.form (keepsIm _)
  have c0 := hc0 0 _ rfl
  have c1 := hc0 1 _ rfl
  have c2 := hc0 2 _ rfl
  have c3 := hc0 3 _ rfl
  have c4 := hc0 4 _ rfl
  have c5 := hc0 5 _ rfl
  have c6 := hc0 6 _ rfl
  have c7 := hc0 7 _ rfl
  change W3.cell? _ = some (.bool false) at c0
  change W3.cell? _ = some (.string ⟨#[102]⟩) at c1
  change W3.cell? _ = some (.slice ia 2 ic) at c2
  change W3.cell? _ = some (.string ⟨#[99]⟩) at c3
  change W3.cell? _ = some (.int .i64 2) at c4
  change W3.cell? _ = some (.slice va 1 vc) at c5
  change W3.cell? _ = some (.slice qa 2 qc) at c6
  change W3.cell? _ = some (.slice xa 2 xc) at c7
  change W3.cell? _ = some (.bool true) at g0
  simp only [Nat.zero_mul, Nat.add_zero, Nat.one_mul] at c0 c1 c2 c3 c4 c5 c6 c7 g0
  obtain ⟨ib, io, ics, rfl, hics, hicell⟩ := hir W3 (Below.refl _ _) 1 ⟨⟨#[98]⟩, 1⟩ rfl
  cases hics
  obtain ⟨xb, xo, xcs, rfl, ⟨ve, vf, vg, rfl, -, -, -⟩, hxcell⟩ := hxr W3 (Below.refl _ _) 1 ⟨3, ⟨#[103]⟩, 2, [⟨3, -1, -1, -1, 0, ⟨#[97]⟩⟩], [], []⟩ rfl
  have i0 := hicell 0 _ rfl
  have i1 := hicell 1 _ rfl
  have y1 := hxcell 1 _ rfl
  simp only [Nat.add_zero, Nat.one_mul] at i0 i1 y1
  obtain ⟨W7, hW7⟩ : ∃ W, W = W3.alloc (.cells #[.bool false, .string ⟨#[102]⟩, .slice (some ⟨ib, io, none⟩) 2 ic, .string ⟨#[99]⟩, .int .i64 2, .slice va 1 vc, .slice qa 2 qc, .slice (some ⟨xb, xo, none⟩) 2 xc] 43) := ⟨_, rfl⟩
  have b37 : Below W3.heap.size W3 W7 := by rw [hW7]; exact (Below.refl _ _).alloc (Nat.le_refl _) _
  have B7 : Hid (Below w.heap.size w W7) := below_next B3.out b37
  have up : ∀ a v, W3.cell? a = some v → W7.cell? a = some v := fun a v h => (b37.cell (World.block_lt_of_cell? W3 _ h)).trans h
  have i0' := up _ _ i0
  have i1' := up _ _ i1
  have y1' := up _ _ y1
  have g0' := up _ _ g0
  have KP7 := K13.out.below b37
  have KF1 := F13.out.below b37
  have KF2 := F23.out.below b37
  have KF3 := F3.out.below b37
  have KP3 := K13.out
  have p0 : W3.cell? ⟨x1, 0, none⟩ = some (.slice (some ⟨ub, uo, none⟩) 2 uc) := by unfold Blk at KP3; simp [World.cell?, KP3]
  have p1 : W3.cell? ⟨x1, 1, none⟩ = some (.string ⟨#[102]⟩) := by unfold Blk at KP3; simp [World.cell?, KP3]
  have p2 : W3.cell? ⟨x1, 2, none⟩ = some (.string ⟨#[102]⟩) := by unfold Blk at KP3; simp [World.cell?, KP3]
  have q0 : W7.cell? ⟨x1, 0, none⟩ = some (.slice (some ⟨ub, uo, none⟩) 2 uc) := by unfold Blk at KP7; simp [World.cell?, KP7]
  have q1 : W7.cell? ⟨x1, 1, none⟩ = some (.string ⟨#[102]⟩) := by unfold Blk at KP7; simp [World.cell?, KP7]
  have q2 : W7.cell? ⟨x1, 2, none⟩ = some (.string ⟨#[102]⟩) := by unfold Blk at KP7; simp [World.cell?, KP7]
  have f10 : W7.cell? ⟨x1 + 1, 0, none⟩ = some (.int .i64 0) := by unfold Blk at KF1; simp [World.cell?, KF1]
  have f11 : W7.cell? ⟨x1 + 1, 1, none⟩ = some (.int .i64 0) := by unfold Blk at KF1; simp [World.cell?, KF1]
  have f20 : W7.cell? ⟨x2 + 1, 0, none⟩ = some (.int .i64 5) := by unfold Blk at KF2; simp [World.cell?, KF2]
  have f21 : W7.cell? ⟨x2 + 1, 1, none⟩ = some (.int .i64 36) := by unfold Blk at KF2; simp [World.cell?, KF2]
  have f30 : W7.cell? ⟨x3 + 1, 0, none⟩ = some (.int .i64 5) := by unfold Blk at KF3; simp [World.cell?, KF3]
  have f31 : W7.cell? ⟨x3 + 1, 1, none⟩ = some (.int .i64 (-1)) := by unfold Blk at KF3; simp [World.cell?, KF3]
  have HEF := fun a b W => eqFlt a b a b W
  have HEP := fun W => eqPm ⟨#[98]⟩ 1 W
  have HEO := fun W => eqPm ⟨#[99]⟩ 2 W
  have HE0 : ∀ a b W, (Op.equalIn 10000 25 (.agg #[.int .i64 a, .int .i64 b]) (.agg #[.int .i64 a, .int .i64 b])).run Tryz.prog W = .ok true W := fun a b W => by rw [eqFlt]; simp
  clear HEF hW3 b3 b23 b13 b03 hx3 hi hv hq hx hc0 hc1 hir hxr hicell hxcell b37 up KP7 KF1 KF2 KF3 KP3
  subst hW7
  go_wp2_with fail
  go_ret
  exact ⟨rfl, B7.out⟩
end Go.Proofs.YtahalimekacliaaGreatDoor
namespace Go.Proofs.YtahalimekacliaaGreatDoor
open Go.RowKit Go.Shelf Tx Px
theorem RdS.okE {s : ByteArray} {F : Fo} (h : RdS s (.ok F)) : (Lx.lexS s.data.toList).2 = none ∧ RdR (toks s.size (Lx.lexS s.data.toList).1) (.ok F) := by
  unfold RdS at h
  split at h
  · cases h
  · rename_i e; exact ⟨e, h⟩
theorem RdS.good {s : ByteArray} {F : Fo} (h : RdS s (.ok F)) : Px.Good F ∧ F.size ≤ 5000 ∧ F.depth ≤ 40 := by
  obtain ⟨f, _, h1, h2, h3⟩ := h.okE.2.ok (toks_is s)
  exact ⟨h3, h1, h2⟩
theorem RdS.may {s : ByteArray} {F : Fo} (h : RdS s (.ok F)) : mayB (F.flat 0) = true := by
  obtain ⟨h1, h2, h3⟩ := h.good
  exact good_may h1 h2 h3
end Go.Proofs.YtahalimekacliaaGreatDoor
namespace Go.Proofs.YtahalimekacliaaGreatDoor
open Go.RowKit Go.Shelf Tx Px
def FoundAt (L : List Tok) (p : Int) (i : Nat) (b : Bool) : Prop := b = true ↔ (p = -1 ∨ ∃ j t, j < i ∧ L[j]? = some t ∧ (t.p : Int) = p)
theorem FoundAt.next {L : List Tok} {p : Int} {i : Nat} {b : Bool} {t : Tok} (h : FoundAt L p i b) (ht : L[i]? = some t) : FoundAt L p (i + 1) (b || ((t.p : Int) == p)) := by
  unfold FoundAt at h ⊢
  rw [Bool.or_eq_true, h, beq_iff_eq]
  constructor
  · rintro ((h1 | ⟨j, u, h1, h2, h3⟩) | h1)
    · exact Or.inl h1
    · exact Or.inr ⟨j, u, by omega, h2, h3⟩
    · exact Or.inr ⟨i, t, by omega, ht, h1⟩
  · rintro (h1 | ⟨j, u, h1, h2, h3⟩)
    · exact Or.inl (Or.inl h1)
    · by_cases e : j = i
      · subst e; rw [ht] at h2; cases h2; exact Or.inr h3
      · exact Or.inl (Or.inr ⟨j, u, by omega, h2, h3⟩)
theorem FoundAt.all {L : List Tok} {p : Int} {b : Bool} (h : FoundAt L p L.length b) (hp : p = -1 ∨ ∃ t ∈ L, p = (t.p : Int)) : b = true := by
  unfold FoundAt at h
  rw [h]
  rcases hp with hp | ⟨t, ht, hp⟩
  · exact Or.inl hp
  · obtain ⟨j, hj⟩ := List.mem_iff_getElem?.1 ht
    exact Or.inr ⟨j, t, (List.getElem?_eq_some_iff.1 hj).1, hj, hp.symm⟩
end Go.Proofs.YtahalimekacliaaGreatDoor
namespace Go.Proofs.YtahalimekacliaaGreatDoor
open Go.RowKit Go.Shelf Tx Px Gx
theorem PgS.lexok {s : ByteArray} {p : Pg} (h : PgS s (.ok p)) : (Lx.lexS s.data.toList).2 = none ∧ ∃ X, XAll (toks s.size (Lx.lexS s.data.toList).1) X ∧ progS (toks s.size (Lx.lexS s.data.toList).1) X = .ok p := by
  unfold PgS at h
  split at h
  · cases h
  · rename_i e
    obtain ⟨X, h1, h2⟩ := h
    exact ⟨e, X, h1, h2.symm⟩
theorem PgS.few {s : ByteArray} {p : Pg} (h : PgS s (.ok p)) : PgFew p := by
  obtain ⟨_, X, h1, h2⟩ := h.lexok
  exact prog_few h1 h2
theorem PgS.fault {s : ByteArray} {c q : Int} (h : PgS s (.error (c, q))) (h1 : (Lx.lexS s.data.toList).2 = none) : q = -1 ∨ ∃ t ∈ toks s.size (Lx.lexS s.data.toList).1, q = (t.p : Int) := by
  unfold PgS at h
  rw [h1] at h
  obtain ⟨X, h2, h3⟩ := h
  exact (prog_fault (toks_is s) h2.ok h3.symm).2
end Go.Proofs.YtahalimekacliaaGreatDoor
