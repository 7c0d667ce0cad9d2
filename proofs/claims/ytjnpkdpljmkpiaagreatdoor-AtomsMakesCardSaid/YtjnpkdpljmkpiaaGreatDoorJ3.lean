/- May a node be: the walk. -/
import Derived.Deep.DeepCutAuto
import Derived.Deep.CutBlock
import Derived.Test.YtjnpkdpljmkpiaaGreatDoorJ2
namespace Go.Proofs.YtjnpkdpljmkpiaaGreatDoor
open Go.RowKit Go.Shelf Tx
theorem Blk.six {W w' : World} {b T : Nat} {c0 c1 c2 c3 c4 c5 : Value} (h : Blk W b #[c0, c1, c2, c3, c4, c5] T) (hb : Below W.heap.size W w') :
    w'.cell? ⟨b, 0, none⟩ = some c0 ∧ w'.cell? ⟨b, 1, none⟩ = some c1 ∧ w'.cell? ⟨b, 2, none⟩ = some c2 ∧ w'.cell? ⟨b, 3, none⟩ = some c3 ∧ w'.cell? ⟨b, 4, none⟩ = some c4 ∧ w'.cell? ⟨b, 5, none⟩ = some c5 := six_cells (h.below hb)
theorem kids_len (x : Nd) : (kids x).length ≤ 3 := by
  unfold kids; repeat' split
  all_goals simp
theorem with_parts (x : Nd) (l : List Int) (h3 : l.length ≤ 3) (v : Value) (w : World) (hv : Sl intC 1 w v l) : Calls Tryz.prog 106 #[ndV x, v] w fun e w' => ∃ (o a b c n : Int) (s : ByteArray), e = .returned (.agg #[.int .i64 o, .int .i64 a, .int .i64 b, .int .i64 c, .int .i64 n, .string s]) ∧ Hid (aim x l = ⟨o, a, b, c, n, s⟩) ∧ Below w.heap.size w w' :=
  (with_any x l h3 v w hv).mono fun _ _ ⟨h1, h2⟩ => ⟨_, _, _, _, _, _, h1, rfl, h2⟩
theorem below_six {W w' : World} {b : Nat} {c0 c1 c2 c3 c4 c5 : Value} (h : Below W.heap.size W w') (hb : W.heap.size ≤ b) : Below W.heap.size W ((((((w'.setCell ⟨b, 0, none⟩ c0).setCell ⟨b, 1, none⟩ c1).setCell ⟨b, 2, none⟩ c2).setCell ⟨b, 3, none⟩ c3).setCell ⟨b, 4, none⟩ c4).setCell ⟨b, 5, none⟩ c5) :=
  (((((h.setCell hb _).setCell hb _).setCell hb _).setCell hb _).setCell hb _).setCell hb _
theorem ndPart0 (u0 u1 u2 u3 u4 u5 : Value) (w : World) : (part 3 #[u0, u1, u2, u3, u4, u5] 0).run Tryz.prog w = .ok u0 w := by kernel_rfl
theorem ndPart1 (u0 u1 u2 u3 u4 u5 : Value) (w : World) : (part 3 #[u0, u1, u2, u3, u4, u5] 1).run Tryz.prog w = .ok u1 w := by kernel_rfl
theorem ndPart2 (u0 u1 u2 u3 u4 u5 : Value) (w : World) : (part 3 #[u0, u1, u2, u3, u4, u5] 2).run Tryz.prog w = .ok u2 w := by kernel_rfl
theorem ndPart3 (u0 u1 u2 u3 u4 u5 : Value) (w : World) : (part 3 #[u0, u1, u2, u3, u4, u5] 3).run Tryz.prog w = .ok u3 w := by kernel_rfl
theorem ndPart4 (u0 u1 u2 u3 u4 u5 : Value) (w : World) : (part 3 #[u0, u1, u2, u3, u4, u5] 4).run Tryz.prog w = .ok u4 w := by kernel_rfl
theorem ndPart5 (u0 u1 u2 u3 u4 u5 : Value) (w : World) : (part 9 #[u0, u1, u2, u3, u4, u5] 5).run Tryz.prog w = .ok u5 w := by kernel_rfl
theorem ndStood : Tryz.prog.stoodInHeld 42 = false := by kernel_rfl
set_option maxRecDepth 100000 in
theorem eqNd (x y : Nd) (w : World) : (Op.equalIn 10000 42 (ndV x) (ndV y)).run Tryz.prog w = .ok (decide (x = y)) w := by
  have hu := Tryz.underlying42
  have hf := fields_eq Tryz.underlying42
  have hi : ∀ (d : Nat) (p q : Int), (Op.equalIn (d + 1) 3 (.int .i64 p) (.int .i64 q)).run Tryz.prog w = .ok (p == q) w := fun d p q => run_equalIn_int w d _ _ _ p q Tryz.underlying3
  have hs : ∀ (d : Nat) (p q : ByteArray), (Op.equalIn (d + 1) 9 (.string p) (.string q)).run Tryz.prog w = .ok (decide (p = q)) w := fun d p q => by
    rw [run_equalIn_string w d _ p q Tryz.underlying9]
    congr 1
    rw [Bool.eq_iff_iff, beq_iff_eq, decide_eq_true_eq, Lib.toList_data, Lib.toList_data]
    exact ⟨bytes_ext, fun h => by rw [h]⟩
  obtain ⟨op, a, b, c, n, s⟩ := x
  obtain ⟨op', a', b', c', n', s'⟩ := y
  unfold ndV
  rw [run_equalIn_agg w 9999 _ _ _ (by rw [hf]; exact hu) ndStood, hf]
  simp only [Op.eqFields]
  have e : decide ((⟨op, a, b, c, n, s⟩ : Nd) = ⟨op', a', b', c', n', s'⟩) = ((op == op') && (a == a') && (b == b') && (c == c') && (n == n') && decide (s = s')) := by
    rw [Bool.eq_iff_iff]; simp [and_assoc]
  rw [e]
  cases h0 : (op == op') <;> cases h1 : (a == a') <;> cases h2 : (b == b') <;> cases h3 : (c == c') <;> cases h4 : (n == n') <;> cases h5 : decide (s = s') <;> simp [hi, hs, ndPart0, ndPart1, ndPart2, ndPart3, ndPart4, ndPart5, h0, h1, h2, h3, h4, h5, Result.andThen]
theorem blk_six {W : World} {b T : Nat} {c0 c1 c2 c3 c4 c5 : Value} (h : Blk W b #[c0, c1, c2, c3, c4, c5] T) (d0 d1 d2 d3 d4 d5 : Value) : Blk ((((((W.setCell ⟨b, 0, none⟩ d0).setCell ⟨b, 1, none⟩ d1).setCell ⟨b, 2, none⟩ d2).setCell ⟨b, 3, none⟩ d3).setCell ⟨b, 4, none⟩ d4).setCell ⟨b, 5, none⟩ d5) b #[d0, d1, d2, d3, d4, d5] T := by
  have := (((((h.setAt 0 d0).setAt 1 d1).setAt 2 d2).setAt 3 d3).setAt 4 d4).setAt 5 d5
  simpa using this
def mostN (op : Int) : Int := if op = 1 then 2147483647 else if op = 2 then 1 else if op = 25 then 1000 else 0
theorem nodeB_is (x : Nd) : nodeB x = (decide (1 ≤ x.op) && decide (x.op ≤ 28) && decide (x = aim (leaf x.op x.n x.s) (kids x)) && decide (0 ≤ x.n) && decide (x.n ≤ mostN x.op) && (decide (x.s ≠ ByteArray.empty) == (x.op == 3 || x.op == 27))) := by
  unfold nodeB bareB plainB mostN
  rw [Bool.eq_iff_iff]
  simp only [Bool.and_eq_true]
  constructor
  · rintro ⟨⟨⟨h1, h2⟩, h3⟩, ⟨h4, h5⟩, h6⟩; exact ⟨⟨⟨⟨⟨h1, h2⟩, h3⟩, h5⟩, h6⟩, h4⟩
  · rintro ⟨⟨⟨⟨⟨h1, h2⟩, h3⟩, h5⟩, h6⟩, h4⟩; exact ⟨⟨⟨h1, h2⟩, h3⟩, ⟨h4, h5⟩, h6⟩
set_option maxRecDepth 100000 in
set_option maxHeartbeats 4000000 in
theorem isNode_any (x : Nd) (w : World) : Calls Tryz.prog 83 #[ndV x] w fun e w' => e = .returned (.bool (nodeB x)) ∧ Below w.heap.size w w' := by
  obtain ⟨M, hM⟩ : ∃ M, M = mostN x.op := ⟨_, rfl⟩
  have HN : Hid (nodeB x = _) := nodeB_is x
  rw [← hM] at HN
  obtain ⟨op, a, b, c, n, s⟩ := x
  unfold ndV
  simp only [] at HN hM ⊢
  have hor : ((op == 1) = true ∧ M = 2147483647) ∨ ((op == 1) = false ∧ (op == 2) = true ∧ M = 1) ∨ ((op == 1) = false ∧ (op == 2) = false ∧ (op == 25) = true ∧ M = 1000) ∨ ((op == 1) = false ∧ (op == 2) = false ∧ (op == 25) = false ∧ M = 0) := by
    unfold mostN at hM
    by_cases h1 : op = 1
    · exact Or.inl ⟨by simp [h1], by rw [hM, if_pos h1]⟩
    rw [if_neg h1] at hM
    by_cases h2 : op = 2
    · exact Or.inr (Or.inl ⟨by simp [h1], by simp [h2], by rw [hM, if_pos h2]⟩)
    rw [if_neg h2] at hM
    by_cases h3 : op = 25
    · exact Or.inr (Or.inr (Or.inl ⟨by simp [h1], by simp [h2], by simp [h3], by rw [hM, if_pos h3]⟩))
    · exact Or.inr (Or.inr (Or.inr ⟨by simp [h1], by simp [h2], by simp [h3], by rw [hM, if_neg h3]⟩))
  have B0 : Below w.heap.size w (w.alloc (.cells #[.int .i64 op, .int .i64 a, .int .i64 b, .int .i64 c, .int .i64 n, .string s] 42)) := (Below.refl _ _).alloc (Nat.le_refl _) _
  have k0 := Blk.new w #[.int .i64 op, .int .i64 a, .int .i64 b, .int .i64 c, .int .i64 n, .string s] 42
  clear hM
  go_enter Tryz.func83, Tryz.ntmps83
  go_upto_block 0 with fail
  generalize w.alloc (.cells #[.int .i64 op, .int .i64 a, .int .i64 b, .int .i64 c, .int .i64 n, .string s] 42) = W at B0 k0 ⊢
  have hsz := B0.size
  have hlt := k0.lt
  generalize w.heap.size = bx at k0 hlt ⊢
  go_cut [3] (fun s3 wx => s3 = .int .i64 M ∧ wx = W)
  case first =>
    obtain ⟨k1, k2, k3, k4, k5, k6⟩ := six_cells k0
    clear k0
    rcases hor with ⟨e1, rfl⟩ | ⟨e1, e2, rfl⟩ | ⟨e1, e2, e3, rfl⟩ | ⟨e1, e2, e3, rfl⟩
    all_goals
      go_wp2_with fail
      go_meet
      exact ⟨rfl, rfl⟩
  case rest =>
    obtain ⟨rfl, hW⟩ := hcut
    subst hW
    have HWX : Hid (Blk wc bx #[.int .i64 op, .int .i64 a, .int .i64 b, .int .i64 c, .int .i64 n, .string s] 42) := Lib.hid k0
    clear hor
    go_upto_region 9 with fail
    obtain ⟨Wo, rfl⟩ : ∃ Wo : World, Wo = wc := ⟨_, rfl⟩
    go_cut [4] (fun s4 wx => ∃ (zb : Nat) (y : Nd), s4 = .pointer (some ⟨zb, 0, none⟩) ∧ Hid (aim (leaf op n s) (kids ⟨op, a, b, c, n, s⟩) = y) ∧ Below Wo.heap.size Wo wx ∧ Blk wx zb (ndA y) 42)
    case first =>
      obtain ⟨W, rfl⟩ : ∃ W : World, W = Wo := ⟨_, rfl⟩
      have HK0 := k0.six (Below.refl _ _)
      have BD := (Below.refl W.heap.size W).drew
      have HKD := k0.six BD
      have BA : Below W.heap.size W (W.alloc (.cells #[.int .i64 0, .int .i64 0, .int .i64 0, .int .i64 0, .int .i64 0, .string ⟨#[]⟩] 42)).drew := ((Below.refl _ _).alloc (Nat.le_refl _) _).drew
      have HKA := k0.six BA
      have ZA0 := Lib.hid ((Blk.new W #[.int .i64 0, .int .i64 0, .int .i64 0, .int .i64 0, .int .i64 0, .string ⟨#[]⟩] 42).below ((Below.refl _ _).drew))
      have K0 := Lib.hid k0
      clear k0
      go_region_held3 (fun w' => w'.cell? ⟨bx, 0, none⟩ = some (.int .i64 op) ∧ w'.cell? ⟨bx, 1, none⟩ = some (.int .i64 a) ∧ w'.cell? ⟨bx, 2, none⟩ = some (.int .i64 b) ∧ w'.cell? ⟨bx, 3, none⟩ = some (.int .i64 c) ∧ w'.cell? ⟨bx, 4, none⟩ = some (.int .i64 n) ∧ w'.cell? ⟨bx, 5, none⟩ = some (.string s))
        (with_reducible first | exact Blk.six K0.out (below_six HBB hbz) | exact HKD | exact HK0 | exact HKA | exact HK1 | exact Blk.six K0.out (below_next HBA ((Below.refl _ _).alloc (Nat.le_refl _) _)) | exact HK2 | exact Blk.six K0.out (below_next HBB ((Below.refl _ _).alloc (Nat.le_refl _) _)) | fail)
        (first
          | (go_at_call 106; (with_reducible refine (with_parts ⟨op, -1, -1, -1, n, s⟩ _ (kids_len ⟨op, a, b, c, n, s⟩) v wA hrA.sl).mono ?_); rintro e wB ⟨o', a', b', c', n', s', rfl, hy, hbB⟩; have HBB := below_next HBA hbB; have HK2 := Blk.six K0.out HBB; have ZB := Lib.hid (Blk.below ZA hbB); have hbz := Nat.le_refl W.heap.size; obtain ⟨z0, z1, z2, z3, z4, z5⟩ := six_cells ZB.out; obtain ⟨y0, y1, y2, y3, y4, y5⟩ := six_free ZB.out)
          | (go_at_call 106; (with_reducible refine (with_parts ⟨op, -1, -1, -1, n, s⟩ _ (kids_len ⟨op, a, b, c, n, s⟩) v wA hrA.sl).mono ?_); rintro e wB ⟨o', a', b', c', n', s', rfl, hy, hbB⟩; have HBB := below_next HBA hbB; have HK2 := Blk.six K0.out HBB)
          | (go_at_call 106; (with_reducible refine (with_parts ⟨op, -1, -1, -1, n, s⟩ _ (kids_len ⟨op, a, b, c, n, s⟩) v (wA.alloc (.cells #[.int .i64 0, .int .i64 0, .int .i64 0, .int .i64 0, .int .i64 0, .string ⟨#[]⟩] 42)) (hrA.sl.below ((Below.refl _ _).alloc (Nat.le_refl _) _))).mono ?_); rintro e wB ⟨o', a', b', c', n', s', rfl, hy, hbB⟩; have HBB := below_next (below_next HBA ((Below.refl _ _).alloc (Nat.le_refl _) _)) hbB; have HK2 := Blk.six K0.out HBB; have ZB := Lib.hid (Blk.below (Blk.new wA #[.int .i64 0, .int .i64 0, .int .i64 0, .int .i64 0, .int .i64 0, .string ⟨#[]⟩] 42) hbB); have hbz := HBA.size; obtain ⟨z0, z1, z2, z3, z4, z5⟩ := six_cells ZB.out; obtain ⟨y0, y1, y2, y3, y4, y5⟩ := six_free ZB.out)
          | (go_at_call 84; (with_reducible refine (Kids_any ⟨op, a, b, c, n, s⟩ W.drew).mono ?_); rintro e wA ⟨v, rfl, hrA, hbA⟩; have HBA := below_next BD hbA; have HK1 := Blk.six K0.out HBA)
          | (go_at_call 84; (with_reducible refine (Kids_any ⟨op, a, b, c, n, s⟩ (W.alloc (.cells #[.int .i64 0, .int .i64 0, .int .i64 0, .int .i64 0, .int .i64 0, .string ⟨#[]⟩] 42)).drew).mono ?_); rintro e wA ⟨v, rfl, hrA, hbA⟩; have HBA := below_next BA hbA; have HK1 := Blk.six K0.out HBA; have ZA := Lib.hid (Blk.below ZA0.out hbA))
          | fail)
      · go_wp2_with fail
        go_meet
        exact ⟨_, ⟨o', a', b', c', n', s'⟩, rfl, hy, below_next HBB ((Below.refl _ _).alloc (Nat.le_refl _) _), Blk.new _ _ _⟩
      · go_wp2_with fail
        go_meet
        exact ⟨_, ⟨o', a', b', c', n', s'⟩, rfl, hy, below_six HBB hbz, blk_six ZB.out _ _ _ _ _ _⟩
      · go_wp2_with fail
        go_meet
        exact ⟨_, ⟨o', a', b', c', n', s'⟩, rfl, hy, below_six HBB hbz, blk_six ZB.out _ _ _ _ _ _⟩
    case rest =>
      obtain ⟨zb, y, rfl, hy, hb, hk⟩ := hcut
      have B1 := below_next B0 hb
      have kx := k0.below hb
      obtain ⟨x0, x1, x2, x3, x4, x5⟩ := six_cells kx
      obtain ⟨z0, z1, z2, z3, z4, z5⟩ := six_cells hk
      clear k0 hk kx hb B0 hsz hlt HWX
      obtain ⟨q, hq⟩ : ∃ q, q = decide ((⟨op, a, b, c, n, s⟩ : Nd) = y) := ⟨_, rfl⟩
      have HEQ : ∀ W, (Op.equalIn 10000 42 (.agg #[.int .i64 op, .int .i64 a, .int .i64 b, .int .i64 c, .int .i64 n, .string s]) (.agg #[.int .i64 y.op, .int .i64 y.a, .int .i64 y.b, .int .i64 y.c, .int .i64 y.n, .string y.s])).run Tryz.prog W = .ok q W := fun W => by rw [hq]; exact eqNd ⟨op, a, b, c, n, s⟩ y W
      obtain ⟨nm, hnm⟩ : ∃ nm, nm = (op == 3 || op == 27) := ⟨_, rfl⟩
      have hor : ((op == 3) = true ∧ nm = true) ∨ ((op == 3) = false ∧ (op == 27) = true ∧ nm = true) ∨ ((op == 3) = false ∧ (op == 27) = false ∧ nm = false) := by
        rw [hnm]; cases (op == 3) <;> cases (op == 27) <;> simp
      obtain ⟨se, hse⟩ : ∃ se, s.toList.isEmpty = se := ⟨_, rfl⟩
      have hse2 : decide (s ≠ ByteArray.empty) = !se := by
        rw [← hse, Bool.eq_iff_iff]
        simp only [decide_eq_true_eq, Bool.not_eq_true', List.isEmpty_eq_false_iff, ne_eq]
        refine not_congr ?_
        rw [Lib.toList_data]
        exact ⟨fun h => by rw [h]; rfl, fun h => bytes_ext (by rw [h]; rfl)⟩
      have HF : Hid (nodeB ⟨op, a, b, c, n, s⟩ = (decide (1 ≤ op) && decide (op ≤ 28) && q && decide (0 ≤ n) && decide (n ≤ M) && ((!se) == nm))) := by
        show _ = _
        rw [HN.out, hq, hnm, ← hse2, ← hy.out]
      clear HN hq hnm hse2 hy
      obtain ⟨W, rfl⟩ : ∃ W : World, W = wc := ⟨_, rfl⟩
      go_upto_region 10 with fail
      go_cut [5] (fun s5 wx => s5 = .bool nm ∧ wx = W)
      case first =>
        rcases hor with ⟨e1, rfl⟩ | ⟨e1, e2, rfl⟩ | ⟨e1, e2, rfl⟩
        all_goals
          go_wp2_with fail
          go_meet
          exact ⟨rfl, rfl⟩
      case rest =>
        obtain ⟨rfl, hW⟩ := hcut
        subst hW
        clear hor
        by_cases c1 : 1 ≤ op
        · by_cases c2 : op ≤ 28
          · cases q
            · go_wp2_with fail
              go_ret
              exact ⟨ret_bool (by rw [HF.out]; simp), B1⟩
            · by_cases c3 : 0 ≤ n
              · by_cases c4 : n ≤ M
                · cases se <;> cases nm
                  all_goals
                    go_wp2_with fail
                    go_ret
                    exact ⟨ret_bool (by rw [HF.out]; simp [c1, c2, c3, c4]), B1⟩
                · have C : Hid (decide (n ≤ M) = false) := by show _ = _; simp; omega
                  go_wp2_with fail
                  go_ret
                  exact ⟨ret_bool (by rw [HF.out, C.out]; simp), B1⟩
              · have C : Hid (decide (0 ≤ n) = false) := by show _ = _; simp; omega
                go_wp2_with fail
                go_ret
                exact ⟨ret_bool (by rw [HF.out, C.out]; simp), B1⟩
          · have C : Hid (decide (op ≤ 28) = false) := by show _ = _; simp; omega
            go_wp2_with fail
            go_ret
            exact ⟨ret_bool (by rw [HF.out, C.out]; simp), B1⟩
        · have C : Hid (decide (1 ≤ op) = false) := by show _ = _; simp; omega
          go_wp2_with fail
          go_ret
          exact ⟨ret_bool (by rw [HF.out, C.out]; simp), B1⟩
end Go.Proofs.YtjnpkdpljmkpiaaGreatDoor
