/- A node with other operands: the walk. -/
import Derived.RegionTactic
import Derived.Lib.Hide
import Derived.Test.YtmklieoikbgmpaaDoorJ3
namespace Go.Proofs.YtmklieoikbgmpaaDoor
open Go.RowKit Go.Shelf Tx
theorem Blk.setAt {W : World} {b T : Nat} {cs : Array Value} (h : Blk W b cs T) (i : Nat) (y : Value) : Blk (W.setCell ⟨b, i, none⟩ y) b (cs.setIfInBounds i y) T := by
  unfold Blk at h ⊢
  simp [World.setCell, Array.getElem?_modify, h]
theorem six_cells {W : World} {b T : Nat} {c0 c1 c2 c3 c4 c5 : Value} (h : Blk W b #[c0, c1, c2, c3, c4, c5] T) :
    W.cell? ⟨b, 0, none⟩ = some c0 ∧ W.cell? ⟨b, 1, none⟩ = some c1 ∧ W.cell? ⟨b, 2, none⟩ = some c2 ∧ W.cell? ⟨b, 3, none⟩ = some c3 ∧ W.cell? ⟨b, 4, none⟩ = some c4 ∧ W.cell? ⟨b, 5, none⟩ = some c5 := by
  unfold Blk at h; simp [World.cell?, h]
theorem six_free {W : World} {b T : Nat} {c0 c1 c2 c3 c4 c5 : Value} (h : Blk W b #[c0, c1, c2, c3, c4, c5] T) :
    W.frozen? ⟨b, 0, none⟩ = false ∧ W.frozen? ⟨b, 1, none⟩ = false ∧ W.frozen? ⟨b, 2, none⟩ = false ∧ W.frozen? ⟨b, 3, none⟩ = false ∧ W.frozen? ⟨b, 4, none⟩ = false ∧ W.frozen? ⟨b, 5, none⟩ = false := by
  unfold Blk at h; simp [World.frozen?, h]
def ndA (x : Nd) : Array Value := #[.int .i64 x.op, .int .i64 x.a, .int .i64 x.b, .int .i64 x.c, .int .i64 x.n, .string x.s]
def WithPost (x : Nd) (l : List Int) (w : World) (e : Ending) (w' : World) : Prop := e = .returned (ndV (aim x l)) ∧ Below w.heap.size w w'
set_option maxRecDepth 100000 in
set_option maxHeartbeats 1000000 in
theorem with_two (x : Nd) (p q : Int) (h28 : x.op = 28) (v : Value) (w : World) (hv : Sl intC 1 w v [p, q]) : Calls Tryd.prog 79 #[ndV x, v] w (WithPost x [p, q] w) := by
  obtain ⟨a, c, rfl, hc, hx⟩ := hv.form
  have B1 : Below w.heap.size w (w.alloc (.cells (ndA x) 33)) := (Below.refl _ _).alloc (Nat.le_refl _) _
  have z1 : (w.alloc (.cells (ndA x) 33)).heap.size = w.heap.size + 1 := by simp
  obtain ⟨zr, hzr⟩ : ∃ zr, zr = #[Value.int .i64 0, .int .i64 0, .int .i64 0, .int .i64 0, .int .i64 0, .string ⟨#[]⟩] := ⟨_, rfl⟩
  have k1 := Blk.new w (ndA x) 33
  have n2 := (Below.refl (w.alloc (.cells (ndA x) 33)).heap.size (w.alloc (.cells (ndA x) 33))).alloc (Nat.le_refl _) (.cells zr 33)
  have k2 := Blk.new (w.alloc (.cells (ndA x) 33)) zr 33
  rw [z1] at k2
  have B2 := below_next B1 n2
  have k1' := k1.below n2
  subst hzr
  obtain ⟨op, xa, xb, xc, xn, xs⟩ := x
  simp only [] at h28
  subst h28
  simp only [ndA] at k1' k2 B2
  obtain ⟨b0, o0, rfl, g0⟩ := hx _ B2 0 p rfl
  obtain ⟨b1, o1, hab, g1⟩ := hx _ B2 1 q rfl
  cases hab
  have c0 := g0 0 _ rfl
  have c1 := g1 0 _ rfl
  simp only [Nat.zero_mul, Nat.add_zero, Nat.one_mul] at c0 c1
  obtain ⟨b2, o2, hab, g2⟩ := hx w (Below.refl _ _) 0 p rfl
  cases hab
  have hlt := World.block_lt_of_cell? w _ (g2 0 _ rfl)
  have hne : b0 ≠ w.heap.size := by simp at hlt; omega
  have hz : w.heap.size + 1 ≠ w.heap.size := by omega
  have e28 : ((28 : Int) == 28) = true := rfl
  clear g0 g1 g2 hx hv n2 z1 k1 hlt
  unfold ndV
  go_enter Tryd.func79, Tryd.ntmps79
  go_wp2_with fail
  go_region
  all_goals
    go_wp2_with fail
    exact bodyPost_ret (v := .agg #[.int .i64 28, .int .i64 q, .int .i64 p, .int .i64 xc, .int .i64 xn, .string xs]) (by simp [results, Tryd.results79, go_sem]) rfl ⟨rfl, (((Below.refl _ _).alloc (Nat.le_refl _) _).alloc (by simp) _).drew⟩
def ndPart (x : Nd) (l : List Int) (k : Nat) : Nd := ⟨x.op, (l.take k).getD 0 x.a, (l.take k).getD 1 x.b, (l.take k).getD 2 x.c, x.n, x.s⟩
theorem ndPart_zero (x : Nd) (l : List Int) : ndPart x l 0 = x := by simp [ndPart]
theorem ndPart_end {x : Nd} {l : List Int} (h3 : l.length ≤ 3) (h : ¬ (x.op = 28 ∧ l.length = 2)) : ndPart x l 3 = aim x l := by
  match l with
  | [] => rfl
  | [p] => rfl
  | [p, q] => simp only [ndPart, aim]; simp at h; rw [if_neg h]; rfl
  | [p, q, r] => rfl
  | _ :: _ :: _ :: _ :: _ => simp at h3
theorem ndPart_same {x : Nd} {l : List Int} {k : Nat} (h : l.length ≤ k) : ndPart x l (k + 1) = ndPart x l k := by
  unfold ndPart; rw [List.take_of_length_le h, List.take_of_length_le (by omega)]
theorem ndPart_0 {x : Nd} {l : List Int} {y : Int} (h : l[0]? = some y) : ndPart x l 1 = { ndPart x l 0 with a := y } := by
  match l with
  | [] => simp at h
  | p :: l => simp at h; subst h; simp [ndPart]
theorem ndPart_1 {x : Nd} {l : List Int} {y : Int} (h : l[1]? = some y) : ndPart x l 2 = { ndPart x l 1 with b := y } := by
  match l with
  | [] => simp at h
  | [p] => simp at h
  | p :: q :: l => simp at h; subst h; simp [ndPart]
theorem ndPart_2 {x : Nd} {l : List Int} {y : Int} (h : l[2]? = some y) : ndPart x l 3 = { ndPart x l 2 with c := y } := by
  match l with
  | [] => simp at h
  | [p] => simp at h
  | [p, q] => simp at h
  | p :: q :: r :: l => simp at h; subst h; simp [ndPart]
set_option maxRecDepth 100000 in
set_option maxHeartbeats 2000000 in
theorem with_loop (x : Nd) (l : List Int) (h3 : l.length ≤ 3) (h28 : ¬ (x.op = 28 ∧ l.length = 2)) (v : Value) (w : World) (hv : Sl intC 1 w v l) : Calls Tryd.prog 79 #[ndV x, v] w (WithPost x l w) := by
  obtain ⟨a, c, rfl, hc, hx⟩ := hv.form
  have HX : Hid (∀ W, Below w.heap.size w W → ∀ (i : Nat) (y : Int), l[i]? = some y → ∃ b o, a = some ⟨b, o, none⟩ ∧ b < w.heap.size ∧ W.cell? ⟨b, o + i, none⟩ = some (.int .i64 y)) := fun W hW i y hi => by
    obtain ⟨b, o, rfl, g⟩ := hx W hW i y hi
    obtain ⟨b', o', h', g'⟩ := hx w (Below.refl _ _) i y hi
    cases h'
    refine ⟨b, o, rfl, World.block_lt_of_cell? w _ (g' 0 _ rfl), ?_⟩
    have := g 0 _ rfl
    simpa using this
  have HE : Hid (ndPart x l 3 = aim x l) := ndPart_end h3 h28
  have hor : (x.op == 28) = false ∨ ((x.op == 28) = true ∧ ((l.length : Int) == 2) = false) := by
    by_cases h : x.op = 28
    · exact Or.inr ⟨by simp [h], by rw [beq_eq_false_iff_ne]; omega⟩
    · exact Or.inl (by simp [h])
  have H0 : Hid (ndPart x l 0 = x) := ndPart_zero x l
  -- the three blocks of the call's own
  have HS : Hid (∀ (A Z P : Array Value), Below w.heap.size w (((w.alloc (.cells A 33)).alloc (.cells Z 33)).alloc (.cells P 128)) ∧
      Blk (((w.alloc (.cells A 33)).alloc (.cells Z 33)).alloc (.cells P 128)) w.heap.size A 33 ∧
      Blk (((w.alloc (.cells A 33)).alloc (.cells Z 33)).alloc (.cells P 128)) (w.heap.size + 1) Z 33 ∧
      Blk (((w.alloc (.cells A 33)).alloc (.cells Z 33)).alloc (.cells P 128)) (w.heap.size + 2) P 128) := fun A Z P => by
    have z1 : (w.alloc (.cells A 33)).heap.size = w.heap.size + 1 := by simp
    have z2 : ((w.alloc (.cells A 33)).alloc (.cells Z 33)).heap.size = w.heap.size + 2 := by simp
    have B1 : Below w.heap.size w (w.alloc (.cells A 33)) := (Below.refl _ _).alloc (Nat.le_refl _) _
    have n2 := (Below.refl (w.alloc (.cells A 33)).heap.size (w.alloc (.cells A 33))).alloc (Nat.le_refl _) (.cells Z 33)
    have n3 := (Below.refl ((w.alloc (.cells A 33)).alloc (.cells Z 33)).heap.size ((w.alloc (.cells A 33)).alloc (.cells Z 33))).alloc (Nat.le_refl _) (.cells P 128)
    have k1 := ((Blk.new w A 33).below n2).below n3
    have k2 := (Blk.new (w.alloc (.cells A 33)) Z 33).below n3
    have k3 := Blk.new ((w.alloc (.cells A 33)).alloc (.cells Z 33)) P 128
    rw [z1] at k2
    rw [z2] at k3
    exact ⟨below_next (below_next B1 n2) n3, k1, k2, k3⟩
  obtain ⟨n, hn⟩ : ∃ n, n = l.length := ⟨_, rfl⟩
  rw [← hn] at hor hc h3 ⊢
  have HN : Hid (n = l.length) := hn
  clear hn hx hv h28
  have HW : Hid (∀ (wr : World) (y : Nd), Below w.heap.size w wr → Blk wr w.heap.size (ndA y) 33 → ndPart x l 3 = y → WithPost x l w (.returned (ndV y)) wr) := fun wr y hb _ hy => ⟨by rw [← hy, HE.out], hb⟩
  obtain ⟨op, xa, xb, xc, xn, xs⟩ := x
  unfold ndV
  simp only [] at hor ⊢
  rcases hor with e28 | ⟨e28, e2⟩
  all_goals
    go_enter Tryd.func79, Tryd.ntmps79
    go_wp2_with fail
    go_loopw [29] (fun i wr => ∃ (k : Nat) (y0 y1 y2 : Int), i = .int .i64 k ∧ k ≤ 3 ∧ ndPart ⟨op, xa, xb, xc, xn, xs⟩ l k = ⟨op, y0, y1, y2, xn, xs⟩ ∧ Below w.heap.size w wr ∧ Blk wr w.heap.size #[.int .i64 op, .int .i64 y0, .int .i64 y1, .int .i64 y2, .int .i64 xn, .string xs] 33 ∧
      Blk wr (w.heap.size + 1) #[.int .i64 0, .int .i64 0, .int .i64 0, .int .i64 0, .int .i64 0, .string ⟨#[]⟩] 33 ∧ Blk wr (w.heap.size + 2) #[.pointer (some ⟨w.heap.size, 1, none⟩), .pointer (some ⟨w.heap.size, 2, none⟩), .pointer (some ⟨w.heap.size, 3, none⟩)] 128) (fun i _ => 3 - (intOf i).toNat)
    case atStart => exact ⟨0, xa, xb, xc, rfl, by omega, H0.out, HS.out _ _ _⟩
    case round =>
      obtain ⟨k, y0, y1, y2, rfl, hk, hy, hb, k1, k2, k3⟩ := hrel
      have HY : Hid (ndPart ⟨op, xa, xb, xc, xn, xs⟩ l k = ⟨op, y0, y1, y2, xn, xs⟩) := hy
      clear hy
      have h4 : k = 0 ∨ k = 1 ∨ k = 2 ∨ k = 3 := by omega
      have g1 : w.heap.size + 1 ≠ w.heap.size := by omega
      have g2 : w.heap.size + 2 ≠ w.heap.size := by omega
      obtain ⟨q0, q1, q2, q3, q4, q5⟩ := six_cells k1
      obtain ⟨r0, r1, r2, r3, r4, r5⟩ := six_free k1
      have K1 := Lib.hid k1
      have K2 := Lib.hid k2
      have K3 := Lib.hid k3
      obtain ⟨p0, p1, p2⟩ : wr.cell? ⟨w.heap.size + 2, 0, none⟩ = some (.pointer (some ⟨w.heap.size, 1, none⟩)) ∧ wr.cell? ⟨w.heap.size + 2, 1, none⟩ = some (.pointer (some ⟨w.heap.size, 2, none⟩)) ∧ wr.cell? ⟨w.heap.size + 2, 2, none⟩ = some (.pointer (some ⟨w.heap.size, 3, none⟩)) := by
        unfold Blk at k3; simp [World.cell?, k3]
      obtain ⟨s0, s1, s2, s3, s4, s5⟩ := six_cells k2
      obtain ⟨t0, t1, t2, t3, t4, t5⟩ := six_free k2
      clear k1 k2 k3 hk
      rcases h4 with rfl | rfl | rfl | rfl
      · by_cases hkn : 0 < n
        · obtain ⟨y, hy⟩ : ∃ y, l[0]? = some y := ⟨_, List.getElem?_eq_getElem (by have := HN.out; omega)⟩
          obtain ⟨b, o, rfl, hlt, hc0⟩ := HX.out wr hb 0 y hy
          have HP : Hid (ndPart ⟨op, xa, xb, xc, xn, xs⟩ l 1 = ⟨op, y, y1, y2, xn, xs⟩) := by show _ = _; rw [ndPart_0 hy, HY.out]
          have hne : b ≠ w.heap.size := by omega
          have hkn2 : (0 : Int) < (n : Int) := by omega
          simp only [Nat.add_zero] at hc0
          clear hy hkn
          go_wp2_with fail
          go_roundw
          case rel => exact ⟨1, y, y1, y2, by go_num, by omega, HP.out, hb.setCell (Nat.le_refl _) _, by have := K1.out.setAt 1 (.int .i64 y); simpa using this, K2.out.other 1 g1 _, K3.out.other 1 g2 _⟩
          case measure => simp [intOf]
        · have HP : Hid (ndPart ⟨op, xa, xb, xc, xn, xs⟩ l 1 = ⟨op, y0, y1, y2, xn, xs⟩) := by show _ = _; rw [ndPart_same (by have := HN.out; omega), HY.out]
          have hkn2 : ¬ (0 : Int) < (n : Int) := by omega
          clear hkn
          go_wp2_with fail
          go_roundw
          case rel => exact ⟨1, y0, y1, y2, by go_num, by omega, HP.out, hb, K1.out, K2.out, K3.out⟩
          case measure => simp [intOf]
      · by_cases hkn : 1 < n
        · obtain ⟨y, hy⟩ : ∃ y, l[1]? = some y := ⟨_, List.getElem?_eq_getElem (by have := HN.out; omega)⟩
          obtain ⟨b, o, rfl, hlt, hc0⟩ := HX.out wr hb 1 y hy
          have HP : Hid (ndPart ⟨op, xa, xb, xc, xn, xs⟩ l 2 = ⟨op, y0, y, y2, xn, xs⟩) := by show _ = _; rw [ndPart_1 hy, HY.out]
          have hne : b ≠ w.heap.size := by omega
          have hkn2 : (1 : Int) < (n : Int) := by omega
          clear hy hkn
          go_wp2_with fail
          go_roundw
          case rel => exact ⟨2, y0, y, y2, by go_num, by omega, HP.out, hb.setCell (Nat.le_refl _) _, by have := K1.out.setAt 2 (.int .i64 y); simpa using this, K2.out.other 2 g1 _, K3.out.other 2 g2 _⟩
          case measure => simp [intOf]
        · have HP : Hid (ndPart ⟨op, xa, xb, xc, xn, xs⟩ l 2 = ⟨op, y0, y1, y2, xn, xs⟩) := by show _ = _; rw [ndPart_same (by have := HN.out; omega), HY.out]
          have hkn2 : ¬ (1 : Int) < (n : Int) := by omega
          clear hkn
          go_wp2_with fail
          go_roundw
          case rel => exact ⟨2, y0, y1, y2, by go_num, by omega, HP.out, hb, K1.out, K2.out, K3.out⟩
          case measure => simp [intOf]
      · by_cases hkn : 2 < n
        · obtain ⟨y, hy⟩ : ∃ y, l[2]? = some y := ⟨_, List.getElem?_eq_getElem (by have := HN.out; omega)⟩
          obtain ⟨b, o, rfl, hlt, hc0⟩ := HX.out wr hb 2 y hy
          have HP : Hid (ndPart ⟨op, xa, xb, xc, xn, xs⟩ l 3 = ⟨op, y0, y1, y, xn, xs⟩) := by show _ = _; rw [ndPart_2 hy, HY.out]
          have hne : b ≠ w.heap.size := by omega
          have hkn2 : (2 : Int) < (n : Int) := by omega
          clear hy hkn
          go_wp2_with fail
          go_roundw
          case rel => exact ⟨3, y0, y1, y, by go_num, by omega, HP.out, hb.setCell (Nat.le_refl _) _, by have := K1.out.setAt 3 (.int .i64 y); simpa using this, K2.out.other 3 g1 _, K3.out.other 3 g2 _⟩
          case measure => simp [intOf]
        · have HP : Hid (ndPart ⟨op, xa, xb, xc, xn, xs⟩ l 3 = ⟨op, y0, y1, y2, xn, xs⟩) := by show _ = _; rw [ndPart_same (by have := HN.out; omega), HY.out]
          have hkn2 : ¬ (2 : Int) < (n : Int) := by omega
          clear hkn
          go_wp2_with fail
          go_roundw
          case rel => exact ⟨3, y0, y1, y2, by go_num, by omega, HP.out, hb, K1.out, K2.out, K3.out⟩
          case measure => simp [intOf]
      · go_wp2_with fail
        exact bodyPost_ret (v := .agg #[.int .i64 op, .int .i64 y0, .int .i64 y1, .int .i64 y2, .int .i64 xn, .string xs]) (by simp [results, Tryd.results79, go_sem, s0, s1, s2, s3, s4, s5]) rfl ⟨by rw [← HE.out, HY.out], ((((((hb.setCell (by simp) _).setCell (by simp) _).setCell (by simp) _).setCell (by simp) _).setCell (by simp) _).setCell (by simp) _)⟩
theorem with_any (x : Nd) (l : List Int) (h3 : l.length ≤ 3) (v : Value) (w : World) (hv : Sl intC 1 w v l) : Calls Tryd.prog 79 #[ndV x, v] w (WithPost x l w) := by
  by_cases h : x.op = 28 ∧ l.length = 2
  · obtain ⟨h1, h2⟩ := h
    match l, h2 with
    | [p, q], _ => exact with_two x p q h1 v w hv
  · exact with_loop x l h3 h v w hv
end Go.Proofs.YtmklieoikbgmpaaDoor
