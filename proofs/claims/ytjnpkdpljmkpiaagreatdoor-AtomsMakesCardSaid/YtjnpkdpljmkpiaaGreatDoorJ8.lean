/- The reference's operands of a node; a node with other operands; a leaf: the walks. -/
import Derived.Test.YtjnpkdpljmkpiaaGreatDoorJ7
namespace Go.Proofs.YtjnpkdpljmkpiaaGreatDoor
open Go.RowKit Go.Shelf Tx
theorem kids_one {op a b c n : Int} {s : ByteArray} (h : op = 4 ∨ op = 5 ∨ (21 ≤ op ∧ op ≤ 25)) : kids ⟨op, a, b, c, n, s⟩ = [a] := by
  have n1 : ¬ op = 26 := by omega
  have n2 : ¬ op = 28 := by omega
  have n3 : ¬ op = 27 := by omega
  have n4 : ¬ (6 ≤ op ∧ op ≤ 20) := by omega
  unfold kids
  rw [if_neg n1, if_neg n2, if_neg n3, if_neg n4, if_pos h]
set_option maxRecDepth 100000 in
set_option maxHeartbeats 2000000 in
theorem rKids_any (x : Nd) (w : World) : Calls Tryz.prog 55 #[ndV x] w (KidsPost x w) := by
  obtain ⟨op, a, b, c, n, s⟩ := x
  unfold ndV
  simp only []
  have hB : Below w.heap.size w (w.alloc (.cells #[.int .i64 op, .int .i64 a, .int .i64 b, .int .i64 c, .int .i64 n, .string s] 42)) := (Below.refl _ _).alloc (Nat.le_refl _) _
  have hsz : (w.alloc (.cells #[.int .i64 op, .int .i64 a, .int .i64 b, .int .i64 c, .int .i64 n, .string s] 42)).heap.size = w.heap.size + 1 := by simp
  have row : ∀ l : List Value, Blk ((w.alloc (.cells #[.int .i64 op, .int .i64 a, .int .i64 b, .int .i64 c, .int .i64 n, .string s] 42)).alloc (.cells l.toArray 3)) (w.heap.size + 1) l.toArray 3 ∧ Below w.heap.size w ((w.alloc (.cells #[.int .i64 op, .int .i64 a, .int .i64 b, .int .i64 c, .int .i64 n, .string s] 42)).alloc (.cells l.toArray 3)) := fun l => by
    refine ⟨?_, hB.alloc (by rw [hsz]; omega) _⟩
    have := Blk.new (w.alloc (.cells #[.int .i64 op, .int .i64 a, .int .i64 b, .int .i64 c, .int .i64 n, .string s] 42)) l.toArray 3
    rwa [hsz] at this
  have R3 : Hid _ := row [.int .i64 a, .int .i64 b, .int .i64 c]
  have R2 : Hid _ := row [.int .i64 b, .int .i64 a]
  have R2' : Hid _ := row [.int .i64 a, .int .i64 b]
  have R1 : Hid _ := row [.int .i64 a]
  have HB : Hid _ := hB
  clear row hB hsz
  by_cases h4 : op = 4 ∨ op = 5 ∨ (21 ≤ op ∧ op ≤ 25)
  · have HK : Hid (kids ⟨op, a, b, c, n, s⟩ = [a]) := by show _ = _; exact kids_one h4
    have hor : op = 4 ∨ op = 5 ∨ op = 21 ∨ op = 22 ∨ op = 23 ∨ op = 24 ∨ op = 25 := by omega
    clear h4
    rcases hor with rfl | rfl | rfl | rfl | rfl | rfl | rfl
    all_goals
      go_enter Tryz.func55, Tryz.ntmps55
      go_wp2_with fail
      go_ret
      exact kidsPost_row HK.out rfl (Nat.le_succ _) R1.out.1 R1.out.2
  have f1 : (op == 4) = false := by rw [beq_eq_false_iff_ne]; omega
  have f2 : (op == 5) = false := by rw [beq_eq_false_iff_ne]; omega
  have f3 : (op == 21) = false := by rw [beq_eq_false_iff_ne]; omega
  have f4 : (op == 22) = false := by rw [beq_eq_false_iff_ne]; omega
  have f5 : (op == 23) = false := by rw [beq_eq_false_iff_ne]; omega
  have f6 : (op == 24) = false := by rw [beq_eq_false_iff_ne]; omega
  have f7 : (op == 25) = false := by rw [beq_eq_false_iff_ne]; omega
  by_cases h26 : op = 26
  · have e1 : (op == 26) = true := by simp [h26]
    have HK : Hid (kids ⟨op, a, b, c, n, s⟩ = [a, b, c]) := by show _ = _; unfold kids; rw [if_pos h26]
    clear h26 h4
    go_enter Tryz.func55, Tryz.ntmps55
    go_wp2_with fail
    go_ret
    exact kidsPost_row HK.out rfl (Nat.le_succ _) R3.out.1 R3.out.2
  have e26 : (op == 26) = false := by simp [h26]
  by_cases h27 : op = 27
  · have e27 : (op == 27) = true := by simp [h27]
    have n28 : ¬ op = 28 := by omega
    by_cases ha : a = -1
    · have ea : (a != -1) = false := by simp [ha]
      have HK : Hid (kids ⟨op, a, b, c, n, s⟩ = []) := by show _ = _; unfold kids; rw [if_neg h26, if_neg n28, if_pos h27, if_pos ha]
      clear h26 h4 h27 ha n28
      go_enter Tryz.func55, Tryz.ntmps55
      go_wp2_with fail
      go_ret
      exact kidsPost_nil HK.out HB.out
    · have ea : (a != -1) = true := by simp [ha]
      have HK : Hid (kids ⟨op, a, b, c, n, s⟩ = [a]) := by show _ = _; unfold kids; rw [if_neg h26, if_neg n28, if_pos h27, if_neg ha]
      clear h26 h4 h27 ha n28
      go_enter Tryz.func55, Tryz.ntmps55
      go_wp2_with fail
      go_ret
      exact kidsPost_row HK.out rfl (Nat.le_succ _) R1.out.1 R1.out.2
  have e27 : (op == 27) = false := by simp [h27]
  by_cases h28 : op = 28
  · have e28 : (op == 28) = true := by simp [h28]
    by_cases hb : b = -1
    · have eb : (b != -1) = false := by simp [hb]
      have HK : Hid (kids ⟨op, a, b, c, n, s⟩ = [a]) := by show _ = _; unfold kids; rw [if_neg h26, if_pos h28, if_pos hb]
      clear h26 h4 h27 h28 hb
      go_enter Tryz.func55, Tryz.ntmps55
      go_wp2_with fail
      go_ret
      exact kidsPost_row HK.out rfl (Nat.le_succ _) R1.out.1 R1.out.2
    · have eb : (b != -1) = true := by simp [hb]
      have HK : Hid (kids ⟨op, a, b, c, n, s⟩ = [b, a]) := by show _ = _; unfold kids; rw [if_neg h26, if_pos h28, if_neg hb]
      clear h26 h4 h27 h28 hb
      go_enter Tryz.func55, Tryz.ntmps55
      go_wp2_with fail
      go_ret
      exact kidsPost_row HK.out rfl (Nat.le_succ _) R2.out.1 R2.out.2
  have e28 : (op == 28) = false := by simp [h28]
  by_cases h6 : 6 ≤ op ∧ op ≤ 20
  · have HK : Hid (kids ⟨op, a, b, c, n, s⟩ = [a, b]) := by show _ = _; unfold kids; rw [if_neg h26, if_neg h28, if_neg h27, if_pos h6]
    obtain ⟨g1, g2⟩ := h6
    clear h26 h28 h27 h4
    go_enter Tryz.func55, Tryz.ntmps55
    go_wp2_with fail
    go_ret
    exact kidsPost_row HK.out rfl (Nat.le_succ _) R2'.out.1 R2'.out.2
  · have HK : Hid (kids ⟨op, a, b, c, n, s⟩ = []) := by show _ = _; unfold kids; rw [if_neg h26, if_neg h28, if_neg h27, if_neg h6, if_neg h4]
    have hor : ¬ (6 : Int) ≤ op ∨ ((6 : Int) ≤ op ∧ ¬ op ≤ 20) := by omega
    clear h26 h28 h27 h6 h4
    rcases hor with g1 | ⟨g1, g2⟩
    all_goals
      go_enter Tryz.func55, Tryz.ntmps55
      go_wp2_with fail
      go_ret
      exact kidsPost_nil HK.out HB.out
theorem ints_at {w : World} {v : Value} {l : List Int} (hv : Sl intC 1 w v l) : ∃ a c, v = .slice a l.length c ∧ l.length ≤ c ∧ ∀ W, Below w.heap.size w W → ∀ (i : Nat) (y : Int), l[i]? = some y → ∃ b o, a = some ⟨b, o, none⟩ ∧ b < w.heap.size ∧ W.cell? ⟨b, o + i, none⟩ = some (.int .i64 y) := by
  obtain ⟨a, c, rfl, hc, hx⟩ := hv.form
  refine ⟨a, c, rfl, hc, fun W hW i y hi => ?_⟩
  obtain ⟨b, o, rfl, g⟩ := hx W hW i y hi
  obtain ⟨b', o', h', g'⟩ := hx w (Below.refl _ _) i y hi
  cases h'
  refine ⟨b, o, rfl, World.block_lt_of_cell? w _ (g' 0 _ rfl), ?_⟩
  have := g 0 _ rfl
  simpa using this
set_option maxRecDepth 100000 in
set_option maxHeartbeats 2000000 in
theorem aim_any (x : Nd) (l : List Int) (h3 : l.length ≤ 3) (v : Value) (w : World) (hv : Sl intC 1 w v l) : Calls Tryz.prog 56 #[ndV x, v] w (WithPost x l w) := by
  obtain ⟨a, c, rfl, hc, hx⟩ := ints_at hv
  obtain ⟨zr, hzr⟩ : ∃ zr, zr = #[Value.int .i64 0, .int .i64 0, .int .i64 0, .int .i64 0, .int .i64 0, .string ⟨#[]⟩] := ⟨_, rfl⟩
  obtain ⟨op, xa, xb, xc, xn, xs⟩ := x
  have HS : ∀ A Z : Array Value, Below w.heap.size w ((w.alloc (.cells A 42)).alloc (.cells Z 42)) := fun A Z => ((Below.refl _ _).alloc (Nat.le_refl _) _).alloc (by simp) _
  unfold ndV
  simp only []
  match l, h3 with
  | [], _ =>
    clear hx hv
    by_cases h28 : op = 28
    · have e28 : (op == 28) = true := by simp [h28]
      clear h28
      go_enter Tryz.func56, Tryz.ntmps56
      go_wp2_with fail
      exact bodyPost_ret (v := .agg #[.int .i64 op, .int .i64 xa, .int .i64 xb, .int .i64 xc, .int .i64 xn, .string xs]) (by simp [results, Tryz.results56, go_sem]) rfl ⟨rfl, HS _ _⟩
    · have e28 : (op == 28) = false := by simp [h28]
      clear h28
      go_enter Tryz.func56, Tryz.ntmps56
      go_wp2_with fail
      exact bodyPost_ret (v := .agg #[.int .i64 op, .int .i64 xa, .int .i64 xb, .int .i64 xc, .int .i64 xn, .string xs]) (by simp [results, Tryz.results56, go_sem]) rfl ⟨rfl, HS _ _⟩
  | [p], _ =>
    have B2 := fun A => HS A zr
    subst hzr
    obtain ⟨b0, o0, rfl, hlt, c0⟩ := hx _ (B2 #[.int .i64 op, .int .i64 xa, .int .i64 xb, .int .i64 xc, .int .i64 xn, .string xs]) 0 p rfl
    simp only [Nat.add_zero] at c0
    have HS2 := Lib.hid HS
    clear hx hlt B2 HS hc hv
    by_cases h28 : op = 28
    · have e28 : (op == 28) = true := by simp [h28]
      have HA : Hid (Tx.aim ⟨op, xa, xb, xc, xn, xs⟩ [p] = ⟨op, p, xb, xc, xn, xs⟩) := by show _ = _; simp [Tx.aim]
      clear h28
      go_enter Tryz.func56, Tryz.ntmps56
      go_wp2_with fail
      exact bodyPost_ret (v := .agg #[.int .i64 op, .int .i64 p, .int .i64 xb, .int .i64 xc, .int .i64 xn, .string xs]) (by simp [results, Tryz.results56, go_sem]) rfl ⟨by rw [HA.out], HS2.out _ _⟩
    · have e28 : (op == 28) = false := by simp [h28]
      have HA : Hid (Tx.aim ⟨op, xa, xb, xc, xn, xs⟩ [p] = ⟨op, p, xb, xc, xn, xs⟩) := by show _ = _; simp [Tx.aim]
      clear h28
      go_enter Tryz.func56, Tryz.ntmps56
      go_wp2_with fail
      exact bodyPost_ret (v := .agg #[.int .i64 op, .int .i64 p, .int .i64 xb, .int .i64 xc, .int .i64 xn, .string xs]) (by simp [results, Tryz.results56, go_sem]) rfl ⟨by rw [HA.out], HS2.out _ _⟩
  | [p, q], _ =>
    have B2 := fun A => HS A zr
    subst hzr
    obtain ⟨b0, o0, rfl, hlt, c0⟩ := hx _ (B2 #[.int .i64 op, .int .i64 xa, .int .i64 xb, .int .i64 xc, .int .i64 xn, .string xs]) 0 p rfl
    obtain ⟨b1, o1, hab, _, c1⟩ := hx _ (B2 #[.int .i64 op, .int .i64 xa, .int .i64 p, .int .i64 xc, .int .i64 xn, .string xs]) 1 q rfl
    cases hab
    obtain ⟨b1, o1, hab, _, c1'⟩ := hx _ (B2 #[.int .i64 op, .int .i64 p, .int .i64 xb, .int .i64 xc, .int .i64 xn, .string xs]) 1 q rfl
    cases hab
    simp only [Nat.add_zero] at c0
    have HS2 := Lib.hid HS
    clear hx hlt B2 HS hc hv
    by_cases h28 : op = 28
    · have e28 : (op == 28) = true := by simp [h28]
      have HA : Hid (Tx.aim ⟨op, xa, xb, xc, xn, xs⟩ [p, q] = ⟨op, q, p, xc, xn, xs⟩) := by show _ = _; simp [Tx.aim, h28]
      clear h28
      go_enter Tryz.func56, Tryz.ntmps56
      go_wp2_with fail
      exact bodyPost_ret (v := .agg #[.int .i64 op, .int .i64 q, .int .i64 p, .int .i64 xc, .int .i64 xn, .string xs]) (by simp [results, Tryz.results56, go_sem]) rfl ⟨by rw [HA.out], HS2.out _ _⟩
    · have e28 : (op == 28) = false := by simp [h28]
      have HA : Hid (Tx.aim ⟨op, xa, xb, xc, xn, xs⟩ [p, q] = ⟨op, p, q, xc, xn, xs⟩) := by show _ = _; simp [Tx.aim, h28]
      clear h28
      go_enter Tryz.func56, Tryz.ntmps56
      go_wp2_with fail
      exact bodyPost_ret (v := .agg #[.int .i64 op, .int .i64 p, .int .i64 q, .int .i64 xc, .int .i64 xn, .string xs]) (by simp [results, Tryz.results56, go_sem]) rfl ⟨by rw [HA.out], HS2.out _ _⟩
  | [p, q, r], _ =>
    have B2 := fun A => HS A zr
    subst hzr
    obtain ⟨b0, o0, rfl, hlt, c0⟩ := hx _ (B2 #[.int .i64 op, .int .i64 xa, .int .i64 xb, .int .i64 xc, .int .i64 xn, .string xs]) 0 p rfl
    obtain ⟨b1, o1, hab, _, c1⟩ := hx _ (B2 #[.int .i64 op, .int .i64 p, .int .i64 xb, .int .i64 xc, .int .i64 xn, .string xs]) 1 q rfl
    cases hab
    obtain ⟨b1, o1, hab, _, c2⟩ := hx _ (B2 #[.int .i64 op, .int .i64 p, .int .i64 q, .int .i64 xc, .int .i64 xn, .string xs]) 2 r rfl
    cases hab
    simp only [Nat.add_zero] at c0
    have HS2 := Lib.hid HS
    clear hx hlt B2 HS hc hv
    by_cases h28 : op = 28
    · have e28 : (op == 28) = true := by simp [h28]
      have HA : Hid (Tx.aim ⟨op, xa, xb, xc, xn, xs⟩ [p, q, r] = ⟨op, p, q, r, xn, xs⟩) := by show _ = _; simp [Tx.aim]
      clear h28
      go_enter Tryz.func56, Tryz.ntmps56
      go_wp2_with fail
      exact bodyPost_ret (v := .agg #[.int .i64 op, .int .i64 p, .int .i64 q, .int .i64 r, .int .i64 xn, .string xs]) (by simp [results, Tryz.results56, go_sem]) rfl ⟨by rw [HA.out], HS2.out _ _⟩
    · have e28 : (op == 28) = false := by simp [h28]
      have HA : Hid (Tx.aim ⟨op, xa, xb, xc, xn, xs⟩ [p, q, r] = ⟨op, p, q, r, xn, xs⟩) := by show _ = _; simp [Tx.aim]
      clear h28
      go_enter Tryz.func56, Tryz.ntmps56
      go_wp2_with fail
      exact bodyPost_ret (v := .agg #[.int .i64 op, .int .i64 p, .int .i64 q, .int .i64 r, .int .i64 xn, .string xs]) (by simp [results, Tryz.results56, go_sem]) rfl ⟨by rw [HA.out], HS2.out _ _⟩
end Go.Proofs.YtjnpkdpljmkpiaaGreatDoor
