/- The program's reader of expressions: an operand: some of its ways: the walk. (Printed by gen/expop.py.) -/
import Derived.Test.YtahalimekacliaaGreatDoorJ17
set_option linter.unusedVariables false
set_option linter.unusedSimpArgs false
namespace Go.Proofs.YtahalimekacliaaGreatDoor
open Go.RowKit Go.Shelf Tx Px
section
variable {L : List Tok} {a : Option Addr} {cc rb lb pb : Nat} {w0 : World}
set_option maxRecDepth 100000 in
set_option maxHeartbeats 16000000 in
theorem operand_nameleaf {ms : Nat → Nat} (EX : Hid (EnvX w0 rb a cc L lb pb ms)) (g : Nat) (IH : Hid (∀ g', g' < g + 1 → BnOk w0 rb a cc L lb pb g' ∧ OnOk w0 rb a cc L lb pb g')) (I o : Nat) (x : Tok) (r : Res) (w : World) (hx : L[I]? = some x) (ho : o < 200) (hk : x.k = 1) (hl : isT L (I + 1) tLpar = false) (hP : one (node 3 0 x.t .no) (I + 1) = some r) (hB : Al rb w0 w) (hR : RE rb a cc L lb pb w I o 0 0) :
    Calls Tryz.prog 121 #[.pointer (some ⟨rb, 0, none⟩)] w (RPost (RE rb a cc L lb pb) rb o w r) := by
  have Qhk := Lib.hid hk
  have Qhl := Lib.hid hl
  have QhP := Lib.hid hP
  clear hk hl hP
  have hL := EX.out.ev.len
  have EV : Hid (EnvOk w0 rb a cc L) := EX.out.ev
  have hlt := hR.lt
  obtain ⟨xb, hxb⟩ : ∃ xb, xb = w.heap.size := ⟨_, rfl⟩
  have HXB := Lib.hid hxb
  obtain ⟨W0, hW0⟩ : ∃ W0, W0 = w.alloc (.cells #[.pointer (some ⟨rb, 0, none⟩)] 132) := ⟨_, rfl⟩
  have hb0 : Below w.heap.size w W0 := by rw [hW0]; exact (Below.refl _ _).alloc (Nat.le_refl _) _
  have hbx : Blk W0 xb #[.pointer (some ⟨rb, 0, none⟩)] 132 := by rw [hW0, hxb]; exact Blk.new w _ _
  have hR0 := hR.below hb0
  have hA0 : Al rb w W0 := Al.of hb0
  have hok := eok_any I o 0 0 _ _ hR0
  have HW0 := Lib.hid hW0
  have HB := Lib.hid hB
  have HBX := Lib.hid hbx
  have HR0 := Lib.hid hR0
  have HA0 := Lib.hid hA0
  have hxr : xb ≠ rb := by omega
  rw [hxb.symm] at hlt
  clear hB hR hb0 hR0 hA0 hxb hW0
  obtain ⟨c0, c1, c2, c3, c4, c5, c6⟩ := HR0.out.cells
  obtain ⟨f0, f1, f2, f3, f4⟩ := HR0.out.free
  have b0 := (one_cell hbx).1
  clear hbx
  have hmf : ∀ (fn : Fn) (first cap : Array Value) (w : World), (Instr.makeFunc fn first cap).run Tryz.prog w = .ok (.func fn first cap) w := fun _ _ _ _ => rfl
  go_enter_defers Tryz.func121, Tryz.ntmps121
  go_wp2_with fail
  rw [← HXB.out, ← HW0.out]
  refine hok.mono ?_
  rintro e w3 ⟨rfl, rfl⟩
  clear hok
  have ho1 : (o : Int) < 200 := by omega
  have hil : I < L.length := (List.getElem?_eq_some_iff.1 hx).1
  have hl1 : (I : Int) < (L.length : Int) := by omega
  have hi0 : (0 : Int) ≤ (I : Int) := by omega
  have hd1 : decide (L.length ≤ I) = false := by simp; omega
  have HX := Lib.hid hx
  clear hx
  go_wp2_with fail
  go_quiet (fail)
  obtain ⟨W1, hW1⟩ : ∃ W1, W1 = w3.drewN nq := ⟨_, rfl⟩
  have hR1 : RE rb a cc L lb pb W1 I o 0 0 := by rw [hW1]; exact HR0.out.drewN nq
  have hbx1 : Blk W1 xb #[.pointer (some ⟨rb, 0, none⟩)] 132 := by rw [hW1]; exact HBX.out
  have HA1 : Hid (Al rb w W1) := by show Al _ _ _; rw [hW1]; exact HA0.out.drewN nq
  rw [← hW1]
  clear hW1 c0 c1 c2 c3 c4 c5 c6 f0 f1 f2 f3 f4 b0
  obtain ⟨c0, c1, c2, c3, c4, c5, c6⟩ := hR1.cells
  obtain ⟨f0, f1, f2, f3, f4⟩ := hR1.free
  have b0 := (one_cell hbx1).1
  obtain ⟨W2, hW2⟩ : ∃ W2, W2 = W1.setCell ⟨rb, 2, none⟩ (.int .i64 ((o : Int) + 1)) := ⟨_, rfl⟩
  have hR2 : RE rb a cc L lb pb W2 I ((o + 1 : Nat) : Int) 0 0 := by rw [hW2]; exact hR1.setO _
  have hbx2 : Blk W2 xb #[.pointer (some ⟨rb, 0, none⟩)] 132 := by rw [hW2]; exact hbx1.other 2 hxr _
  have HA2 : Hid (Al rb w W2) := by show Al _ _ _; rw [hW2]; exact HA1.out.set _ _
  have HW2 := Lib.hid hW2
  have HR2 := Lib.hid hR2
  have HBX2 := Lib.hid hbx2
  clear hW2 hR1 hbx1 hR2 hbx2
  go_upto_region 9 with fail
  rw [← HW2.out]
  clear c0 c1 c2 c3 c4 c5 c6 f0 f1 f2 f3 f4 b0
  obtain ⟨c0, c1, c2, c3, c4, c5, c6⟩ := HR2.out.cells
  have b0 := (one_cell HBX2.out).1
  obtain ⟨tb0, q0, ha, d0, d1, d2⟩ := EV.out.tok W2 (HB.out.next HA2.out) I x HX.out
  have HAA := Lib.hid ha
  rw [ha] at c0
  clear ha
  obtain ⟨tn, htn⟩ : ∃ tn, tn = W2.heap.size := ⟨_, rfl⟩
  have hbn : Below W2.heap.size W2 (W2.alloc (.cells #[.int .i64 0, .string ⟨#[]⟩, .int .i64 0] 47)) := (Below.refl _ _).alloc (Nat.le_refl _) _
  have l1 : rb < W2.heap.size := World.block_lt_of_cell? W2 _ c0
  have l2 : tb0 < W2.heap.size := World.block_lt_of_cell? W2 _ d0
  have l3 : xb < W2.heap.size := World.block_lt_of_cell? W2 _ b0
  have e1 : rb ≠ W2.heap.size := by omega
  have e2 : tb0 ≠ W2.heap.size := by omega
  have e3 : xb ≠ W2.heap.size := by omega
  have n0 := (hbn.cell (p := ⟨rb, 0, none⟩) l1).trans c0
  have n1 := (hbn.cell (p := ⟨rb, 1, none⟩) l1).trans c1
  have n2 := (hbn.cell (p := ⟨tb0, q0 + I * 3, none⟩) l2).trans d0
  have n3 := (hbn.cell (p := ⟨tb0, q0 + I * 3 + 1, none⟩) l2).trans d1
  have n4 := (hbn.cell (p := ⟨tb0, q0 + I * 3 + 2, none⟩) l2).trans d2
  have n5 := (hbn.cell (p := ⟨xb, 0, none⟩) l3).trans b0
  clear hbn c2 c3 c4 c5 c6
  go_region
  obtain ⟨W3, hW3⟩ : ∃ W3, W3 = (W2.alloc (.cells #[.int .i64 (x.k : Nat), .string x.t, .int .i64 (x.p : Nat)] 47)).drew := ⟨_, rfl⟩
  have hb3 : Below W2.heap.size W2 W3 := by rw [hW3]; exact ((Below.refl _ _).alloc (Nat.le_refl _) _).drew
  have HR3 : Hid (RE rb a cc L lb pb W3 I ((o + 1 : Nat) : Int) 0 0) := HR2.out.below hb3
  have HK3 : Hid (Kp w0 w rb xb tn x W3) := by
    refine ⟨HA2.out.then hb3, HBX2.out.below hb3, ?_, by rw [HXB.out]; exact Nat.le_refl _, by rw [htn]; exact HA2.out.size, by rw [← HXB.out]; exact hlt⟩
    rw [hW3, htn]; exact Blk.new W2 _ _
  rw [← htn, ← hW3]
  clear hb3 hW3 htn n0 n1 n2 n3 n4 n5 l1 l2 l3 e1 e2 e3 c0 c1 b0 d0 d1 d2 HAA HR2 HBX2 HW2 HA2 HA1 HR0 HBX HA0 HW0 hd1
  obtain ⟨t0, t1, t2⟩ := HK3.out.cells
  obtain ⟨c0, c1, c2, c3, c4, c5, c6⟩ := HR3.out.cells
  obtain ⟨f0, f1, f2, f3, f4⟩ := HR3.out.free
  have ho5 : (-1000 : Int) ≤ ((o + 1 : Nat) : Int) ∧ ((o + 1 : Nat) : Int) ≤ 1000 := by omega
  have HO5 := Lib.hid ho5
  have HHI : Hid (I + 1 ≤ 100001) := by show _ ≤ _; omega
  clear ho5
  have htr : tn ≠ rb := by have := HK3.out.tb; have := HK3.out.rb; omega
  have HTN : Hid (∀ W, Kp w0 w rb xb tn x W → W.cell? ⟨xb, 0, none⟩ = some (.pointer (some ⟨rb, 0, none⟩))) := fun W h => h.cells.1
  have hk := Qhk.out
  have hl := Qhl.out
  have hP := QhP.out
  clear Qhk Qhl QhP
  rw [hk] at t1
  have t1' : W3.cell? ⟨tn, 0, none⟩ = some (.int .i64 1) := t1
  have htn := (EV.out.ok x (List.mem_of_getElem? HX.out)).name hk
  have HNE := Lib.hid htn
  have HL := Lib.hid hl
  have HP := Lib.hid (one_some hP)
  clear hl
  clear hk t1 hP htn
  obtain ⟨w20, hw20⟩ : ∃ w20, w20 = W3.setCell ⟨rb, 1, none⟩ (.int .i64 ((I : Int) + 1)) := ⟨_, rfl⟩
  have R20 : Hid (RE rb a cc L lb pb w20 ((I + 1 : Nat) : Int) ((o + 1 : Nat) : Int) 0 0) := by show Re _ _ _ _ _ _ _ _ _; rw [hw20]; exact HR3.out.setI _
  have K20 : Hid (Kp w0 w rb xb tn x w20) := by show Kp _ _ _ _ _ _ _; rw [hw20]; exact HK3.out.next ((Al.refl _ _).set _ _)
  have HW20 := Lib.hid hw20
  clear hw20
  have hj := e4take_no EV (I + 1) (by omega) ((o + 1 : Nat) : Int) 0 0 ⟨#[40]⟩ (Or.inl HL.out) w20 (HB.out.next K20.out.al) R20.out
  go_wp2_with fail
  rw [← HW20.out]
  with_reducible refine hj.mono ?_
  rintro e w11 ⟨rfl, hb11⟩
  have R11 := Lib.hid (R20.out.below hb11)
  have K11 : Hid (Kp w0 w rb xb tn x w11) := K20.out.next (Al.of hb11)
  clear hj hb11
  clear t0 t1' t2 c0 c1 c2 c3 c4 c5 c6 f0 f1 f2 f3 f4
  obtain ⟨bx, -, tx⟩ := K11.out.cells
  have hj := eleaf 3 0 x.t (Or.inr (Or.inr rfl)) _ _ _ _ w11 R11.out
  go_wp2_with fail
  with_reducible refine hj.mono ?_
  rintro e w6 ⟨v6, rfl, ho6, hb6⟩
  have HR6 := Lib.hid (R11.out.below hb6)
  have HK6 : Hid (Kp w0 w rb xb tn x w6) := K11.out.next (Al.of hb6)
  have HO6 : Hid (OwnE w.heap.size w6 v6 _) := ho6.mono K11.out.al.size
  obtain ⟨va, vc, rfl, -⟩ := ho6.form
  clear hj ho6 hb6 bx tx
  go_wp2_with fail
  refine leaves_cons (f := 127) (args := #[.pointer (some ⟨xb, 0, none⟩)]) (by simp) (by simp [go_sem]) ?_
  refine (odefer_any .returning _ xb _ ((o + 1 : Nat) : Int) _ _ _ HK6.out.cells.1 HR6.out HO5.out).mono ?_
  rintro e u' w'' ⟨rfl, rfl, rfl⟩
  refine ⟨_, results_tmp rfl _ _ _, ?_⟩
  rw [HP.out]
  exact door_ok HK6.out HR6.out HO6.out
set_option maxRecDepth 100000 in
set_option maxHeartbeats 16000000 in
theorem operand_namecallnone {ms : Nat → Nat} (EX : Hid (EnvX w0 rb a cc L lb pb ms)) (g : Nat) (IH : Hid (∀ g', g' < g + 1 → BnOk w0 rb a cc L lb pb g' ∧ OnOk w0 rb a cc L lb pb g')) (I o : Nat) (x : Tok) (r : Res) (w : World) (hx : L[I]? = some x) (ho : o < 200) (hk : x.k = 1) (hl : isT L (I + 1) tLpar = true) (ha2 : isT L (I + 2) tRpar = true) (hP : r = .ok ([joinF 27 0 x.t []], I + 3)) (hB : Al rb w0 w) (hR : RE rb a cc L lb pb w I o 0 0) :
    Calls Tryz.prog 121 #[.pointer (some ⟨rb, 0, none⟩)] w (RPost (RE rb a cc L lb pb) rb o w r) := by
  have Qhk := Lib.hid hk
  have Qhl := Lib.hid hl
  have Qha2 := Lib.hid ha2
  have QhP := Lib.hid hP
  clear hk hl ha2 hP
  have hL := EX.out.ev.len
  have EV : Hid (EnvOk w0 rb a cc L) := EX.out.ev
  have hlt := hR.lt
  obtain ⟨xb, hxb⟩ : ∃ xb, xb = w.heap.size := ⟨_, rfl⟩
  have HXB := Lib.hid hxb
  obtain ⟨W0, hW0⟩ : ∃ W0, W0 = w.alloc (.cells #[.pointer (some ⟨rb, 0, none⟩)] 132) := ⟨_, rfl⟩
  have hb0 : Below w.heap.size w W0 := by rw [hW0]; exact (Below.refl _ _).alloc (Nat.le_refl _) _
  have hbx : Blk W0 xb #[.pointer (some ⟨rb, 0, none⟩)] 132 := by rw [hW0, hxb]; exact Blk.new w _ _
  have hR0 := hR.below hb0
  have hA0 : Al rb w W0 := Al.of hb0
  have hok := eok_any I o 0 0 _ _ hR0
  have HW0 := Lib.hid hW0
  have HB := Lib.hid hB
  have HBX := Lib.hid hbx
  have HR0 := Lib.hid hR0
  have HA0 := Lib.hid hA0
  have hxr : xb ≠ rb := by omega
  rw [hxb.symm] at hlt
  clear hB hR hb0 hR0 hA0 hxb hW0
  obtain ⟨c0, c1, c2, c3, c4, c5, c6⟩ := HR0.out.cells
  obtain ⟨f0, f1, f2, f3, f4⟩ := HR0.out.free
  have b0 := (one_cell hbx).1
  clear hbx
  have hmf : ∀ (fn : Fn) (first cap : Array Value) (w : World), (Instr.makeFunc fn first cap).run Tryz.prog w = .ok (.func fn first cap) w := fun _ _ _ _ => rfl
  go_enter_defers Tryz.func121, Tryz.ntmps121
  go_wp2_with fail
  rw [← HXB.out, ← HW0.out]
  refine hok.mono ?_
  rintro e w3 ⟨rfl, rfl⟩
  clear hok
  have ho1 : (o : Int) < 200 := by omega
  have hil : I < L.length := (List.getElem?_eq_some_iff.1 hx).1
  have hl1 : (I : Int) < (L.length : Int) := by omega
  have hi0 : (0 : Int) ≤ (I : Int) := by omega
  have hd1 : decide (L.length ≤ I) = false := by simp; omega
  have HX := Lib.hid hx
  clear hx
  go_wp2_with fail
  go_quiet (fail)
  obtain ⟨W1, hW1⟩ : ∃ W1, W1 = w3.drewN nq := ⟨_, rfl⟩
  have hR1 : RE rb a cc L lb pb W1 I o 0 0 := by rw [hW1]; exact HR0.out.drewN nq
  have hbx1 : Blk W1 xb #[.pointer (some ⟨rb, 0, none⟩)] 132 := by rw [hW1]; exact HBX.out
  have HA1 : Hid (Al rb w W1) := by show Al _ _ _; rw [hW1]; exact HA0.out.drewN nq
  rw [← hW1]
  clear hW1 c0 c1 c2 c3 c4 c5 c6 f0 f1 f2 f3 f4 b0
  obtain ⟨c0, c1, c2, c3, c4, c5, c6⟩ := hR1.cells
  obtain ⟨f0, f1, f2, f3, f4⟩ := hR1.free
  have b0 := (one_cell hbx1).1
  obtain ⟨W2, hW2⟩ : ∃ W2, W2 = W1.setCell ⟨rb, 2, none⟩ (.int .i64 ((o : Int) + 1)) := ⟨_, rfl⟩
  have hR2 : RE rb a cc L lb pb W2 I ((o + 1 : Nat) : Int) 0 0 := by rw [hW2]; exact hR1.setO _
  have hbx2 : Blk W2 xb #[.pointer (some ⟨rb, 0, none⟩)] 132 := by rw [hW2]; exact hbx1.other 2 hxr _
  have HA2 : Hid (Al rb w W2) := by show Al _ _ _; rw [hW2]; exact HA1.out.set _ _
  have HW2 := Lib.hid hW2
  have HR2 := Lib.hid hR2
  have HBX2 := Lib.hid hbx2
  clear hW2 hR1 hbx1 hR2 hbx2
  go_upto_region 9 with fail
  rw [← HW2.out]
  clear c0 c1 c2 c3 c4 c5 c6 f0 f1 f2 f3 f4 b0
  obtain ⟨c0, c1, c2, c3, c4, c5, c6⟩ := HR2.out.cells
  have b0 := (one_cell HBX2.out).1
  obtain ⟨tb0, q0, ha, d0, d1, d2⟩ := EV.out.tok W2 (HB.out.next HA2.out) I x HX.out
  have HAA := Lib.hid ha
  rw [ha] at c0
  clear ha
  obtain ⟨tn, htn⟩ : ∃ tn, tn = W2.heap.size := ⟨_, rfl⟩
  have hbn : Below W2.heap.size W2 (W2.alloc (.cells #[.int .i64 0, .string ⟨#[]⟩, .int .i64 0] 47)) := (Below.refl _ _).alloc (Nat.le_refl _) _
  have l1 : rb < W2.heap.size := World.block_lt_of_cell? W2 _ c0
  have l2 : tb0 < W2.heap.size := World.block_lt_of_cell? W2 _ d0
  have l3 : xb < W2.heap.size := World.block_lt_of_cell? W2 _ b0
  have e1 : rb ≠ W2.heap.size := by omega
  have e2 : tb0 ≠ W2.heap.size := by omega
  have e3 : xb ≠ W2.heap.size := by omega
  have n0 := (hbn.cell (p := ⟨rb, 0, none⟩) l1).trans c0
  have n1 := (hbn.cell (p := ⟨rb, 1, none⟩) l1).trans c1
  have n2 := (hbn.cell (p := ⟨tb0, q0 + I * 3, none⟩) l2).trans d0
  have n3 := (hbn.cell (p := ⟨tb0, q0 + I * 3 + 1, none⟩) l2).trans d1
  have n4 := (hbn.cell (p := ⟨tb0, q0 + I * 3 + 2, none⟩) l2).trans d2
  have n5 := (hbn.cell (p := ⟨xb, 0, none⟩) l3).trans b0
  clear hbn c2 c3 c4 c5 c6
  go_region
  obtain ⟨W3, hW3⟩ : ∃ W3, W3 = (W2.alloc (.cells #[.int .i64 (x.k : Nat), .string x.t, .int .i64 (x.p : Nat)] 47)).drew := ⟨_, rfl⟩
  have hb3 : Below W2.heap.size W2 W3 := by rw [hW3]; exact ((Below.refl _ _).alloc (Nat.le_refl _) _).drew
  have HR3 : Hid (RE rb a cc L lb pb W3 I ((o + 1 : Nat) : Int) 0 0) := HR2.out.below hb3
  have HK3 : Hid (Kp w0 w rb xb tn x W3) := by
    refine ⟨HA2.out.then hb3, HBX2.out.below hb3, ?_, by rw [HXB.out]; exact Nat.le_refl _, by rw [htn]; exact HA2.out.size, by rw [← HXB.out]; exact hlt⟩
    rw [hW3, htn]; exact Blk.new W2 _ _
  rw [← htn, ← hW3]
  clear hb3 hW3 htn n0 n1 n2 n3 n4 n5 l1 l2 l3 e1 e2 e3 c0 c1 b0 d0 d1 d2 HAA HR2 HBX2 HW2 HA2 HA1 HR0 HBX HA0 HW0 hd1
  obtain ⟨t0, t1, t2⟩ := HK3.out.cells
  obtain ⟨c0, c1, c2, c3, c4, c5, c6⟩ := HR3.out.cells
  obtain ⟨f0, f1, f2, f3, f4⟩ := HR3.out.free
  have ho5 : (-1000 : Int) ≤ ((o + 1 : Nat) : Int) ∧ ((o + 1 : Nat) : Int) ≤ 1000 := by omega
  have HO5 := Lib.hid ho5
  have HHI : Hid (I + 1 ≤ 100001) := by show _ ≤ _; omega
  clear ho5
  have htr : tn ≠ rb := by have := HK3.out.tb; have := HK3.out.rb; omega
  have HTN : Hid (∀ W, Kp w0 w rb xb tn x W → W.cell? ⟨xb, 0, none⟩ = some (.pointer (some ⟨rb, 0, none⟩))) := fun W h => h.cells.1
  have hk := Qhk.out
  have hl := Qhl.out
  have ha2 := Qha2.out
  have hP := QhP.out
  clear Qhk Qhl Qha2 QhP
  rw [hk] at t1
  have t1' : W3.cell? ⟨tn, 0, none⟩ = some (.int .i64 1) := t1
  have htn := (EV.out.ok x (List.mem_of_getElem? HX.out)).name hk
  have HNE := Lib.hid htn
  have HL := Lib.hid hl
  have HA2 := Lib.hid ha2
  have HP := Lib.hid hP
  clear hl ha2
  clear hk t1 hP htn
  obtain ⟨w20, hw20⟩ : ∃ w20, w20 = W3.setCell ⟨rb, 1, none⟩ (.int .i64 ((I : Int) + 1)) := ⟨_, rfl⟩
  have R20 : Hid (RE rb a cc L lb pb w20 ((I + 1 : Nat) : Int) ((o + 1 : Nat) : Int) 0 0) := by show Re _ _ _ _ _ _ _ _ _; rw [hw20]; exact HR3.out.setI _
  have K20 : Hid (Kp w0 w rb xb tn x w20) := by show Kp _ _ _ _ _ _ _; rw [hw20]; exact HK3.out.next ((Al.refl _ _).set _ _)
  have HW20 := Lib.hid hw20
  clear hw20
  have hj := e4take_yes EV (I + 1) (by omega) ((o + 1 : Nat) : Int) 0 ⟨#[40]⟩ (HL.out) w20 (HB.out.next K20.out.al) R20.out
  go_wp2_with fail
  rw [← HW20.out]
  with_reducible refine hj.mono ?_
  rintro e w11 ⟨rfl, hR11, hA11⟩
  have R11 : Hid (RE rb a cc L lb pb w11 ((I + 2 : Nat) : Int) ((o + 1 : Nat) : Int) 0 0) := hR11
  have K11 : Hid (Kp w0 w rb xb tn x w11) := K20.out.next hA11
  clear hj hR11 hA11
  clear t0 t1' t2 c0 c1 c2 c3 c4 c5 c6 f0 f1 f2 f3 f4
  have bx := K11.out.cells.1
  go_upto_region 19 with fail
  clear bx
  have KB0 : w11.cell? ⟨xb, 0, none⟩ = some (.pointer (some ⟨rb, 0, none⟩)) ∧ w11.cell? ⟨tn, 1, none⟩ = some (.string x.t) := ⟨K11.out.cells.1, K11.out.cells.2.2⟩
  have KB1 : w11.drew.cell? ⟨xb, 0, none⟩ = some (.pointer (some ⟨rb, 0, none⟩)) ∧ w11.drew.cell? ⟨tn, 1, none⟩ = some (.string x.t) := KB0
  have KD : Hid (Kp w0 w rb xb tn x w11.drew) := K11.out.next ((Al.refl _ _).drew)
  have RD : Hid (RE rb a cc L lb pb w11.drew ((I + 2 : Nat) : Int) ((o + 1 : Nat) : Int) 0 0) := R11.out.drew
  have hop := eargs_none EV (I + 2) (o + 1) w11.drew HA2.out (HB.out.next KD.out.al) RD.out
  go_region_held3 (fun w' => w'.cell? ⟨xb, 0, none⟩ = some (.pointer (some ⟨rb, 0, none⟩)) ∧ w'.cell? ⟨tn, 1, none⟩ = some (.string x.t)) (first | exact KB4 | exact KB3 | exact KB2 | exact KB1 | exact KB0) ((first | (go_at_call 123; (with_reducible refine hjn.mono ?_); rintro e w52 ⟨v52, rfl, ho52, hb52⟩; obtain ⟨va52, vc52, rfl, -⟩ := ho52.form; have KB4 : w52.cell? ⟨xb, 0, none⟩ = some (.pointer (some ⟨rb, 0, none⟩)) ∧ w52.cell? ⟨tn, 1, none⟩ = some (.string x.t) := ⟨(K51.out.next (Al.of hb52)).cells.1, (K51.out.next (Al.of hb52)).cells.2.2⟩) | (go_at_call 129; (with_reducible refine hop.mono ?_); rintro e w51 ⟨rfl, hR51, hA51⟩; have K51 : Hid (Kp w0 w rb xb tn x w51) := KD.out.next hA51; have KB2 : w51.cell? ⟨xb, 0, none⟩ = some (.pointer (some ⟨rb, 0, none⟩)) ∧ w51.cell? ⟨tn, 1, none⟩ = some (.string x.t) := ⟨K51.out.cells.1, K51.out.cells.2.2⟩; have hjn := ejoin_ok _ ((o + 1 : Nat) : Int) 0 _ 27 0 x.t [] (.slice none 0 0) w51 hR51 Sg.nil_ (fun F hF => by (simp at hF)) (by (simp [cat, Fo.size])) (by omega) (fun h => absurd rfl h))))
  have HR6 : Hid (RE rb a cc L lb pb w52 ((I + 3 : Nat) : Int) ((o + 1 : Nat) : Int) 0 0) := hR51.below hb52
  have HK6 : Hid (Kp w0 w rb xb tn x w52) := K51.out.next (Al.of hb52)
  have HO6 := Lib.hid (ho52.mono (show w.heap.size ≤ _ from K51.out.al.size))
  clear hop hjn KB0 KB1 KB2 KB4 hA51 hR51 hb52 ho52
  go_wp2_with fail
  refine leaves_cons (f := 127) (args := #[.pointer (some ⟨xb, 0, none⟩)]) (by simp) (by simp [go_sem]) ?_
  refine (odefer_any .returning _ xb _ ((o + 1 : Nat) : Int) _ _ _ HK6.out.cells.1 HR6.out HO5.out).mono ?_
  rintro e u' w'' ⟨rfl, rfl, rfl⟩
  refine ⟨_, results_tmp rfl _ _ _, ?_⟩
  rw [HP.out]
  exact door_ok HK6.out HR6.out HO6.out
end
end Go.Proofs.YtahalimekacliaaGreatDoor
