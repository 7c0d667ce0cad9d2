/- The program's reader of expressions: an operand: some of its ways: the walk. (Printed by gen/expop.py.) -/
import Derived.Test.YtahalimekacliaaGreatDoorJ17
set_option linter.unusedVariables false
set_option linter.unusedSimpArgs false
namespace Go.Proofs.YtahalimekacliaaGreatDoor
open Go.RowKit Go.Shelf Tx Px
section
variable {L : List Tok} {a : Option Addr} {cc rb lb pb : Nat} {w0 : World}
set_option maxRecDepth 100000 in
set_option maxHeartbeats 16000000 in
theorem operand_withinerr {ms : Nat → Nat} (EX : Hid (EnvX w0 rb a cc L lb pb ms)) (g : Nat) (IH : Hid (∀ g', g' < g + 1 → BnOk w0 rb a cc L lb pb g' ∧ OnOk w0 rb a cc L lb pb g')) (I o : Nat) (x : Tok) (r : Res) (w : World) (hx : L[I]? = some x) (ho : o < 200) (hk : x.k = 3 ∨ x.k = 4) (c p : Int) (hpre0 : preAt x.t = some 25) (u : Tok) (hu : L[I + 1]? = some u) (hun : u.k = 2 ∧ Lx.val u.t.data.toList ≤ 1000) (h1 : P L g (.bin 8) (I + 2) (o + 1) = some (.error (c, p))) (hP : r = .error (c, p)) (hB : Al rb w0 w) (hR : RE rb a cc L lb pb w I o 0 0) :
    Calls Tryz.prog 121 #[.pointer (some ⟨rb, 0, none⟩)] w (RPost (RE rb a cc L lb pb) rb o w r) := by
  have Qhk := Lib.hid hk
  have Qhpre0 := Lib.hid hpre0
  have Qhu := Lib.hid hu
  have Qhun := Lib.hid hun
  have Qh1 := Lib.hid h1
  have QhP := Lib.hid hP
  clear hk hpre0 hu hun h1 hP
  have hL := EX.out.ev.len
  have EV : Hid (EnvOk w0 rb a cc L) := EX.out.ev
  have hlt := hR.lt
  obtain ⟨xb, hxb⟩ : ∃ xb, xb = w.heap.size := ⟨_, rfl⟩
  have HXB := Lib.hid hxb
  obtain ⟨W0, hW0⟩ : ∃ W0, W0 = w.alloc (.cells #[.pointer (some ⟨rb, 0, none⟩)] 132) := ⟨_, rfl⟩
  have hb0 : Below w.heap.size w W0 := by rw [hW0]; exact (Below.refl _ _).alloc (Nat.le_refl _) _
  have hbx : Blk W0 xb #[.pointer (some ⟨rb, 0, none⟩)] 132 := by rw [hW0, hxb]; exact Blk.new w _ _
  have hR0 := hR.below hb0
  have hA0 : Al rb w W0 := Al.of hb0
  have hok := eok_any I o 0 0 _ _ hR0
  have HW0 := Lib.hid hW0
  have HB := Lib.hid hB
  have HBX := Lib.hid hbx
  have HR0 := Lib.hid hR0
  have HA0 := Lib.hid hA0
  have hxr : xb ≠ rb := by omega
  rw [hxb.symm] at hlt
  clear hB hR hb0 hR0 hA0 hxb hW0
  obtain ⟨c0, c1, c2, c3, c4, c5, c6⟩ := HR0.out.cells
  obtain ⟨f0, f1, f2, f3, f4⟩ := HR0.out.free
  have b0 := (one_cell hbx).1
  clear hbx
  have hmf : ∀ (fn : Fn) (first cap : Array Value) (w : World), (Instr.makeFunc fn first cap).run Tryz.prog w = .ok (.func fn first cap) w := fun _ _ _ _ => rfl
  go_enter_defers Tryz.func121, Tryz.ntmps121
  go_wp2_with fail
  rw [← HXB.out, ← HW0.out]
  refine hok.mono ?_
  rintro e w3 ⟨rfl, rfl⟩
  clear hok
  have ho1 : (o : Int) < 200 := by omega
  have hil : I < L.length := (List.getElem?_eq_some_iff.1 hx).1
  have hl1 : (I : Int) < (L.length : Int) := by omega
  have hi0 : (0 : Int) ≤ (I : Int) := by omega
  have hd1 : decide (L.length ≤ I) = false := by simp; omega
  have HX := Lib.hid hx
  clear hx
  go_wp2_with fail
  go_quiet (fail)
  obtain ⟨W1, hW1⟩ : ∃ W1, W1 = w3.drewN nq := ⟨_, rfl⟩
  have hR1 : RE rb a cc L lb pb W1 I o 0 0 := by rw [hW1]; exact HR0.out.drewN nq
  have hbx1 : Blk W1 xb #[.pointer (some ⟨rb, 0, none⟩)] 132 := by rw [hW1]; exact HBX.out
  have HA1 : Hid (Al rb w W1) := by show Al _ _ _; rw [hW1]; exact HA0.out.drewN nq
  rw [← hW1]
  clear hW1 c0 c1 c2 c3 c4 c5 c6 f0 f1 f2 f3 f4 b0
  obtain ⟨c0, c1, c2, c3, c4, c5, c6⟩ := hR1.cells
  obtain ⟨f0, f1, f2, f3, f4⟩ := hR1.free
  have b0 := (one_cell hbx1).1
  obtain ⟨W2, hW2⟩ : ∃ W2, W2 = W1.setCell ⟨rb, 2, none⟩ (.int .i64 ((o : Int) + 1)) := ⟨_, rfl⟩
  have hR2 : RE rb a cc L lb pb W2 I ((o + 1 : Nat) : Int) 0 0 := by rw [hW2]; exact hR1.setO _
  have hbx2 : Blk W2 xb #[.pointer (some ⟨rb, 0, none⟩)] 132 := by rw [hW2]; exact hbx1.other 2 hxr _
  have HA2 : Hid (Al rb w W2) := by show Al _ _ _; rw [hW2]; exact HA1.out.set _ _
  have HW2 := Lib.hid hW2
  have HR2 := Lib.hid hR2
  have HBX2 := Lib.hid hbx2
  clear hW2 hR1 hbx1 hR2 hbx2
  go_upto_region 9 with fail
  rw [← HW2.out]
  clear c0 c1 c2 c3 c4 c5 c6 f0 f1 f2 f3 f4 b0
  obtain ⟨c0, c1, c2, c3, c4, c5, c6⟩ := HR2.out.cells
  have b0 := (one_cell HBX2.out).1
  obtain ⟨tb0, q0, ha, d0, d1, d2⟩ := EV.out.tok W2 (HB.out.next HA2.out) I x HX.out
  have HAA := Lib.hid ha
  rw [ha] at c0
  clear ha
  obtain ⟨tn, htn⟩ : ∃ tn, tn = W2.heap.size := ⟨_, rfl⟩
  have hbn : Below W2.heap.size W2 (W2.alloc (.cells #[.int .i64 0, .string ⟨#[]⟩, .int .i64 0] 47)) := (Below.refl _ _).alloc (Nat.le_refl _) _
  have l1 : rb < W2.heap.size := World.block_lt_of_cell? W2 _ c0
  have l2 : tb0 < W2.heap.size := World.block_lt_of_cell? W2 _ d0
  have l3 : xb < W2.heap.size := World.block_lt_of_cell? W2 _ b0
  have e1 : rb ≠ W2.heap.size := by omega
  have e2 : tb0 ≠ W2.heap.size := by omega
  have e3 : xb ≠ W2.heap.size := by omega
  have n0 := (hbn.cell (p := ⟨rb, 0, none⟩) l1).trans c0
  have n1 := (hbn.cell (p := ⟨rb, 1, none⟩) l1).trans c1
  have n2 := (hbn.cell (p := ⟨tb0, q0 + I * 3, none⟩) l2).trans d0
  have n3 := (hbn.cell (p := ⟨tb0, q0 + I * 3 + 1, none⟩) l2).trans d1
  have n4 := (hbn.cell (p := ⟨tb0, q0 + I * 3 + 2, none⟩) l2).trans d2
  have n5 := (hbn.cell (p := ⟨xb, 0, none⟩) l3).trans b0
  clear hbn c2 c3 c4 c5 c6
  go_region
  obtain ⟨W3, hW3⟩ : ∃ W3, W3 = (W2.alloc (.cells #[.int .i64 (x.k : Nat), .string x.t, .int .i64 (x.p : Nat)] 47)).drew := ⟨_, rfl⟩
  have hb3 : Below W2.heap.size W2 W3 := by rw [hW3]; exact ((Below.refl _ _).alloc (Nat.le_refl _) _).drew
  have HR3 : Hid (RE rb a cc L lb pb W3 I ((o + 1 : Nat) : Int) 0 0) := HR2.out.below hb3
  have HK3 : Hid (Kp w0 w rb xb tn x W3) := by
    refine ⟨HA2.out.then hb3, HBX2.out.below hb3, ?_, by rw [HXB.out]; exact Nat.le_refl _, by rw [htn]; exact HA2.out.size, by rw [← HXB.out]; exact hlt⟩
    rw [hW3, htn]; exact Blk.new W2 _ _
  rw [← htn, ← hW3]
  clear hb3 hW3 htn n0 n1 n2 n3 n4 n5 l1 l2 l3 e1 e2 e3 c0 c1 b0 d0 d1 d2 HAA HR2 HBX2 HW2 HA2 HA1 HR0 HBX HA0 HW0 hd1
  obtain ⟨t0, t1, t2⟩ := HK3.out.cells
  obtain ⟨c0, c1, c2, c3, c4, c5, c6⟩ := HR3.out.cells
  obtain ⟨f0, f1, f2, f3, f4⟩ := HR3.out.free
  have ho5 : (-1000 : Int) ≤ ((o + 1 : Nat) : Int) ∧ ((o + 1 : Nat) : Int) ≤ 1000 := by omega
  have HO5 := Lib.hid ho5
  have HHI : Hid (I + 1 ≤ 100001) := by show _ ≤ _; omega
  clear ho5
  have htr : tn ≠ rb := by have := HK3.out.tb; have := HK3.out.rb; omega
  have HTN : Hid (∀ W, Kp w0 w rb xb tn x W → W.cell? ⟨xb, 0, none⟩ = some (.pointer (some ⟨rb, 0, none⟩))) := fun W h => h.cells.1
  have hk := Qhk.out
  have hpre0 := Qhpre0.out
  have hu := Qhu.out
  have hun := Qhun.out
  have h1 := Qh1.out
  have hP := QhP.out
  clear Qhk Qhpre0 Qhu Qhun Qh1 QhP
  have hhs : hereS 0 L I = x.t := by unfold hereS hereT; rw [if_pos rfl, HX.out]; simp [hk]
  obtain ⟨k, hkk⟩ : ∃ k : Int, k = (x.k : Nat) := ⟨_, rfl⟩
  rw [← hkk] at t1
  have k1 : (k == 1) = false := by rw [beq_eq_false_iff_ne]; omega
  have k2 : (k == 2) = false := by rw [beq_eq_false_iff_ne]; omega
  have HT : Hid (∀ s, isT L I s = decide (x.t = s)) := fun s => isT_text HX.out hk s
  have hpre : look x.t preL = some 25 := by rw [← look_pre]; exact hpre0
  have HP := Lib.hid hP
  have HU := Lib.hid hu
  have HUN := Lib.hid hun
  have H1 := Lib.hid h1
  clear h1 hun
  clear hpre0 hu
  clear hk hkk hP
  have hhere := fun q => ehere_any EV I (by omega) ((o + 1 : Nat) : Int) 0 0 (W3.drewN q) ((HB.out.next HK3.out.al).drewN q) (HR3.out.drewN q)
  rw [hhs] at hhere
  have hlk : ∀ q, (Instr.lookup 103 (.map (some pb)) (.string x.t) true).run Tryz.prog (W3.drewN q) = .ok (.tuple #[((look x.t preL).map vI).getD (.int .i64 0), .bool (look x.t preL).isSome]) (W3.drewN q) :=
    fun q => (EX.out.pm _ ((HB.out.next HK3.out.al).drewN q)).lookup keyText Tryz.underlying103 (z := .int .i64 0) (fun w => by kernel_rfl) x.t
  rw [hpre] at hlk
  simp only [Option.map_none, Option.getD_none, Option.isSome_none, Option.map_some, Option.getD_some, Option.isSome_some] at hlk
  clear hpre hhs
  go_wp2_with fail
  go_quiet ((go_at_call 122; exact Calls.quiet_of (hhere _)))
  obtain ⟨w10, hw10⟩ : ∃ w10, w10 = W3.drewN nq := ⟨_, rfl⟩
  have R10 : Hid (RE rb a cc L lb pb w10 (I : Nat) ((o + 1 : Nat) : Int) 0 0) := by show Re _ _ _ _ _ _ _ _ _; rw [hw10]; exact HR3.out.drewN _
  have K10 : Hid (Kp w0 w rb xb tn x w10) := by show Kp _ _ _ _ _ _ _; rw [hw10]; exact HK3.out.next ((Al.refl _ _).drewN _)
  rw [← hw10]
  clear hw10 hhere hlk t0 t1 t2 c0 c1 c2 c3 c4 c5 c6 f0 f1 f2 f3 f4 k1 k2
  obtain ⟨w20, hw20⟩ : ∃ w20, w20 = w10.setCell ⟨rb, 1, none⟩ (.int .i64 (((I : Nat) : Int) + 1)) := ⟨_, rfl⟩
  have R20 : Hid (RE rb a cc L lb pb w20 ((I + 1 : Nat) : Int) ((o + 1 : Nat) : Int) 0 0) := by show Re _ _ _ _ _ _ _ _ _; rw [hw20]; exact R10.out.setI _
  have K20 : Hid (Kp w0 w rb xb tn x w20) := by show Kp _ _ _ _ _ _ _; rw [hw20]; exact K10.out.next ((Al.refl _ _).set _ _)
  have HW20 := Lib.hid hw20
  clear hw20
  obtain ⟨c0, c1, c2, c3, c4, c5, c6⟩ := R10.out.cells
  obtain ⟨f0, f1, f2, f3, f4⟩ := R10.out.free
  have bx := K10.out.cells.1
  have hul := (List.getElem?_eq_some_iff.1 HU.out).1
  have hj := number_good EV (I + 1) (by omega) ((o + 1 : Nat) : Int) 0 u HU.out HUN.out.1 HUN.out.2 w20 (HB.out.next K20.out.al) R20.out
  obtain ⟨nv, hnv⟩ : ∃ nv, nv = Lx.val u.t.data.toList := ⟨_, rfl⟩
  rw [← hnv] at hj
  have HNV := Lib.hid hnv
  clear hnv
  go_wp2_with fail
  rw [← HW20.out]
  with_reducible refine hj.mono ?_
  rintro e w11 ⟨hA11, rfl, hR11⟩
  have R11 : Hid (RE rb a cc L lb pb w11 ((I + 2 : Nat) : Int) ((o + 1 : Nat) : Int) 0 0) := hR11
  have K11 : Hid (Kp w0 w rb xb tn x w11) := K20.out.next hA11
  clear hj hR11 hA11 c0 c1 c2 c3 c4 c5 c6 f0 f1 f2 f3 f4 bx
  skip
  have bx := K11.out.cells.1
  go_upto_region 26 with fail
  clear bx
  have h1 := H1.out
  have KB0 : w11.cell? ⟨xb, 0, none⟩ = some (.pointer (some ⟨rb, 0, none⟩)) := K11.out.cells.1
  have KB1 : w11.drew.cell? ⟨xb, 0, none⟩ = some (.pointer (some ⟨rb, 0, none⟩)) := KB0
  have KD : Hid (Kp w0 w rb xb tn x w11.drew) := K11.out.next ((Al.refl _ _).drew)
  have RD : Hid (RE rb a cc L lb pb w11.drew ((I + 2 : Nat) : Int) ((o + 1 : Nat) : Int) 0 0) := R11.out.drew
  have hop := (IH.out g (by omega)).2 (I + 2) (o + 1) (.error (c, p)) w11.drew (by omega) h1 (HB.out.next KD.out.al) RD.out
  go_region_held3 (fun w' => w'.cell? ⟨xb, 0, none⟩ = some (.pointer (some ⟨rb, 0, none⟩))) (first | exact KB4 | exact KB3 | exact KB2 | exact KB1 | exact KB0) ((first | (go_at_call 123; (with_reducible refine hjn.mono ?_); rintro e w52 ⟨rfl, rfl⟩) | (go_at_call 121; (with_reducible refine hop.mono ?_); rintro e w51 ⟨hA51, ya, yn, yk, i51, rfl, hc51, hi51, hR51⟩; have K51 : Hid (Kp w0 w rb xb tn x w51) := KD.out.next hA51; have KB2 : w51.cell? ⟨xb, 0, none⟩ = some (.pointer (some ⟨rb, 0, none⟩)) := K51.out.cells.1; have hb51 := (Below.refl w51.heap.size w51).alloc (Nat.le_refl _) (.cells #[(.slice ya yn yk)] 51); have KB3 : (w51.alloc (.cells #[(.slice ya yn yk)] 51)).cell? ⟨xb, 0, none⟩ = some (.pointer (some ⟨rb, 0, none⟩)) := (K51.out.next (Al.of hb51)).cells.1; have hjn := ejoin_no (i51 : Nat) ((o + 1 : Nat) : Int) c p hc51 _ 25 (nv : Nat) ⟨#[]⟩ (.slice (some ⟨w51.heap.size, 0, none⟩) 1 1) (w51.alloc (.cells #[(.slice ya yn yk)] 51)) (hR51.below hb51))))
  obtain ⟨w52, hw52⟩ : ∃ w52, w52 = w51.alloc (.cells #[(.slice ya yn yk)] 51) := ⟨_, rfl⟩
  rw [← hw52]
  have HR6 : Hid (RE rb a cc L lb pb w52 ((i51 : Nat) : Int) ((o + 1 : Nat) : Int) c p) := by show Re _ _ _ _ _ _ _ _ _; rw [hw52]; exact hR51.below hb51
  have HK6 : Hid (Kp w0 w rb xb tn x w52) := by show Kp _ _ _ _ _ _ _; rw [hw52]; exact K51.out.next (Al.of hb51)
  have HC6 := Lib.hid hc51
  clear hc51 hA51 hR51
  clear hop hjn KB0 KB1 KB2 KB3 hb51 hw52
  go_wp2_with fail
  refine leaves_cons (f := 127) (args := #[.pointer (some ⟨xb, 0, none⟩)]) (by simp) (by simp [go_sem]) ?_
  refine (odefer_any .returning _ xb _ ((o + 1 : Nat) : Int) _ _ _ HK6.out.cells.1 HR6.out HO5.out).mono ?_
  rintro e u' w'' ⟨rfl, rfl, rfl⟩
  refine ⟨_, results_tmp rfl _ _ _, ?_⟩
  rw [HP.out]
  exact door_err HK6.out HR6.out HC6.out hi51
set_option maxRecDepth 100000 in
set_option maxHeartbeats 16000000 in
theorem operand_withinbad {ms : Nat → Nat} (EX : Hid (EnvX w0 rb a cc L lb pb ms)) (g : Nat) (IH : Hid (∀ g', g' < g + 1 → BnOk w0 rb a cc L lb pb g' ∧ OnOk w0 rb a cc L lb pb g')) (I o : Nat) (x : Tok) (r : Res) (w : World) (hx : L[I]? = some x) (ho : o < 200) (hk : x.k = 3 ∨ x.k = 4) (hpre0 : preAt x.t = some 25) (hu : ∀ u, L[I + 1]? = some u → ¬ (u.k = 2 ∧ Lx.val u.t.data.toList ≤ 1000)) (hP : r = .error (5, atP L (I + 1))) (hB : Al rb w0 w) (hR : RE rb a cc L lb pb w I o 0 0) :
    Calls Tryz.prog 121 #[.pointer (some ⟨rb, 0, none⟩)] w (RPost (RE rb a cc L lb pb) rb o w r) := by
  have Qhk := Lib.hid hk
  have Qhpre0 := Lib.hid hpre0
  have Qhu := Lib.hid hu
  have QhP := Lib.hid hP
  clear hk hpre0 hu hP
  have hL := EX.out.ev.len
  have EV : Hid (EnvOk w0 rb a cc L) := EX.out.ev
  have hlt := hR.lt
  obtain ⟨xb, hxb⟩ : ∃ xb, xb = w.heap.size := ⟨_, rfl⟩
  have HXB := Lib.hid hxb
  obtain ⟨W0, hW0⟩ : ∃ W0, W0 = w.alloc (.cells #[.pointer (some ⟨rb, 0, none⟩)] 132) := ⟨_, rfl⟩
  have hb0 : Below w.heap.size w W0 := by rw [hW0]; exact (Below.refl _ _).alloc (Nat.le_refl _) _
  have hbx : Blk W0 xb #[.pointer (some ⟨rb, 0, none⟩)] 132 := by rw [hW0, hxb]; exact Blk.new w _ _
  have hR0 := hR.below hb0
  have hA0 : Al rb w W0 := Al.of hb0
  have hok := eok_any I o 0 0 _ _ hR0
  have HW0 := Lib.hid hW0
  have HB := Lib.hid hB
  have HBX := Lib.hid hbx
  have HR0 := Lib.hid hR0
  have HA0 := Lib.hid hA0
  have hxr : xb ≠ rb := by omega
  rw [hxb.symm] at hlt
  clear hB hR hb0 hR0 hA0 hxb hW0
  obtain ⟨c0, c1, c2, c3, c4, c5, c6⟩ := HR0.out.cells
  obtain ⟨f0, f1, f2, f3, f4⟩ := HR0.out.free
  have b0 := (one_cell hbx).1
  clear hbx
  have hmf : ∀ (fn : Fn) (first cap : Array Value) (w : World), (Instr.makeFunc fn first cap).run Tryz.prog w = .ok (.func fn first cap) w := fun _ _ _ _ => rfl
  go_enter_defers Tryz.func121, Tryz.ntmps121
  go_wp2_with fail
  rw [← HXB.out, ← HW0.out]
  refine hok.mono ?_
  rintro e w3 ⟨rfl, rfl⟩
  clear hok
  have ho1 : (o : Int) < 200 := by omega
  have hil : I < L.length := (List.getElem?_eq_some_iff.1 hx).1
  have hl1 : (I : Int) < (L.length : Int) := by omega
  have hi0 : (0 : Int) ≤ (I : Int) := by omega
  have hd1 : decide (L.length ≤ I) = false := by simp; omega
  have HX := Lib.hid hx
  clear hx
  go_wp2_with fail
  go_quiet (fail)
  obtain ⟨W1, hW1⟩ : ∃ W1, W1 = w3.drewN nq := ⟨_, rfl⟩
  have hR1 : RE rb a cc L lb pb W1 I o 0 0 := by rw [hW1]; exact HR0.out.drewN nq
  have hbx1 : Blk W1 xb #[.pointer (some ⟨rb, 0, none⟩)] 132 := by rw [hW1]; exact HBX.out
  have HA1 : Hid (Al rb w W1) := by show Al _ _ _; rw [hW1]; exact HA0.out.drewN nq
  rw [← hW1]
  clear hW1 c0 c1 c2 c3 c4 c5 c6 f0 f1 f2 f3 f4 b0
  obtain ⟨c0, c1, c2, c3, c4, c5, c6⟩ := hR1.cells
  obtain ⟨f0, f1, f2, f3, f4⟩ := hR1.free
  have b0 := (one_cell hbx1).1
  obtain ⟨W2, hW2⟩ : ∃ W2, W2 = W1.setCell ⟨rb, 2, none⟩ (.int .i64 ((o : Int) + 1)) := ⟨_, rfl⟩
  have hR2 : RE rb a cc L lb pb W2 I ((o + 1 : Nat) : Int) 0 0 := by rw [hW2]; exact hR1.setO _
  have hbx2 : Blk W2 xb #[.pointer (some ⟨rb, 0, none⟩)] 132 := by rw [hW2]; exact hbx1.other 2 hxr _
  have HA2 : Hid (Al rb w W2) := by show Al _ _ _; rw [hW2]; exact HA1.out.set _ _
  have HW2 := Lib.hid hW2
  have HR2 := Lib.hid hR2
  have HBX2 := Lib.hid hbx2
  clear hW2 hR1 hbx1 hR2 hbx2
  go_upto_region 9 with fail
  rw [← HW2.out]
  clear c0 c1 c2 c3 c4 c5 c6 f0 f1 f2 f3 f4 b0
  obtain ⟨c0, c1, c2, c3, c4, c5, c6⟩ := HR2.out.cells
  have b0 := (one_cell HBX2.out).1
  obtain ⟨tb0, q0, ha, d0, d1, d2⟩ := EV.out.tok W2 (HB.out.next HA2.out) I x HX.out
  have HAA := Lib.hid ha
  rw [ha] at c0
  clear ha
  obtain ⟨tn, htn⟩ : ∃ tn, tn = W2.heap.size := ⟨_, rfl⟩
  have hbn : Below W2.heap.size W2 (W2.alloc (.cells #[.int .i64 0, .string ⟨#[]⟩, .int .i64 0] 47)) := (Below.refl _ _).alloc (Nat.le_refl _) _
  have l1 : rb < W2.heap.size := World.block_lt_of_cell? W2 _ c0
  have l2 : tb0 < W2.heap.size := World.block_lt_of_cell? W2 _ d0
  have l3 : xb < W2.heap.size := World.block_lt_of_cell? W2 _ b0
  have e1 : rb ≠ W2.heap.size := by omega
  have e2 : tb0 ≠ W2.heap.size := by omega
  have e3 : xb ≠ W2.heap.size := by omega
  have n0 := (hbn.cell (p := ⟨rb, 0, none⟩) l1).trans c0
  have n1 := (hbn.cell (p := ⟨rb, 1, none⟩) l1).trans c1
  have n2 := (hbn.cell (p := ⟨tb0, q0 + I * 3, none⟩) l2).trans d0
  have n3 := (hbn.cell (p := ⟨tb0, q0 + I * 3 + 1, none⟩) l2).trans d1
  have n4 := (hbn.cell (p := ⟨tb0, q0 + I * 3 + 2, none⟩) l2).trans d2
  have n5 := (hbn.cell (p := ⟨xb, 0, none⟩) l3).trans b0
  clear hbn c2 c3 c4 c5 c6
  go_region
  obtain ⟨W3, hW3⟩ : ∃ W3, W3 = (W2.alloc (.cells #[.int .i64 (x.k : Nat), .string x.t, .int .i64 (x.p : Nat)] 47)).drew := ⟨_, rfl⟩
  have hb3 : Below W2.heap.size W2 W3 := by rw [hW3]; exact ((Below.refl _ _).alloc (Nat.le_refl _) _).drew
  have HR3 : Hid (RE rb a cc L lb pb W3 I ((o + 1 : Nat) : Int) 0 0) := HR2.out.below hb3
  have HK3 : Hid (Kp w0 w rb xb tn x W3) := by
    refine ⟨HA2.out.then hb3, HBX2.out.below hb3, ?_, by rw [HXB.out]; exact Nat.le_refl _, by rw [htn]; exact HA2.out.size, by rw [← HXB.out]; exact hlt⟩
    rw [hW3, htn]; exact Blk.new W2 _ _
  rw [← htn, ← hW3]
  clear hb3 hW3 htn n0 n1 n2 n3 n4 n5 l1 l2 l3 e1 e2 e3 c0 c1 b0 d0 d1 d2 HAA HR2 HBX2 HW2 HA2 HA1 HR0 HBX HA0 HW0 hd1
  obtain ⟨t0, t1, t2⟩ := HK3.out.cells
  obtain ⟨c0, c1, c2, c3, c4, c5, c6⟩ := HR3.out.cells
  obtain ⟨f0, f1, f2, f3, f4⟩ := HR3.out.free
  have ho5 : (-1000 : Int) ≤ ((o + 1 : Nat) : Int) ∧ ((o + 1 : Nat) : Int) ≤ 1000 := by omega
  have HO5 := Lib.hid ho5
  have HHI : Hid (I + 1 ≤ 100001) := by show _ ≤ _; omega
  clear ho5
  have htr : tn ≠ rb := by have := HK3.out.tb; have := HK3.out.rb; omega
  have HTN : Hid (∀ W, Kp w0 w rb xb tn x W → W.cell? ⟨xb, 0, none⟩ = some (.pointer (some ⟨rb, 0, none⟩))) := fun W h => h.cells.1
  have hk := Qhk.out
  have hpre0 := Qhpre0.out
  have hu := Qhu.out
  have hP := QhP.out
  clear Qhk Qhpre0 Qhu QhP
  have hhs : hereS 0 L I = x.t := by unfold hereS hereT; rw [if_pos rfl, HX.out]; simp [hk]
  obtain ⟨k, hkk⟩ : ∃ k : Int, k = (x.k : Nat) := ⟨_, rfl⟩
  rw [← hkk] at t1
  have k1 : (k == 1) = false := by rw [beq_eq_false_iff_ne]; omega
  have k2 : (k == 2) = false := by rw [beq_eq_false_iff_ne]; omega
  have HT : Hid (∀ s, isT L I s = decide (x.t = s)) := fun s => isT_text HX.out hk s
  have hpre : look x.t preL = some 25 := by rw [← look_pre]; exact hpre0
  have HP := Lib.hid hP
  have HU := Lib.hid hu
  clear hpre0 hu
  clear hk hkk hP
  have hhere := fun q => ehere_any EV I (by omega) ((o + 1 : Nat) : Int) 0 0 (W3.drewN q) ((HB.out.next HK3.out.al).drewN q) (HR3.out.drewN q)
  rw [hhs] at hhere
  have hlk : ∀ q, (Instr.lookup 103 (.map (some pb)) (.string x.t) true).run Tryz.prog (W3.drewN q) = .ok (.tuple #[((look x.t preL).map vI).getD (.int .i64 0), .bool (look x.t preL).isSome]) (W3.drewN q) :=
    fun q => (EX.out.pm _ ((HB.out.next HK3.out.al).drewN q)).lookup keyText Tryz.underlying103 (z := .int .i64 0) (fun w => by kernel_rfl) x.t
  rw [hpre] at hlk
  simp only [Option.map_none, Option.getD_none, Option.isSome_none, Option.map_some, Option.getD_some, Option.isSome_some] at hlk
  clear hpre hhs
  go_wp2_with fail
  go_quiet ((go_at_call 122; exact Calls.quiet_of (hhere _)))
  obtain ⟨w10, hw10⟩ : ∃ w10, w10 = W3.drewN nq := ⟨_, rfl⟩
  have R10 : Hid (RE rb a cc L lb pb w10 (I : Nat) ((o + 1 : Nat) : Int) 0 0) := by show Re _ _ _ _ _ _ _ _ _; rw [hw10]; exact HR3.out.drewN _
  have K10 : Hid (Kp w0 w rb xb tn x w10) := by show Kp _ _ _ _ _ _ _; rw [hw10]; exact HK3.out.next ((Al.refl _ _).drewN _)
  rw [← hw10]
  clear hw10 hhere hlk t0 t1 t2 c0 c1 c2 c3 c4 c5 c6 f0 f1 f2 f3 f4 k1 k2
  obtain ⟨w20, hw20⟩ : ∃ w20, w20 = w10.setCell ⟨rb, 1, none⟩ (.int .i64 (((I : Nat) : Int) + 1)) := ⟨_, rfl⟩
  have R20 : Hid (RE rb a cc L lb pb w20 ((I + 1 : Nat) : Int) ((o + 1 : Nat) : Int) 0 0) := by show Re _ _ _ _ _ _ _ _ _; rw [hw20]; exact R10.out.setI _
  have K20 : Hid (Kp w0 w rb xb tn x w20) := by show Kp _ _ _ _ _ _ _; rw [hw20]; exact K10.out.next ((Al.refl _ _).set _ _)
  have HW20 := Lib.hid hw20
  clear hw20
  obtain ⟨c0, c1, c2, c3, c4, c5, c6⟩ := R10.out.cells
  obtain ⟨f0, f1, f2, f3, f4⟩ := R10.out.free
  have bx := K10.out.cells.1
  have hj := number_bad EV (I + 1) (by omega) ((o + 1 : Nat) : Int) 0 HU.out w20 (HB.out.next K20.out.al) R20.out
  go_wp2_with fail
  rw [← HW20.out]
  with_reducible refine hj.mono ?_
  rintro e w11 ⟨hA11, rfl, hR11⟩
  have R11 : Hid (RE rb a cc L lb pb w11 ((I + 1 : Nat) : Int) ((o + 1 : Nat) : Int) 5 (atP L (I + 1))) := hR11
  have K11 : Hid (Kp w0 w rb xb tn x w11) := K20.out.next hA11
  clear hj hR11 hA11 c0 c1 c2 c3 c4 c5 c6 f0 f1 f2 f3 f4 bx
  have bx := K11.out.cells.1
  go_upto_region 26 with fail
  clear bx
  have KB0 : w11.cell? ⟨xb, 0, none⟩ = some (.pointer (some ⟨rb, 0, none⟩)) := K11.out.cells.1
  have KB1 : w11.drew.cell? ⟨xb, 0, none⟩ = some (.pointer (some ⟨rb, 0, none⟩)) := KB0
  have KD : Hid (Kp w0 w rb xb tn x w11.drew) := K11.out.next ((Al.refl _ _).drew)
  have RD : Hid (RE rb a cc L lb pb w11.drew ((I + 1 : Nat) : Int) ((o + 1 : Nat) : Int) 5 (atP L (I + 1))) := R11.out.drew
  have hop := operand_fault (I + 1 : Nat) ((o + 1 : Nat) : Int) 5 (atP L (I + 1)) (by decide) w11.drew RD.out
  go_region_held3 (fun w' => w'.cell? ⟨xb, 0, none⟩ = some (.pointer (some ⟨rb, 0, none⟩))) (first | exact KB4 | exact KB3 | exact KB2 | exact KB1 | exact KB0) ((first | (go_at_call 123; (with_reducible refine hjn.mono ?_); rintro e w52 ⟨rfl, rfl⟩) | (go_at_call 121; (with_reducible refine hop.mono ?_); rintro e w51 ⟨rfl, hbw51⟩; have K51 : Hid (Kp w0 w rb xb tn x w51) := KD.out.next (Al.of hbw51); have KB2 : w51.cell? ⟨xb, 0, none⟩ = some (.pointer (some ⟨rb, 0, none⟩)) := K51.out.cells.1; have hb51 := (Below.refl w51.heap.size w51).alloc (Nat.le_refl _) (.cells #[(.slice none 0 0)] 51); have KB3 : (w51.alloc (.cells #[(.slice none 0 0)] 51)).cell? ⟨xb, 0, none⟩ = some (.pointer (some ⟨rb, 0, none⟩)) := (K51.out.next (Al.of hb51)).cells.1; have hjn := ejoin_no (I + 1 : Nat) ((o + 1 : Nat) : Int) 5 (atP L (I + 1)) (by decide) _ 25 0 ⟨#[]⟩ (.slice (some ⟨w51.heap.size, 0, none⟩) 1 1) (w51.alloc (.cells #[(.slice none 0 0)] 51)) ((RD.out.below hbw51).below hb51))))
  obtain ⟨w52, hw52⟩ : ∃ w52, w52 = w51.alloc (.cells #[(.slice none 0 0)] 51) := ⟨_, rfl⟩
  rw [← hw52]
  have HR6 : Hid (RE rb a cc L lb pb w52 ((I + 1 : Nat) : Int) ((o + 1 : Nat) : Int) 5 (atP L (I + 1))) := by show Re _ _ _ _ _ _ _ _ _; rw [hw52]; exact (RD.out.below hbw51).below hb51
  have HK6 : Hid (Kp w0 w rb xb tn x w52) := by show Kp _ _ _ _ _ _ _; rw [hw52]; exact K51.out.next (Al.of hb51)
  clear hop hjn KB0 KB1 KB2 KB3 hb51 hw52
  go_wp2_with fail
  refine leaves_cons (f := 127) (args := #[.pointer (some ⟨xb, 0, none⟩)]) (by simp) (by simp [go_sem]) ?_
  refine (odefer_any .returning _ xb _ ((o + 1 : Nat) : Int) _ _ _ HK6.out.cells.1 HR6.out HO5.out).mono ?_
  rintro e u' w'' ⟨rfl, rfl, rfl⟩
  refine ⟨_, results_tmp rfl _ _ _, ?_⟩
  rw [HP.out]
  exact door_err HK6.out HR6.out (by decide) (by omega)
end
end Go.Proofs.YtahalimekacliaaGreatDoor
