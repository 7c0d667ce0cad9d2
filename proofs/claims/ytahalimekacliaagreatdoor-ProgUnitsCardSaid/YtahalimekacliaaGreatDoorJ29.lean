/- The program's reader of expressions: an operand: some of its ways: the walk. (Printed by gen/expop.py.) -/
import Derived.Test.YtahalimekacliaaGreatDoorJ17
set_option linter.unusedVariables false
set_option linter.unusedSimpArgs false
namespace Go.Proofs.YtahalimekacliaaGreatDoor
open Go.RowKit Go.Shelf Tx Px
section
variable {L : List Tok} {a : Option Addr} {cc rb lb pb : Nat} {w0 : World}
set_option maxRecDepth 100000 in
set_option maxHeartbeats 16000000 in
theorem operand_ifn1 {ms : Nat → Nat} (EX : Hid (EnvX w0 rb a cc L lb pb ms)) (g : Nat) (IH : Hid (∀ g', g' < g + 1 → BnOk w0 rb a cc L lb pb g' ∧ OnOk w0 rb a cc L lb pb g')) (I o : Nat) (x : Tok) (r : Res) (w : World) (hx : L[I]? = some x) (ho : o < 200) (hk : x.k = 3 ∨ x.k = 4) (F : Fo) (j : Nat) (hs : x.t = ⟨#[105, 102]⟩) (h1 : P L g (.bin 0) (I + 1) (o + 1) = some (.ok ([F], j))) (hn : isT L j tThen = false) (hP : r = .error (5, atP L j)) (hB : Al rb w0 w) (hR : RE rb a cc L lb pb w I o 0 0) :
    Calls Tryz.prog 121 #[.pointer (some ⟨rb, 0, none⟩)] w (RPost (RE rb a cc L lb pb) rb o w r) := by
  have Qhk := Lib.hid hk
  have Qhs := Lib.hid hs
  have Qh1 := Lib.hid h1
  have Qhn := Lib.hid hn
  have QhP := Lib.hid hP
  clear hk hs h1 hn hP
  have hL := EX.out.ev.len
  have EV : Hid (EnvOk w0 rb a cc L) := EX.out.ev
  have hlt := hR.lt
  obtain ⟨xb, hxb⟩ : ∃ xb, xb = w.heap.size := ⟨_, rfl⟩
  have HXB := Lib.hid hxb
  obtain ⟨W0, hW0⟩ : ∃ W0, W0 = w.alloc (.cells #[.pointer (some ⟨rb, 0, none⟩)] 132) := ⟨_, rfl⟩
  have hb0 : Below w.heap.size w W0 := by rw [hW0]; exact (Below.refl _ _).alloc (Nat.le_refl _) _
  have hbx : Blk W0 xb #[.pointer (some ⟨rb, 0, none⟩)] 132 := by rw [hW0, hxb]; exact Blk.new w _ _
  have hR0 := hR.below hb0
  have hA0 : Al rb w W0 := Al.of hb0
  have hok := eok_any I o 0 0 _ _ hR0
  have HW0 := Lib.hid hW0
  have HB := Lib.hid hB
  have HBX := Lib.hid hbx
  have HR0 := Lib.hid hR0
  have HA0 := Lib.hid hA0
  have hxr : xb ≠ rb := by omega
  rw [hxb.symm] at hlt
  clear hB hR hb0 hR0 hA0 hxb hW0
  obtain ⟨c0, c1, c2, c3, c4, c5, c6⟩ := HR0.out.cells
  obtain ⟨f0, f1, f2, f3, f4⟩ := HR0.out.free
  have b0 := (one_cell hbx).1
  clear hbx
  have hmf : ∀ (fn : Fn) (first cap : Array Value) (w : World), (Instr.makeFunc fn first cap).run Tryz.prog w = .ok (.func fn first cap) w := fun _ _ _ _ => rfl
  go_enter_defers Tryz.func121, Tryz.ntmps121
  go_wp2_with fail
  rw [← HXB.out, ← HW0.out]
  refine hok.mono ?_
  rintro e w3 ⟨rfl, rfl⟩
  clear hok
  have ho1 : (o : Int) < 200 := by omega
  have hil : I < L.length := (List.getElem?_eq_some_iff.1 hx).1
  have hl1 : (I : Int) < (L.length : Int) := by omega
  have hi0 : (0 : Int) ≤ (I : Int) := by omega
  have hd1 : decide (L.length ≤ I) = false := by simp; omega
  have HX := Lib.hid hx
  clear hx
  go_wp2_with fail
  go_quiet (fail)
  obtain ⟨W1, hW1⟩ : ∃ W1, W1 = w3.drewN nq := ⟨_, rfl⟩
  have hR1 : RE rb a cc L lb pb W1 I o 0 0 := by rw [hW1]; exact HR0.out.drewN nq
  have hbx1 : Blk W1 xb #[.pointer (some ⟨rb, 0, none⟩)] 132 := by rw [hW1]; exact HBX.out
  have HA1 : Hid (Al rb w W1) := by show Al _ _ _; rw [hW1]; exact HA0.out.drewN nq
  rw [← hW1]
  clear hW1 c0 c1 c2 c3 c4 c5 c6 f0 f1 f2 f3 f4 b0
  obtain ⟨c0, c1, c2, c3, c4, c5, c6⟩ := hR1.cells
  obtain ⟨f0, f1, f2, f3, f4⟩ := hR1.free
  have b0 := (one_cell hbx1).1
  obtain ⟨W2, hW2⟩ : ∃ W2, W2 = W1.setCell ⟨rb, 2, none⟩ (.int .i64 ((o : Int) + 1)) := ⟨_, rfl⟩
  have hR2 : RE rb a cc L lb pb W2 I ((o + 1 : Nat) : Int) 0 0 := by rw [hW2]; exact hR1.setO _
  have hbx2 : Blk W2 xb #[.pointer (some ⟨rb, 0, none⟩)] 132 := by rw [hW2]; exact hbx1.other 2 hxr _
  have HA2 : Hid (Al rb w W2) := by show Al _ _ _; rw [hW2]; exact HA1.out.set _ _
  have HW2 := Lib.hid hW2
  have HR2 := Lib.hid hR2
  have HBX2 := Lib.hid hbx2
  clear hW2 hR1 hbx1 hR2 hbx2
  go_upto_region 9 with fail
  rw [← HW2.out]
  clear c0 c1 c2 c3 c4 c5 c6 f0 f1 f2 f3 f4 b0
  obtain ⟨c0, c1, c2, c3, c4, c5, c6⟩ := HR2.out.cells
  have b0 := (one_cell HBX2.out).1
  obtain ⟨tb0, q0, ha, d0, d1, d2⟩ := EV.out.tok W2 (HB.out.next HA2.out) I x HX.out
  have HAA := Lib.hid ha
  rw [ha] at c0
  clear ha
  obtain ⟨tn, htn⟩ : ∃ tn, tn = W2.heap.size := ⟨_, rfl⟩
  have hbn : Below W2.heap.size W2 (W2.alloc (.cells #[.int .i64 0, .string ⟨#[]⟩, .int .i64 0] 47)) := (Below.refl _ _).alloc (Nat.le_refl _) _
  have l1 : rb < W2.heap.size := World.block_lt_of_cell? W2 _ c0
  have l2 : tb0 < W2.heap.size := World.block_lt_of_cell? W2 _ d0
  have l3 : xb < W2.heap.size := World.block_lt_of_cell? W2 _ b0
  have e1 : rb ≠ W2.heap.size := by omega
  have e2 : tb0 ≠ W2.heap.size := by omega
  have e3 : xb ≠ W2.heap.size := by omega
  have n0 := (hbn.cell (p := ⟨rb, 0, none⟩) l1).trans c0
  have n1 := (hbn.cell (p := ⟨rb, 1, none⟩) l1).trans c1
  have n2 := (hbn.cell (p := ⟨tb0, q0 + I * 3, none⟩) l2).trans d0
  have n3 := (hbn.cell (p := ⟨tb0, q0 + I * 3 + 1, none⟩) l2).trans d1
  have n4 := (hbn.cell (p := ⟨tb0, q0 + I * 3 + 2, none⟩) l2).trans d2
  have n5 := (hbn.cell (p := ⟨xb, 0, none⟩) l3).trans b0
  clear hbn c2 c3 c4 c5 c6
  go_region
  obtain ⟨W3, hW3⟩ : ∃ W3, W3 = (W2.alloc (.cells #[.int .i64 (x.k : Nat), .string x.t, .int .i64 (x.p : Nat)] 47)).drew := ⟨_, rfl⟩
  have hb3 : Below W2.heap.size W2 W3 := by rw [hW3]; exact ((Below.refl _ _).alloc (Nat.le_refl _) _).drew
  have HR3 : Hid (RE rb a cc L lb pb W3 I ((o + 1 : Nat) : Int) 0 0) := HR2.out.below hb3
  have HK3 : Hid (Kp w0 w rb xb tn x W3) := by
    refine ⟨HA2.out.then hb3, HBX2.out.below hb3, ?_, by rw [HXB.out]; exact Nat.le_refl _, by rw [htn]; exact HA2.out.size, by rw [← HXB.out]; exact hlt⟩
    rw [hW3, htn]; exact Blk.new W2 _ _
  rw [← htn, ← hW3]
  clear hb3 hW3 htn n0 n1 n2 n3 n4 n5 l1 l2 l3 e1 e2 e3 c0 c1 b0 d0 d1 d2 HAA HR2 HBX2 HW2 HA2 HA1 HR0 HBX HA0 HW0 hd1
  obtain ⟨t0, t1, t2⟩ := HK3.out.cells
  obtain ⟨c0, c1, c2, c3, c4, c5, c6⟩ := HR3.out.cells
  obtain ⟨f0, f1, f2, f3, f4⟩ := HR3.out.free
  have ho5 : (-1000 : Int) ≤ ((o + 1 : Nat) : Int) ∧ ((o + 1 : Nat) : Int) ≤ 1000 := by omega
  have HO5 := Lib.hid ho5
  have HHI : Hid (I + 1 ≤ 100001) := by show _ ≤ _; omega
  clear ho5
  have htr : tn ≠ rb := by have := HK3.out.tb; have := HK3.out.rb; omega
  have HTN : Hid (∀ W, Kp w0 w rb xb tn x W → W.cell? ⟨xb, 0, none⟩ = some (.pointer (some ⟨rb, 0, none⟩))) := fun W h => h.cells.1
  have hk := Qhk.out
  have hs := Qhs.out
  have h1 := Qh1.out
  have hn := Qhn.out
  have hP := QhP.out
  clear Qhk Qhs Qh1 Qhn QhP
  have hhs : hereS 0 L I = x.t := by unfold hereS hereT; rw [if_pos rfl, HX.out]; simp [hk]
  obtain ⟨k, hkk⟩ : ∃ k : Int, k = (x.k : Nat) := ⟨_, rfl⟩
  rw [← hkk] at t1
  have k1 : (k == 1) = false := by rw [beq_eq_false_iff_ne]; omega
  have k2 : (k == 2) = false := by rw [beq_eq_false_iff_ne]; omega
  have HT : Hid (∀ s, isT L I s = decide (x.t = s)) := fun s => isT_text HX.out hk s
  have hpre : look x.t preL = none := by rw [hs]; decide
  have HSX := Lib.hid hs
  have HP := Lib.hid hP
  clear hs
  clear hk hkk hP
  have hhere := fun q => ehere_any EV I (by omega) ((o + 1 : Nat) : Int) 0 0 (W3.drewN q) ((HB.out.next HK3.out.al).drewN q) (HR3.out.drewN q)
  rw [hhs] at hhere
  have hlk : ∀ q, (Instr.lookup 103 (.map (some pb)) (.string x.t) true).run Tryz.prog (W3.drewN q) = .ok (.tuple #[((look x.t preL).map vI).getD (.int .i64 0), .bool (look x.t preL).isSome]) (W3.drewN q) :=
    fun q => (EX.out.pm _ ((HB.out.next HK3.out.al).drewN q)).lookup keyText Tryz.underlying103 (z := .int .i64 0) (fun w => by kernel_rfl) x.t
  rw [hpre] at hlk
  simp only [Option.map_none, Option.getD_none, Option.isSome_none, Option.map_some, Option.getD_some, Option.isSome_some] at hlk
  clear hpre hhs
  go_wp2_with fail
  go_quiet ((go_at_call 122; exact Calls.quiet_of (hhere _)))
  obtain ⟨w10, hw10⟩ : ∃ w10, w10 = W3.drewN nq := ⟨_, rfl⟩
  have R10 : Hid (RE rb a cc L lb pb w10 (I : Nat) ((o + 1 : Nat) : Int) 0 0) := by show Re _ _ _ _ _ _ _ _ _; rw [hw10]; exact HR3.out.drewN _
  have K10 : Hid (Kp w0 w rb xb tn x w10) := by show Kp _ _ _ _ _ _ _; rw [hw10]; exact HK3.out.next ((Al.refl _ _).drewN _)
  rw [← hw10]
  clear hw10 hhere hlk t0 t1 t2 c0 c1 c2 c3 c4 c5 c6 f0 f1 f2 f3 f4 k1 k2
  have hj := e4take_no EV I (by omega) ((o + 1 : Nat) : Int) 0 0 ⟨#[116, 114, 117, 101]⟩ (Or.inl (by rw [HT.out, HSX.out]; decide)) w10 (HB.out.next K10.out.al) R10.out
  have bx := K10.out.cells.1
  go_wp2_with fail
  with_reducible refine hj.mono ?_
  rintro e w11 ⟨rfl, hb11⟩
  have R11 := Lib.hid (R10.out.below hb11)
  have K11 : Hid (Kp w0 w rb xb tn x w11) := K10.out.next (Al.of hb11)
  clear hj bx hb11
  have hj := e4take_no EV I (by omega) ((o + 1 : Nat) : Int) 0 0 ⟨#[102, 97, 108, 115, 101]⟩ (Or.inl (by rw [HT.out, HSX.out]; decide)) w11 (HB.out.next K11.out.al) R11.out
  have bx := K11.out.cells.1
  go_wp2_with fail
  with_reducible refine hj.mono ?_
  rintro e w12 ⟨rfl, hb12⟩
  have R12 := Lib.hid (R11.out.below hb12)
  have K12 : Hid (Kp w0 w rb xb tn x w12) := K11.out.next (Al.of hb12)
  clear hj bx hb12
  have hj := e4take_no EV I (by omega) ((o + 1 : Nat) : Int) 0 0 ⟨#[40]⟩ (Or.inl (by rw [HT.out, HSX.out]; decide)) w12 (HB.out.next K12.out.al) R12.out
  have bx := K12.out.cells.1
  go_wp2_with fail
  with_reducible refine hj.mono ?_
  rintro e w13 ⟨rfl, hb13⟩
  have R13 := Lib.hid (R12.out.below hb13)
  have K13 : Hid (Kp w0 w rb xb tn x w13) := K12.out.next (Al.of hb13)
  clear hj bx hb13
  have hj := e4take_yes EV I (by omega) ((o + 1 : Nat) : Int) 0 ⟨#[105, 102]⟩ (by rw [HT.out, HSX.out]; decide) w13 (HB.out.next K13.out.al) R13.out
  have bx := K13.out.cells.1
  go_wp2_with fail
  with_reducible refine hj.mono ?_
  rintro e w14 ⟨rfl, hR14, hA14⟩
  have R14 : Hid (RE rb a cc L lb pb w14 ((I + 1 : Nat) : Int) ((o + 1 : Nat) : Int) 0 0) := hR14
  have K14 : Hid (Kp w0 w rb xb tn x w14) := K13.out.next hA14
  clear hj bx hR14 hA14
  have HN := Lib.hid hn
  clear hn
  have hj := whole_any (IH.out g (by omega)).1 (I + 1) (o + 1) (.ok ([F], j)) w14 (by omega) h1 (HB.out.next K14.out.al) R14.out
  have bx := K14.out.cells.1
  obtain ⟨gd15, jl15, jh15, sz15⟩ := (P_ok EV.out.ok g).bin (by omega) h1
  go_wp2_with fail
  with_reducible refine hj.mono ?_
  rintro e w15 ⟨hA15, G15, v15, hG15, rfl, ho15, hR15⟩
  obtain rfl : F = G15 := by simpa using hG15
  have R15 : Hid (RE rb a cc L lb pb w15 (j : Nat) ((o + 1 : Nat) : Int) 0 0) := hR15
  have K15 : Hid (Kp w0 w rb xb tn x w15) := K14.out.next hA15
  have O15 : Hid (OwnE w.heap.size w15 v15 (F.flat 0)) := ho15.mono K14.out.al.size
  obtain ⟨va15, vc15, rfl, -⟩ := ho15.form
  have GD15 := Lib.hid gd15
  clear hj bx hR15 hA15 ho15 hG15 gd15
  have hj := e4need_no EV j (by omega) ((o + 1 : Nat) : Int) 0 ⟨#[116, 104, 101, 110]⟩ (HN.out) w15 (HB.out.next K15.out.al) R15.out
  have bx := K15.out.cells.1
  go_wp2_with fail
  with_reducible refine hj.mono ?_
  rintro e w16 ⟨rfl, hR16, hA16⟩
  have R16 : Hid (RE rb a cc L lb pb w16 ((j : Nat) : Int) ((o + 1 : Nat) : Int) 5 (atP L j)) := hR16
  have K16 : Hid (Kp w0 w rb xb tn x w16) := K15.out.next hA16
  have O17 := Lib.hid (hA16.ownE O15.out K15.out.rb)
  clear hj bx hR16 hA16
  have hj := whole_fault EX j (by omega) ((o + 1 : Nat) : Int) 5 (atP L j) (by decide) w16 (HB.out.next K16.out.al) R16.out
  have bx := K16.out.cells.1
  go_wp2_with fail
  with_reducible refine hj.mono ?_
  rintro e w18 ⟨rfl, hb18⟩
  have R18 := Lib.hid (R16.out.below hb18)
  have K18 : Hid (Kp w0 w rb xb tn x w18) := K16.out.next (Al.of hb18)
  have O19 := Lib.hid (O17.out.below hb18)
  clear hj bx hb18
  have hj := e4need_fault EV j (by omega) ((o + 1 : Nat) : Int) 5 (atP L j) ⟨#[101, 108, 115, 101]⟩ (by decide) w18 (HB.out.next K18.out.al) R18.out
  have bx := K18.out.cells.1
  go_wp2_with fail
  with_reducible refine hj.mono ?_
  rintro e w20 ⟨rfl, hb20⟩
  have R20 := Lib.hid (R18.out.below hb20)
  have K20 : Hid (Kp w0 w rb xb tn x w20) := K18.out.next (Al.of hb20)
  have O21 := Lib.hid (O19.out.below hb20)
  clear hj bx hb20
  have bx := K20.out.cells.1
  go_upto_region 40 with fail
  clear bx
  have KB0 : w20.cell? ⟨xb, 0, none⟩ = some (.pointer (some ⟨rb, 0, none⟩)) := K20.out.cells.1
  have KB1 : w20.drew.cell? ⟨xb, 0, none⟩ = some (.pointer (some ⟨rb, 0, none⟩)) := KB0
  have KD : Hid (Kp w0 w rb xb tn x w20.drew) := K20.out.next ((Al.refl _ _).drew)
  have RD : Hid (RE rb a cc L lb pb w20.drew ((j : Nat) : Int) ((o + 1 : Nat) : Int) 5 (atP L j)) := R20.out.drew
  have hop := whole_fault EX (j) (by omega) ((o + 1 : Nat) : Int) 5 (atP L j) (by decide) w20.drew (HB.out.next KD.out.al) RD.out
  go_region_held3 (fun w' => w'.cell? ⟨xb, 0, none⟩ = some (.pointer (some ⟨rb, 0, none⟩))) (first | exact KB4 | exact KB3 | exact KB2 | exact KB1 | exact KB0) ((first | (go_at_call 123; (with_reducible refine hjn.mono ?_); rintro e w52 ⟨rfl, rfl⟩) | (go_at_call 104; (with_reducible refine hop.mono ?_); rintro e w51 ⟨rfl, hbw51⟩; have K51 : Hid (Kp w0 w rb xb tn x w51) := KD.out.next (Al.of hbw51); have KB2 : w51.cell? ⟨xb, 0, none⟩ = some (.pointer (some ⟨rb, 0, none⟩)) := K51.out.cells.1; have hb51 := (Below.refl w51.heap.size w51).alloc (Nat.le_refl _) (.cells #[(.slice va15 (F.flat 0).length vc15), (.slice none 0 0), (.slice none 0 0)] 51); have KB3 : (w51.alloc (.cells #[(.slice va15 (F.flat 0).length vc15), (.slice none 0 0), (.slice none 0 0)] 51)).cell? ⟨xb, 0, none⟩ = some (.pointer (some ⟨rb, 0, none⟩)) := (K51.out.next (Al.of hb51)).cells.1; have hjn := ejoin_no (j : Nat) ((o + 1 : Nat) : Int) 5 (atP L j) (by decide) _ 26 0 ⟨#[]⟩ (.slice (some ⟨w51.heap.size, 0, none⟩) 3 3) (w51.alloc (.cells #[(.slice va15 (F.flat 0).length vc15), (.slice none 0 0), (.slice none 0 0)] 51)) ((RD.out.below hbw51).below hb51))))
  obtain ⟨w52, hw52⟩ : ∃ w52, w52 = w51.alloc (.cells #[(.slice va15 (F.flat 0).length vc15), (.slice none 0 0), (.slice none 0 0)] 51) := ⟨_, rfl⟩
  rw [← hw52]
  have HR6 : Hid (RE rb a cc L lb pb w52 ((j : Nat) : Int) ((o + 1 : Nat) : Int) 5 (atP L j)) := by show Re _ _ _ _ _ _ _ _ _; rw [hw52]; exact (RD.out.below hbw51).below hb51
  have HK6 : Hid (Kp w0 w rb xb tn x w52) := by show Kp _ _ _ _ _ _ _; rw [hw52]; exact K51.out.next (Al.of hb51)
  clear hop hjn KB0 KB1 KB2 KB3 hb51 hw52
  go_wp2_with fail
  refine leaves_cons (f := 127) (args := #[.pointer (some ⟨xb, 0, none⟩)]) (by simp) (by simp [go_sem]) ?_
  refine (odefer_any .returning _ xb _ ((o + 1 : Nat) : Int) _ _ _ HK6.out.cells.1 HR6.out HO5.out).mono ?_
  rintro e u' w'' ⟨rfl, rfl, rfl⟩
  refine ⟨_, results_tmp rfl _ _ _, ?_⟩
  rw [HP.out]
  exact door_err HK6.out HR6.out (by decide) (by omega)
end
end Go.Proofs.YtahalimekacliaaGreatDoor
