/- The reader of programs: nodes with a contract: the walk. (Printed by gen/straight.py.) -/
import Derived.Test.YtahalimekacliaaGreatDoorJ38
set_option linter.unusedVariables false
set_option linter.unusedSimpArgs false
namespace Go.Proofs.YtahalimekacliaaGreatDoor
open Go.RowKit Go.Shelf Tx Px Mx Gx
section
variable {L : List Tok} {a : Option Addr} {cc rb : Nat} {w0 : World} {X : XO}
set_option maxRecDepth 100000 in
set_option maxHeartbeats 8000000 in
theorem punit2a_any (EV : Hid (EnvOk w0 rb a cc L)) (hX : Hid (XOk L X)) (s : Rs) (hm : markR L s ≠ tContract) (hcon : markR L (needR L tRpar (paramR L (needR L tLpar (needR L tReturns (betweenR L (paramR L) tSemi (nameR L (needR L tNode s)).2).2))).2) = tContract) (w : World) (hB : Al rb w0 w) (hR : Rp L a cc rb w s) :
    Calls Tryz.prog 17 #[.pointer (some ⟨rb, 0, none⟩)] w fun e w' => ∃ (cn : Bool) (n : ByteArray) (ia : Option Addr) (il ic : Nat) (on : ByteArray) (ot : Int) (va : Option Addr) (vl vc : Nat) (qa : Option Addr) (ql qc : Nat) (xa : Option Addr) (xl xc : Nat), e = .returned (.agg #[.bool cn, .string n, .slice ia il ic, .string on, .int .i64 ot, .slice va vl vc, .slice qa ql qc, .slice xa xl xc]) ∧ PUn w.heap.size w' [.bool cn, .string n, .slice ia il ic, .string on, .int .i64 ot, .slice va vl vc, .slice qa ql qc, .slice xa xl xc] (unitR L X s).1 ∧ Rp L a cc rb w' (unitR L X s).2 ∧ Al rb w w' := by
  have hrb := hR.lt
  obtain ⟨nb, hnb⟩ : ∃ nb, nb = w.heap.size := ⟨_, rfl⟩
  rw [← hnb] at hrb
  have HNB := Lib.hid hnb
  have A : Hid (Al rb w w) := Al.refl rb w
  have R := Lib.hid hR
  have HB := Lib.hid hB
  obtain ⟨s1, h_s1⟩ : ∃ x, x = needR L tNode s := ⟨_, rfl⟩
  obtain ⟨n, h_n⟩ : ∃ x, x = (nameR L s1).1 := ⟨_, rfl⟩
  obtain ⟨s2, h_s2⟩ : ∃ x, x = (nameR L s1).2 := ⟨_, rfl⟩
  obtain ⟨l, h_l⟩ : ∃ x, x = (betweenR L (paramR L) tSemi s2).1 := ⟨_, rfl⟩
  obtain ⟨s3, h_s3⟩ : ∃ x, x = (betweenR L (paramR L) tSemi s2).2 := ⟨_, rfl⟩
  obtain ⟨s4, h_s4⟩ : ∃ x, x = needR L tLpar (needR L tReturns s3) := ⟨_, rfl⟩
  obtain ⟨on, h_on⟩ : ∃ x, x = (paramR L s4).1.name := ⟨_, rfl⟩
  obtain ⟨ot, h_ot⟩ : ∃ x, x = (paramR L s4).1.ty := ⟨_, rfl⟩
  obtain ⟨s5, h_s5⟩ : ∃ x, x = (paramR L s4).2 := ⟨_, rfl⟩
  obtain ⟨s6, h_s6⟩ : ∃ x, x = needR L tRpar s5 := ⟨_, rfl⟩
  obtain ⟨x, h_x⟩ : ∃ x, x = (optR L tContract (itemsR L X) s6).1 := ⟨_, rfl⟩
  obtain ⟨s7, h_s7⟩ : ∃ x, x = (optR L tContract (itemsR L X) s6).2 := ⟨_, rfl⟩
  obtain ⟨v, h_v⟩ : ∃ x, x = (optR L tVar (varsR L) s7).1 := ⟨_, rfl⟩
  obtain ⟨s8, h_s8⟩ : ∃ x, x = (optR L tVar (varsR L) s7).2 := ⟨_, rfl⟩
  obtain ⟨s9, h_s9⟩ : ∃ x, x = needR L tLet s8 := ⟨_, rfl⟩
  obtain ⟨q, h_q⟩ : ∃ x, x = (manyR L (onR (eqR L X) (namedR L)) 200 (namedR L s9) [] s9).1 := ⟨_, rfl⟩
  obtain ⟨s10, h_s10⟩ : ∃ x, x = (manyR L (onR (eqR L X) (namedR L)) 200 (namedR L s9) [] s9).2 := ⟨_, rfl⟩
  obtain ⟨s11, h_s11⟩ : ∃ x, x = needR L tTel s10 := ⟨_, rfl⟩
  have HF : Hid (unitR L X s = (⟨false, n, l, ⟨on, ot⟩, v, q, x⟩, s11)) := by show _ = _; exact node_eq hm h_s1 h_n h_s2 h_l h_s3 h_s4 h_on h_ot h_s5 h_s6 h_x h_s7 h_v h_s8 h_s9 h_q h_s10 h_s11
  have S_s1 := Lib.hid h_s1
  have S_n := Lib.hid h_n
  have S_s2 := Lib.hid h_s2
  have S_l := Lib.hid h_l
  have S_s3 := Lib.hid h_s3
  have S_s4 := Lib.hid h_s4
  have S_on := Lib.hid h_on
  have S_ot := Lib.hid h_ot
  have S_s5 := Lib.hid h_s5
  have S_s6 := Lib.hid h_s6
  have S_x := Lib.hid h_x
  have S_s7 := Lib.hid h_s7
  have S_v := Lib.hid h_v
  have S_s8 := Lib.hid h_s8
  have S_s9 := Lib.hid h_s9
  have S_q := Lib.hid h_q
  have S_s10 := Lib.hid h_s10
  have S_s11 := Lib.hid h_s11
  clear h_s1 h_n h_s2 h_l h_s3 h_s4 h_on h_ot h_s5 h_s6 h_x h_s7 h_v h_s8 h_s9 h_q h_s10 h_s11
  have HM := Lib.hid hm
  have hcon2 : markR L s6 = tContract := by rw [S_s6.out, S_s5.out, S_s4.out, S_s3.out, S_s2.out, S_s1.out]; exact hcon
  have HC := Lib.hid hcon2
  clear hm hcon hcon2
  clear hR hB hnb
  go_enter Tryz.func17, Tryz.ntmps17
  go_upto_region 1 with fail
  refine wp_letW ?_
  intro W1 hW1
  have hb_ : Below w.heap.size w W1 := by rw [hW1]; exact (Below.refl _ _).alloc (Nat.le_refl _) _
  have F_ : Fr (fun _ => False) w W1 := Fr.of_below hb_ _
  obtain ⟨b_r, hb_r⟩ : ∃ b, b = w.heap.size := ⟨_, rfl⟩
  have hA_ : w.heap.size ≤ w.heap.size := A.out.size
  have n_r : nb ≤ b_r := by have := HNB.out; omega
  have K_r : Hid (Blk W1 b_r #[.bool false, .string ⟨#[]⟩, .slice none 0 0, .string ⟨#[]⟩, .int .i64 0, .slice none 0 0, .slice none 0 0, .slice none 0 0] 43) := by show Blk _ _ _ _; rw [hW1, hb_r]; exact Blk.new w _ _
  have A : Hid (Al rb w W1) := A.out.then hb_
  have R : Hid (Rp L a cc rb W1 s) := R.out.below hb_
  rw [← hb_r]
  clear hW1 hb_ F_ hA_ hb_r
  have hc_ := ptake_any EV ⟨#[99, 111, 110, 116, 114, 97, 99, 116]⟩ (by decide) s W1 (HB.out.next A.out) R.out
  have e1_ : takeB L ⟨#[99, 111, 110, 116, 114, 97, 99, 116]⟩ s = false := by unfold takeB; exact decide_eq_false HM.out
  have e2_ : takeR L ⟨#[99, 111, 110, 116, 114, 97, 99, 116]⟩ s = s := by unfold takeR; exact if_neg HM.out
  rw [e1_, e2_] at hc_
  clear e1_ e2_
  go_wp2_with fail
  refine hc_.mono ?_
  rintro e w2 ⟨rfl, hR_, hA_⟩
  have F_ : Al rb W1 w2 := hA_
  have K_r : Hid (Blk w2 b_r #[.bool false, .string ⟨#[]⟩, .slice none 0 0, .string ⟨#[]⟩, .int .i64 0, .slice none 0 0, .slice none 0 0, .slice none 0 0] 43) := F_.blk K_r.out (by omega)
  have A : Hid (Al rb w w2) := A.out.next F_
  have R := Lib.hid hR_
  clear hc_ hR_ hA_ F_
  go_upto_region 6 with fail
  have hb_ : Below w2.heap.size w2 (w2.alloc (.cells #[.string ⟨#[110, 111, 100, 101]⟩] 9)) := (Below.refl _ _).alloc (Nat.le_refl _) _
  have hc_ := pneed_any EV w2.heap.size [⟨#[110, 111, 100, 101]⟩] (by decide) (by decide) s (w2.alloc (.cells #[.string ⟨#[110, 111, 100, 101]⟩] 9)) ((HB.out.next A.out).then hb_) (R.out.below hb_) (Blk.new w2 _ _) (by have := A.out.size; have := HNB.out; omega)
  have e_ : needL L [⟨#[110, 111, 100, 101]⟩] s = s1 := S_s1.out.symm
  rw [e_] at hc_
  have HBA := Lib.hid hb_
  clear hb_ e_
  go_wp2_with fail
  refine hc_.mono ?_
  rintro e w3 ⟨rfl, hR_, hA_⟩
  have F_ : Al rb w2 w3 := (Al.of (rb := rb) HBA.out).next hA_
  have K_r : Hid (Blk w3 b_r #[.bool false, .string ⟨#[]⟩, .slice none 0 0, .string ⟨#[]⟩, .int .i64 0, .slice none 0 0, .slice none 0 0, .slice none 0 0] 43) := F_.blk K_r.out (by omega)
  have A : Hid (Al rb w w3) := A.out.next F_
  have R := Lib.hid hR_
  clear hc_ hR_ hA_ F_ HBA
  go_upto_region 7 with fail
  have hc_ := pname_any EV s1 w3 (HB.out.next A.out) R.out
  rw [← S_n.out, ← S_s2.out] at hc_
  go_wp2_with fail
  refine hc_.mono ?_
  rintro e w4 ⟨rfl, hR_, hA_⟩
  have F_ : Al rb w3 w4 := hA_
  have K_r : Hid (Blk w4 b_r #[.bool false, .string ⟨#[]⟩, .slice none 0 0, .string ⟨#[]⟩, .int .i64 0, .slice none 0 0, .slice none 0 0, .slice none 0 0] 43) := F_.blk K_r.out (by omega)
  have A : Hid (Al rb w w4) := A.out.next F_
  have R := Lib.hid hR_
  clear hc_ hR_ hA_ F_
  go_upto_region 8 with fail
  refine wp_letW ?_
  intro W5 hW5
  have hb_ : Below w4.heap.size w4 W5 := by rw [hW5]; exact (Below.refl _ _).alloc (Nat.le_refl _) _
  have F_ : Fr (fun _ => False) w4 W5 := Fr.of_below hb_ _
  obtain ⟨b_u, hb_u⟩ : ∃ b, b = w4.heap.size := ⟨_, rfl⟩
  have l_r_u : b_r < b_u := by have := K_r.out.lt; omega
  have K_r : Hid (Blk W5 b_r #[.bool false, .string ⟨#[]⟩, .slice none 0 0, .string ⟨#[]⟩, .int .i64 0, .slice none 0 0, .slice none 0 0, .slice none 0 0] 43) := K_r.out.below hb_
  have hA_ : w.heap.size ≤ w4.heap.size := A.out.size
  have n_u : nb ≤ b_u := by have := HNB.out; omega
  have K_u : Hid (Blk W5 b_u #[.bool false, .string n, .slice none 0 0, .string ⟨#[]⟩, .int .i64 0, .slice none 0 0, .slice none 0 0, .slice none 0 0] 43) := by show Blk _ _ _ _; rw [hW5, hb_u]; exact Blk.new w4 _ _
  have A : Hid (Al rb w W5) := A.out.then hb_
  have R : Hid (Rp L a cc rb W5 s2) := R.out.below hb_
  rw [← hb_u]
  clear hW5 hb_ F_ hA_ hb_u
  have hc_ := betweenPm_any EV tSemi (by decide) s2 W5 (HB.out.next A.out) R.out
  rw [← S_l.out, ← S_s3.out] at hc_
  have hl_ : nb ≤ W5.heap.size := by have := A.out.size; have := HNB.out; omega
  go_wp2_with fail
  refine hc_.mono ?_
  rintro e w6 ⟨v_, rfl, hV_, hR_, hA_⟩
  obtain ⟨ea_l, ec_l, rfl, -⟩ := hV_.form
  obtain ⟨en_l, hen_⟩ : ∃ n, n = l.length := ⟨_, rfl⟩
  rw [← hen_] at hV_ ⊢
  have hV2_ := Lib.hid (hV_.lower hl_ PPm.lowers)
  clear hV_ hen_ hl_
  have F_ : Al rb W5 w6 := hA_
  have K_r : Hid (Blk w6 b_r #[.bool false, .string ⟨#[]⟩, .slice none 0 0, .string ⟨#[]⟩, .int .i64 0, .slice none 0 0, .slice none 0 0, .slice none 0 0] 43) := F_.blk K_r.out (by omega)
  have K_u : Hid (Blk w6 b_u #[.bool false, .string n, .slice none 0 0, .string ⟨#[]⟩, .int .i64 0, .slice none 0 0, .slice none 0 0, .slice none 0 0] 43) := F_.blk K_u.out (by omega)
  have A : Hid (Al rb w w6) := A.out.next F_
  have R := Lib.hid hR_
  clear hc_ hR_ hA_ F_
  have V_l : Hid (RwPm nb w6 (.slice ea_l en_l ec_l) l) := hV2_
  clear hV2_
  have k_u_0 : w6.cell? ⟨b_u, 0, none⟩ = some (.bool false) := Blk.c K_u.out rfl
  have f_u_0 : w6.frozen? ⟨b_u, 0, none⟩ = false := Blk.z K_u.out rfl
  have k_u_1 : w6.cell? ⟨b_u, 1, none⟩ = some (.string n) := Blk.c K_u.out rfl
  have f_u_1 : w6.frozen? ⟨b_u, 1, none⟩ = false := Blk.z K_u.out rfl
  have k_u_2 : w6.cell? ⟨b_u, 2, none⟩ = some (.slice none 0 0) := Blk.c K_u.out rfl
  have f_u_2 : w6.frozen? ⟨b_u, 2, none⟩ = false := Blk.z K_u.out rfl
  have k_u_3 : w6.cell? ⟨b_u, 3, none⟩ = some (.string ⟨#[]⟩) := Blk.c K_u.out rfl
  have f_u_3 : w6.frozen? ⟨b_u, 3, none⟩ = false := Blk.z K_u.out rfl
  have k_u_4 : w6.cell? ⟨b_u, 4, none⟩ = some (.int .i64 0) := Blk.c K_u.out rfl
  have f_u_4 : w6.frozen? ⟨b_u, 4, none⟩ = false := Blk.z K_u.out rfl
  have k_u_5 : w6.cell? ⟨b_u, 5, none⟩ = some (.slice none 0 0) := Blk.c K_u.out rfl
  have f_u_5 : w6.frozen? ⟨b_u, 5, none⟩ = false := Blk.z K_u.out rfl
  have k_u_6 : w6.cell? ⟨b_u, 6, none⟩ = some (.slice none 0 0) := Blk.c K_u.out rfl
  have f_u_6 : w6.frozen? ⟨b_u, 6, none⟩ = false := Blk.z K_u.out rfl
  have k_u_7 : w6.cell? ⟨b_u, 7, none⟩ = some (.slice none 0 0) := Blk.c K_u.out rfl
  have f_u_7 : w6.frozen? ⟨b_u, 7, none⟩ = false := Blk.z K_u.out rfl
  go_upto_region 9 with fail
  refine wp_letW ?_
  intro W7 hW7
  have F_ : Fr (fun k => k = b_u) w6 W7 := by rw [hW7]; exact (Fr.set_at w6 b_u 2 _)
  have kp_ : KpT 43 nb w6 W7 := KpT.one K_u.out F_
  have K2_ : Blk W7 b_u #[.bool false, .string n, .slice ea_l en_l ec_l, .string ⟨#[]⟩, .int .i64 0, .slice none 0 0, .slice none 0 0, .slice none 0 0] 43 := by rw [hW7]; have h := (Blk.setAt K_u.out 2 (.slice ea_l en_l ec_l)); simpa using h
  have K_r : Hid (Blk W7 b_r #[.bool false, .string ⟨#[]⟩, .slice none 0 0, .string ⟨#[]⟩, .int .i64 0, .slice none 0 0, .slice none 0 0, .slice none 0 0] 43) := F_.blk' K_r.out (by omega)
  have V_l : Hid (RwPm nb W7 (.slice ea_l en_l ec_l) l) := V_l.out.stays kp_ (by decide) PPm.stays
  have K_u := Lib.hid K2_
  have A : Hid (Al rb w W7) := Fr.trans A.out F_ (fun i hi q => by have := HNB.out; omega)
  have R : Hid (Rp L a cc rb W7 s3) := R.out.fr F_ (fun q => by omega)
  clear k_u_0 f_u_0 k_u_1 f_u_1 k_u_2 f_u_2 k_u_3 f_u_3 k_u_4 f_u_4 k_u_5 f_u_5 k_u_6 f_u_6 k_u_7 f_u_7
  clear hW7 F_ kp_ K2_
  have hb_ : Below W7.heap.size W7 (W7.alloc (.cells #[.string ⟨#[114, 101, 116, 117, 114, 110, 115]⟩, .string ⟨#[40]⟩] 9)) := (Below.refl _ _).alloc (Nat.le_refl _) _
  have hc_ := pneed_any EV W7.heap.size [⟨#[114, 101, 116, 117, 114, 110, 115]⟩, ⟨#[40]⟩] (by decide) (by decide) s3 (W7.alloc (.cells #[.string ⟨#[114, 101, 116, 117, 114, 110, 115]⟩, .string ⟨#[40]⟩] 9)) ((HB.out.next A.out).then hb_) (R.out.below hb_) (Blk.new W7 _ _) (by have := A.out.size; have := HNB.out; omega)
  have e_ : needL L [⟨#[114, 101, 116, 117, 114, 110, 115]⟩, ⟨#[40]⟩] s3 = s4 := S_s4.out.symm
  rw [e_] at hc_
  have HBA := Lib.hid hb_
  clear hb_ e_
  go_wp2_with fail
  refine hc_.mono ?_
  rintro e w8 ⟨rfl, hR_, hA_⟩
  have F_ : Al rb W7 w8 := (Al.of (rb := rb) HBA.out).next hA_
  have K_r : Hid (Blk w8 b_r #[.bool false, .string ⟨#[]⟩, .slice none 0 0, .string ⟨#[]⟩, .int .i64 0, .slice none 0 0, .slice none 0 0, .slice none 0 0] 43) := F_.blk K_r.out (by omega)
  have K_u : Hid (Blk w8 b_u #[.bool false, .string n, .slice ea_l en_l ec_l, .string ⟨#[]⟩, .int .i64 0, .slice none 0 0, .slice none 0 0, .slice none 0 0] 43) := F_.blk K_u.out (by omega)
  have V_l : Hid (RwPm nb w8 (.slice ea_l en_l ec_l) l) := V_l.out.stays (Al.kpT (T := noT) F_ hrb) (by decide) PPm.stays
  have A : Hid (Al rb w w8) := A.out.next F_
  have R := Lib.hid hR_
  clear hc_ hR_ hA_ F_ HBA
  go_upto_region 10 with fail
  have hc_ := pparam_any EV s4 w8 (HB.out.next A.out) R.out
  rw [← S_on.out, ← S_ot.out, ← S_s5.out] at hc_
  go_wp2_with fail
  refine hc_.mono ?_
  rintro e w9 ⟨rfl, hR_, hA_⟩
  have F_ : Al rb w8 w9 := hA_
  have K_r : Hid (Blk w9 b_r #[.bool false, .string ⟨#[]⟩, .slice none 0 0, .string ⟨#[]⟩, .int .i64 0, .slice none 0 0, .slice none 0 0, .slice none 0 0] 43) := F_.blk K_r.out (by omega)
  have K_u : Hid (Blk w9 b_u #[.bool false, .string n, .slice ea_l en_l ec_l, .string ⟨#[]⟩, .int .i64 0, .slice none 0 0, .slice none 0 0, .slice none 0 0] 43) := F_.blk K_u.out (by omega)
  have V_l : Hid (RwPm nb w9 (.slice ea_l en_l ec_l) l) := V_l.out.stays (Al.kpT (T := noT) F_ hrb) (by decide) PPm.stays
  have A : Hid (Al rb w w9) := A.out.next F_
  have R := Lib.hid hR_
  clear hc_ hR_ hA_ F_
  have k_u_0 : w9.cell? ⟨b_u, 0, none⟩ = some (.bool false) := Blk.c K_u.out rfl
  have f_u_0 : w9.frozen? ⟨b_u, 0, none⟩ = false := Blk.z K_u.out rfl
  have k_u_1 : w9.cell? ⟨b_u, 1, none⟩ = some (.string n) := Blk.c K_u.out rfl
  have f_u_1 : w9.frozen? ⟨b_u, 1, none⟩ = false := Blk.z K_u.out rfl
  have k_u_2 : w9.cell? ⟨b_u, 2, none⟩ = some (.slice ea_l en_l ec_l) := Blk.c K_u.out rfl
  have f_u_2 : w9.frozen? ⟨b_u, 2, none⟩ = false := Blk.z K_u.out rfl
  have k_u_3 : w9.cell? ⟨b_u, 3, none⟩ = some (.string ⟨#[]⟩) := Blk.c K_u.out rfl
  have f_u_3 : w9.frozen? ⟨b_u, 3, none⟩ = false := Blk.z K_u.out rfl
  have k_u_4 : w9.cell? ⟨b_u, 4, none⟩ = some (.int .i64 0) := Blk.c K_u.out rfl
  have f_u_4 : w9.frozen? ⟨b_u, 4, none⟩ = false := Blk.z K_u.out rfl
  have k_u_5 : w9.cell? ⟨b_u, 5, none⟩ = some (.slice none 0 0) := Blk.c K_u.out rfl
  have f_u_5 : w9.frozen? ⟨b_u, 5, none⟩ = false := Blk.z K_u.out rfl
  have k_u_6 : w9.cell? ⟨b_u, 6, none⟩ = some (.slice none 0 0) := Blk.c K_u.out rfl
  have f_u_6 : w9.frozen? ⟨b_u, 6, none⟩ = false := Blk.z K_u.out rfl
  have k_u_7 : w9.cell? ⟨b_u, 7, none⟩ = some (.slice none 0 0) := Blk.c K_u.out rfl
  have f_u_7 : w9.frozen? ⟨b_u, 7, none⟩ = false := Blk.z K_u.out rfl
  go_upto_region 11 with fail
  refine wp_letW ?_
  intro W10 hW10
  have F_ : Fr (fun k => k = b_u) w9 W10 := by rw [hW10]; exact (Fr.trans (Fr.set_at w9 b_u 3 _) (Fr.set_at _ b_u 4 _) (fun _ _ q => q))
  have kp_ : KpT 43 nb w9 W10 := KpT.one K_u.out F_
  have K2_ : Blk W10 b_u #[.bool false, .string n, .slice ea_l en_l ec_l, .string on, .int .i64 ot, .slice none 0 0, .slice none 0 0, .slice none 0 0] 43 := by rw [hW10]; have h := (Blk.setAt (Blk.setAt K_u.out 3 (.string on)) 4 (.int .i64 ot)); simpa using h
  have K_r : Hid (Blk W10 b_r #[.bool false, .string ⟨#[]⟩, .slice none 0 0, .string ⟨#[]⟩, .int .i64 0, .slice none 0 0, .slice none 0 0, .slice none 0 0] 43) := F_.blk' K_r.out (by omega)
  have V_l : Hid (RwPm nb W10 (.slice ea_l en_l ec_l) l) := V_l.out.stays kp_ (by decide) PPm.stays
  have K_u := Lib.hid K2_
  have A : Hid (Al rb w W10) := Fr.trans A.out F_ (fun i hi q => by have := HNB.out; omega)
  have R : Hid (Rp L a cc rb W10 s5) := R.out.fr F_ (fun q => by omega)
  clear k_u_0 f_u_0 k_u_1 f_u_1 k_u_2 f_u_2 k_u_3 f_u_3 k_u_4 f_u_4 k_u_5 f_u_5 k_u_6 f_u_6 k_u_7 f_u_7
  clear hW10 F_ kp_ K2_
  have hb_ : Below W10.heap.size W10 (W10.alloc (.cells #[.string ⟨#[41]⟩] 9)) := (Below.refl _ _).alloc (Nat.le_refl _) _
  have hc_ := pneed_any EV W10.heap.size [⟨#[41]⟩] (by decide) (by decide) s5 (W10.alloc (.cells #[.string ⟨#[41]⟩] 9)) ((HB.out.next A.out).then hb_) (R.out.below hb_) (Blk.new W10 _ _) (by have := A.out.size; have := HNB.out; omega)
  have e_ : needL L [⟨#[41]⟩] s5 = s6 := S_s6.out.symm
  rw [e_] at hc_
  have HBA := Lib.hid hb_
  clear hb_ e_
  go_wp2_with fail
  refine hc_.mono ?_
  rintro e w11 ⟨rfl, hR_, hA_⟩
  have F_ : Al rb W10 w11 := (Al.of (rb := rb) HBA.out).next hA_
  have K_r : Hid (Blk w11 b_r #[.bool false, .string ⟨#[]⟩, .slice none 0 0, .string ⟨#[]⟩, .int .i64 0, .slice none 0 0, .slice none 0 0, .slice none 0 0] 43) := F_.blk K_r.out (by omega)
  have K_u : Hid (Blk w11 b_u #[.bool false, .string n, .slice ea_l en_l ec_l, .string on, .int .i64 ot, .slice none 0 0, .slice none 0 0, .slice none 0 0] 43) := F_.blk K_u.out (by omega)
  have V_l : Hid (RwPm nb w11 (.slice ea_l en_l ec_l) l) := V_l.out.stays (Al.kpT (T := noT) F_ hrb) (by decide) PPm.stays
  have A : Hid (Al rb w w11) := A.out.next F_
  have R := Lib.hid hR_
  clear hc_ hR_ hA_ F_ HBA
  go_upto_region 12 with fail
  obtain ⟨s6n, h_s6n⟩ : ∃ x, x = nextR s6 := ⟨_, rfl⟩
  have S_x2 : Hid (x = (itemsR L X s6n).1) := by show _ = _; rw [S_x.out, h_s6n]; unfold optR; rw [if_pos HC.out]
  have S_s72 : Hid (s7 = (itemsR L X s6n).2) := by show _ = _; rw [S_s7.out, h_s6n]; unfold optR; rw [if_pos HC.out]
  have S_s6n := Lib.hid h_s6n
  clear h_s6n S_x S_s7
  have S_x := S_x2
  have S_s7 := S_s72
  have hc_ := ptake_any EV ⟨#[99, 111, 110, 116, 114, 97, 99, 116]⟩ (by decide) s6 w11 (HB.out.next A.out) R.out
  have e1_ : takeB L ⟨#[99, 111, 110, 116, 114, 97, 99, 116]⟩ s6 = true := by unfold takeB; exact decide_eq_true HC.out
  have e2_ : takeR L ⟨#[99, 111, 110, 116, 114, 97, 99, 116]⟩ s6 = s6n := by rw [S_s6n.out]; unfold takeR; exact if_pos HC.out
  rw [e1_, e2_] at hc_
  clear e1_ e2_
  go_wp2_with fail
  refine hc_.mono ?_
  rintro e w12 ⟨rfl, hR_, hA_⟩
  have F_ : Al rb w11 w12 := hA_
  have K_r : Hid (Blk w12 b_r #[.bool false, .string ⟨#[]⟩, .slice none 0 0, .string ⟨#[]⟩, .int .i64 0, .slice none 0 0, .slice none 0 0, .slice none 0 0] 43) := F_.blk K_r.out (by omega)
  have K_u : Hid (Blk w12 b_u #[.bool false, .string n, .slice ea_l en_l ec_l, .string on, .int .i64 ot, .slice none 0 0, .slice none 0 0, .slice none 0 0] 43) := F_.blk K_u.out (by omega)
  have V_l : Hid (RwPm nb w12 (.slice ea_l en_l ec_l) l) := V_l.out.stays (Al.kpT (T := noT) F_ hrb) (by decide) PPm.stays
  have A : Hid (Al rb w w12) := A.out.next F_
  have R := Lib.hid hR_
  clear hc_ hR_ hA_ F_
  go_upto_region 13 with fail
  have hc_ := pitems_any EV hX s6n w12 (HB.out.next A.out) R.out
  rw [← S_x.out, ← S_s7.out] at hc_
  have hl_ : nb ≤ w12.heap.size := by have := A.out.size; have := HNB.out; omega
  go_wp2_with fail
  refine hc_.mono ?_
  rintro e w13 ⟨v_, rfl, hV_, hR_, hA_⟩
  obtain ⟨ea_x, ec_x, rfl, -⟩ := hV_.form
  obtain ⟨en_x, hen_⟩ : ∃ n, n = x.length := ⟨_, rfl⟩
  rw [← hen_] at hV_ ⊢
  have hV2_ := Lib.hid (hV_.lower hl_ PIm.lowers)
  clear hV_ hen_ hl_
  have F_ : Al rb w12 w13 := hA_
  have K_r : Hid (Blk w13 b_r #[.bool false, .string ⟨#[]⟩, .slice none 0 0, .string ⟨#[]⟩, .int .i64 0, .slice none 0 0, .slice none 0 0, .slice none 0 0] 43) := F_.blk K_r.out (by omega)
  have K_u : Hid (Blk w13 b_u #[.bool false, .string n, .slice ea_l en_l ec_l, .string on, .int .i64 ot, .slice none 0 0, .slice none 0 0, .slice none 0 0] 43) := F_.blk K_u.out (by omega)
  have V_l : Hid (RwPm nb w13 (.slice ea_l en_l ec_l) l) := V_l.out.stays (Al.kpT (T := noT) F_ hrb) (by decide) PPm.stays
  have A : Hid (Al rb w w13) := A.out.next F_
  have R := Lib.hid hR_
  clear hc_ hR_ hA_ F_
  have V_x : Hid (RwIm nb w13 (.slice ea_x en_x ec_x) x) := hV2_
  clear hV2_
  have k_u_0 : w13.cell? ⟨b_u, 0, none⟩ = some (.bool false) := Blk.c K_u.out rfl
  have f_u_0 : w13.frozen? ⟨b_u, 0, none⟩ = false := Blk.z K_u.out rfl
  have k_u_1 : w13.cell? ⟨b_u, 1, none⟩ = some (.string n) := Blk.c K_u.out rfl
  have f_u_1 : w13.frozen? ⟨b_u, 1, none⟩ = false := Blk.z K_u.out rfl
  have k_u_2 : w13.cell? ⟨b_u, 2, none⟩ = some (.slice ea_l en_l ec_l) := Blk.c K_u.out rfl
  have f_u_2 : w13.frozen? ⟨b_u, 2, none⟩ = false := Blk.z K_u.out rfl
  have k_u_3 : w13.cell? ⟨b_u, 3, none⟩ = some (.string on) := Blk.c K_u.out rfl
  have f_u_3 : w13.frozen? ⟨b_u, 3, none⟩ = false := Blk.z K_u.out rfl
  have k_u_4 : w13.cell? ⟨b_u, 4, none⟩ = some (.int .i64 ot) := Blk.c K_u.out rfl
  have f_u_4 : w13.frozen? ⟨b_u, 4, none⟩ = false := Blk.z K_u.out rfl
  have k_u_5 : w13.cell? ⟨b_u, 5, none⟩ = some (.slice none 0 0) := Blk.c K_u.out rfl
  have f_u_5 : w13.frozen? ⟨b_u, 5, none⟩ = false := Blk.z K_u.out rfl
  have k_u_6 : w13.cell? ⟨b_u, 6, none⟩ = some (.slice none 0 0) := Blk.c K_u.out rfl
  have f_u_6 : w13.frozen? ⟨b_u, 6, none⟩ = false := Blk.z K_u.out rfl
  have k_u_7 : w13.cell? ⟨b_u, 7, none⟩ = some (.slice none 0 0) := Blk.c K_u.out rfl
  have f_u_7 : w13.frozen? ⟨b_u, 7, none⟩ = false := Blk.z K_u.out rfl
  go_upto_region 14 with fail
  refine wp_letW ?_
  intro W14 hW14
  have F_ : Fr (fun k => k = b_u) w13 W14 := by rw [hW14]; exact (Fr.set_at w13 b_u 7 _)
  have kp_ : KpT 43 nb w13 W14 := KpT.one K_u.out F_
  have K2_ : Blk W14 b_u #[.bool false, .string n, .slice ea_l en_l ec_l, .string on, .int .i64 ot, .slice none 0 0, .slice none 0 0, .slice ea_x en_x ec_x] 43 := by rw [hW14]; have h := (Blk.setAt K_u.out 7 (.slice ea_x en_x ec_x)); simpa using h
  have K_r : Hid (Blk W14 b_r #[.bool false, .string ⟨#[]⟩, .slice none 0 0, .string ⟨#[]⟩, .int .i64 0, .slice none 0 0, .slice none 0 0, .slice none 0 0] 43) := F_.blk' K_r.out (by omega)
  have V_l : Hid (RwPm nb W14 (.slice ea_l en_l ec_l) l) := V_l.out.stays kp_ (by decide) PPm.stays
  have V_x : Hid (RwIm nb W14 (.slice ea_x en_x ec_x) x) := V_x.out.stays kp_ (by decide) (PIm.stays (by decide) (by decide))
  have K_u := Lib.hid K2_
  have A : Hid (Al rb w W14) := Fr.trans A.out F_ (fun i hi q => by have := HNB.out; omega)
  have R : Hid (Rp L a cc rb W14 s7) := R.out.fr F_ (fun q => by omega)
  clear k_u_0 f_u_0 k_u_1 f_u_1 k_u_2 f_u_2 k_u_3 f_u_3 k_u_4 f_u_4 k_u_5 f_u_5 k_u_6 f_u_6 k_u_7 f_u_7
  clear hW14 F_ kp_ K2_
  by_cases hv_ : markR L s7 = tVar
  · have HV := Lib.hid hv_
    obtain ⟨s7n, h_s7n⟩ : ∃ x, x = nextR s7 := ⟨_, rfl⟩
    have S_v2 : Hid (v = (varsR L s7n).1) := by show _ = _; rw [S_v.out, h_s7n]; unfold optR; rw [if_pos HV.out]
    have S_s82 : Hid (s8 = (varsR L s7n).2) := by show _ = _; rw [S_s8.out, h_s7n]; unfold optR; rw [if_pos HV.out]
    have S_s7n := Lib.hid h_s7n
    clear hv_ h_s7n S_v S_s8
    have S_v := S_v2
    have S_s8 := S_s82
    have hc_ := ptake_any EV ⟨#[118, 97, 114]⟩ (by decide) s7 W14 (HB.out.next A.out) R.out
    have e1_ : takeB L ⟨#[118, 97, 114]⟩ s7 = true := by unfold takeB; exact decide_eq_true HV.out
    have e2_ : takeR L ⟨#[118, 97, 114]⟩ s7 = s7n := by rw [S_s7n.out]; unfold takeR; exact if_pos HV.out
    rw [e1_, e2_] at hc_
    clear e1_ e2_
    go_wp2_with fail
    refine hc_.mono ?_
    rintro e w15 ⟨rfl, hR_, hA_⟩
    have F_ : Al rb W14 w15 := hA_
    have K_r : Hid (Blk w15 b_r #[.bool false, .string ⟨#[]⟩, .slice none 0 0, .string ⟨#[]⟩, .int .i64 0, .slice none 0 0, .slice none 0 0, .slice none 0 0] 43) := F_.blk K_r.out (by omega)
    have K_u : Hid (Blk w15 b_u #[.bool false, .string n, .slice ea_l en_l ec_l, .string on, .int .i64 ot, .slice none 0 0, .slice none 0 0, .slice ea_x en_x ec_x] 43) := F_.blk K_u.out (by omega)
    have V_l : Hid (RwPm nb w15 (.slice ea_l en_l ec_l) l) := V_l.out.stays (Al.kpT (T := noT) F_ hrb) (by decide) PPm.stays
    have V_x : Hid (RwIm nb w15 (.slice ea_x en_x ec_x) x) := V_x.out.stays (Al.kpT (T := noT) F_ hrb) (by decide) (PIm.stays (by decide) (by decide))
    have A : Hid (Al rb w w15) := A.out.next F_
    have R := Lib.hid hR_
    clear hc_ hR_ hA_ F_
    go_upto_region 15 with fail
    have hc_ := pvars_any EV s7n w15 (HB.out.next A.out) R.out
    rw [← S_v.out, ← S_s8.out] at hc_
    have hl_ : nb ≤ w15.heap.size := by have := A.out.size; have := HNB.out; omega
    go_wp2_with fail
    refine hc_.mono ?_
    rintro e w16 ⟨v_, rfl, hV_, hR_, hA_⟩
    obtain ⟨ea_v, ec_v, rfl, -⟩ := hV_.form
    obtain ⟨en_v, hen_⟩ : ∃ n, n = v.length := ⟨_, rfl⟩
    rw [← hen_] at hV_ ⊢
    have hV2_ := Lib.hid (hV_.lower hl_ PPm.lowers)
    clear hV_ hen_ hl_
    have F_ : Al rb w15 w16 := hA_
    have K_r : Hid (Blk w16 b_r #[.bool false, .string ⟨#[]⟩, .slice none 0 0, .string ⟨#[]⟩, .int .i64 0, .slice none 0 0, .slice none 0 0, .slice none 0 0] 43) := F_.blk K_r.out (by omega)
    have K_u : Hid (Blk w16 b_u #[.bool false, .string n, .slice ea_l en_l ec_l, .string on, .int .i64 ot, .slice none 0 0, .slice none 0 0, .slice ea_x en_x ec_x] 43) := F_.blk K_u.out (by omega)
    have V_l : Hid (RwPm nb w16 (.slice ea_l en_l ec_l) l) := V_l.out.stays (Al.kpT (T := noT) F_ hrb) (by decide) PPm.stays
    have V_x : Hid (RwIm nb w16 (.slice ea_x en_x ec_x) x) := V_x.out.stays (Al.kpT (T := noT) F_ hrb) (by decide) (PIm.stays (by decide) (by decide))
    have A : Hid (Al rb w w16) := A.out.next F_
    have R := Lib.hid hR_
    clear hc_ hR_ hA_ F_
    have V_v : Hid (RwPm nb w16 (.slice ea_v en_v ec_v) v) := hV2_
    clear hV2_
    have k_u_0 : w16.cell? ⟨b_u, 0, none⟩ = some (.bool false) := Blk.c K_u.out rfl
    have f_u_0 : w16.frozen? ⟨b_u, 0, none⟩ = false := Blk.z K_u.out rfl
    have k_u_1 : w16.cell? ⟨b_u, 1, none⟩ = some (.string n) := Blk.c K_u.out rfl
    have f_u_1 : w16.frozen? ⟨b_u, 1, none⟩ = false := Blk.z K_u.out rfl
    have k_u_2 : w16.cell? ⟨b_u, 2, none⟩ = some (.slice ea_l en_l ec_l) := Blk.c K_u.out rfl
    have f_u_2 : w16.frozen? ⟨b_u, 2, none⟩ = false := Blk.z K_u.out rfl
    have k_u_3 : w16.cell? ⟨b_u, 3, none⟩ = some (.string on) := Blk.c K_u.out rfl
    have f_u_3 : w16.frozen? ⟨b_u, 3, none⟩ = false := Blk.z K_u.out rfl
    have k_u_4 : w16.cell? ⟨b_u, 4, none⟩ = some (.int .i64 ot) := Blk.c K_u.out rfl
    have f_u_4 : w16.frozen? ⟨b_u, 4, none⟩ = false := Blk.z K_u.out rfl
    have k_u_5 : w16.cell? ⟨b_u, 5, none⟩ = some (.slice none 0 0) := Blk.c K_u.out rfl
    have f_u_5 : w16.frozen? ⟨b_u, 5, none⟩ = false := Blk.z K_u.out rfl
    have k_u_6 : w16.cell? ⟨b_u, 6, none⟩ = some (.slice none 0 0) := Blk.c K_u.out rfl
    have f_u_6 : w16.frozen? ⟨b_u, 6, none⟩ = false := Blk.z K_u.out rfl
    have k_u_7 : w16.cell? ⟨b_u, 7, none⟩ = some (.slice ea_x en_x ec_x) := Blk.c K_u.out rfl
    have f_u_7 : w16.frozen? ⟨b_u, 7, none⟩ = false := Blk.z K_u.out rfl
    go_upto_region 16 with fail
    refine wp_letW ?_
    intro W17 hW17
    have F_ : Fr (fun k => k = b_u) w16 W17 := by rw [hW17]; exact (Fr.set_at w16 b_u 5 _)
    have kp_ : KpT 43 nb w16 W17 := KpT.one K_u.out F_
    have K2_ : Blk W17 b_u #[.bool false, .string n, .slice ea_l en_l ec_l, .string on, .int .i64 ot, .slice ea_v en_v ec_v, .slice none 0 0, .slice ea_x en_x ec_x] 43 := by rw [hW17]; have h := (Blk.setAt K_u.out 5 (.slice ea_v en_v ec_v)); simpa using h
    have K_r : Hid (Blk W17 b_r #[.bool false, .string ⟨#[]⟩, .slice none 0 0, .string ⟨#[]⟩, .int .i64 0, .slice none 0 0, .slice none 0 0, .slice none 0 0] 43) := F_.blk' K_r.out (by omega)
    have V_l : Hid (RwPm nb W17 (.slice ea_l en_l ec_l) l) := V_l.out.stays kp_ (by decide) PPm.stays
    have V_x : Hid (RwIm nb W17 (.slice ea_x en_x ec_x) x) := V_x.out.stays kp_ (by decide) (PIm.stays (by decide) (by decide))
    have V_v : Hid (RwPm nb W17 (.slice ea_v en_v ec_v) v) := V_v.out.stays kp_ (by decide) PPm.stays
    have K_u := Lib.hid K2_
    have A : Hid (Al rb w W17) := Fr.trans A.out F_ (fun i hi q => by have := HNB.out; omega)
    have R : Hid (Rp L a cc rb W17 s8) := R.out.fr F_ (fun q => by omega)
    clear k_u_0 f_u_0 k_u_1 f_u_1 k_u_2 f_u_2 k_u_3 f_u_3 k_u_4 f_u_4 k_u_5 f_u_5 k_u_6 f_u_6 k_u_7 f_u_7
    clear hW17 F_ kp_ K2_
    have hb_ : Below W17.heap.size W17 (W17.alloc (.cells #[.string ⟨#[108, 101, 116]⟩] 9)) := (Below.refl _ _).alloc (Nat.le_refl _) _
    have hc_ := pneed_any EV W17.heap.size [⟨#[108, 101, 116]⟩] (by decide) (by decide) s8 (W17.alloc (.cells #[.string ⟨#[108, 101, 116]⟩] 9)) ((HB.out.next A.out).then hb_) (R.out.below hb_) (Blk.new W17 _ _) (by have := A.out.size; have := HNB.out; omega)
    have e_ : needL L [⟨#[108, 101, 116]⟩] s8 = s9 := S_s9.out.symm
    rw [e_] at hc_
    have HBA := Lib.hid hb_
    clear hb_ e_
    go_wp2_with fail
    refine hc_.mono ?_
    rintro e w18 ⟨rfl, hR_, hA_⟩
    have F_ : Al rb W17 w18 := (Al.of (rb := rb) HBA.out).next hA_
    have K_r : Hid (Blk w18 b_r #[.bool false, .string ⟨#[]⟩, .slice none 0 0, .string ⟨#[]⟩, .int .i64 0, .slice none 0 0, .slice none 0 0, .slice none 0 0] 43) := F_.blk K_r.out (by omega)
    have K_u : Hid (Blk w18 b_u #[.bool false, .string n, .slice ea_l en_l ec_l, .string on, .int .i64 ot, .slice ea_v en_v ec_v, .slice none 0 0, .slice ea_x en_x ec_x] 43) := F_.blk K_u.out (by omega)
    have V_l : Hid (RwPm nb w18 (.slice ea_l en_l ec_l) l) := V_l.out.stays (Al.kpT (T := noT) F_ hrb) (by decide) PPm.stays
    have V_x : Hid (RwIm nb w18 (.slice ea_x en_x ec_x) x) := V_x.out.stays (Al.kpT (T := noT) F_ hrb) (by decide) (PIm.stays (by decide) (by decide))
    have V_v : Hid (RwPm nb w18 (.slice ea_v en_v ec_v) v) := V_v.out.stays (Al.kpT (T := noT) F_ hrb) (by decide) PPm.stays
    have A : Hid (Al rb w w18) := A.out.next F_
    have R := Lib.hid hR_
    clear hc_ hR_ hA_ F_ HBA
    go_upto_region 17 with fail
    have hc_ := eqs_many EV hX s9 w18 (HB.out.next A.out) R.out
    rw [← S_q.out, ← S_s10.out] at hc_
    have hl_ : nb ≤ w18.heap.size := by have := A.out.size; have := HNB.out; omega
    go_wp2_with fail
    refine hc_.mono ?_
    rintro e w19 ⟨v_, rfl, hV_, hR_, hA_⟩
    obtain ⟨ea_q, ec_q, rfl, -⟩ := hV_.form
    obtain ⟨en_q, hen_⟩ : ∃ n, n = q.length := ⟨_, rfl⟩
    rw [← hen_] at hV_ ⊢
    have hV2_ := Lib.hid (hV_.lower hl_ PEq.lowers)
    clear hV_ hen_ hl_
    have F_ : Al rb w18 w19 := hA_
    have K_r : Hid (Blk w19 b_r #[.bool false, .string ⟨#[]⟩, .slice none 0 0, .string ⟨#[]⟩, .int .i64 0, .slice none 0 0, .slice none 0 0, .slice none 0 0] 43) := F_.blk K_r.out (by omega)
    have K_u : Hid (Blk w19 b_u #[.bool false, .string n, .slice ea_l en_l ec_l, .string on, .int .i64 ot, .slice ea_v en_v ec_v, .slice none 0 0, .slice ea_x en_x ec_x] 43) := F_.blk K_u.out (by omega)
    have V_l : Hid (RwPm nb w19 (.slice ea_l en_l ec_l) l) := V_l.out.stays (Al.kpT (T := noT) F_ hrb) (by decide) PPm.stays
    have V_x : Hid (RwIm nb w19 (.slice ea_x en_x ec_x) x) := V_x.out.stays (Al.kpT (T := noT) F_ hrb) (by decide) (PIm.stays (by decide) (by decide))
    have V_v : Hid (RwPm nb w19 (.slice ea_v en_v ec_v) v) := V_v.out.stays (Al.kpT (T := noT) F_ hrb) (by decide) PPm.stays
    have A : Hid (Al rb w w19) := A.out.next F_
    have R := Lib.hid hR_
    clear hc_ hR_ hA_ F_
    have V_q : Hid (RwEq nb w19 (.slice ea_q en_q ec_q) q) := hV2_
    clear hV2_
    have k_u_0 : w19.cell? ⟨b_u, 0, none⟩ = some (.bool false) := Blk.c K_u.out rfl
    have f_u_0 : w19.frozen? ⟨b_u, 0, none⟩ = false := Blk.z K_u.out rfl
    have k_u_1 : w19.cell? ⟨b_u, 1, none⟩ = some (.string n) := Blk.c K_u.out rfl
    have f_u_1 : w19.frozen? ⟨b_u, 1, none⟩ = false := Blk.z K_u.out rfl
    have k_u_2 : w19.cell? ⟨b_u, 2, none⟩ = some (.slice ea_l en_l ec_l) := Blk.c K_u.out rfl
    have f_u_2 : w19.frozen? ⟨b_u, 2, none⟩ = false := Blk.z K_u.out rfl
    have k_u_3 : w19.cell? ⟨b_u, 3, none⟩ = some (.string on) := Blk.c K_u.out rfl
    have f_u_3 : w19.frozen? ⟨b_u, 3, none⟩ = false := Blk.z K_u.out rfl
    have k_u_4 : w19.cell? ⟨b_u, 4, none⟩ = some (.int .i64 ot) := Blk.c K_u.out rfl
    have f_u_4 : w19.frozen? ⟨b_u, 4, none⟩ = false := Blk.z K_u.out rfl
    have k_u_5 : w19.cell? ⟨b_u, 5, none⟩ = some (.slice ea_v en_v ec_v) := Blk.c K_u.out rfl
    have f_u_5 : w19.frozen? ⟨b_u, 5, none⟩ = false := Blk.z K_u.out rfl
    have k_u_6 : w19.cell? ⟨b_u, 6, none⟩ = some (.slice none 0 0) := Blk.c K_u.out rfl
    have f_u_6 : w19.frozen? ⟨b_u, 6, none⟩ = false := Blk.z K_u.out rfl
    have k_u_7 : w19.cell? ⟨b_u, 7, none⟩ = some (.slice ea_x en_x ec_x) := Blk.c K_u.out rfl
    have f_u_7 : w19.frozen? ⟨b_u, 7, none⟩ = false := Blk.z K_u.out rfl
    go_upto_region 18 with fail
    refine wp_letW ?_
    intro W20 hW20
    have F_ : Fr (fun k => k = b_u) w19 W20 := by rw [hW20]; exact (Fr.set_at w19 b_u 6 _)
    have kp_ : KpT 43 nb w19 W20 := KpT.one K_u.out F_
    have K2_ : Blk W20 b_u #[.bool false, .string n, .slice ea_l en_l ec_l, .string on, .int .i64 ot, .slice ea_v en_v ec_v, .slice ea_q en_q ec_q, .slice ea_x en_x ec_x] 43 := by rw [hW20]; have h := (Blk.setAt K_u.out 6 (.slice ea_q en_q ec_q)); simpa using h
    have K_r : Hid (Blk W20 b_r #[.bool false, .string ⟨#[]⟩, .slice none 0 0, .string ⟨#[]⟩, .int .i64 0, .slice none 0 0, .slice none 0 0, .slice none 0 0] 43) := F_.blk' K_r.out (by omega)
    have V_l : Hid (RwPm nb W20 (.slice ea_l en_l ec_l) l) := V_l.out.stays kp_ (by decide) PPm.stays
    have V_x : Hid (RwIm nb W20 (.slice ea_x en_x ec_x) x) := V_x.out.stays kp_ (by decide) (PIm.stays (by decide) (by decide))
    have V_v : Hid (RwPm nb W20 (.slice ea_v en_v ec_v) v) := V_v.out.stays kp_ (by decide) PPm.stays
    have V_q : Hid (RwEq nb W20 (.slice ea_q en_q ec_q) q) := V_q.out.stays kp_ (by decide) (PEq.stays (by decide))
    have K_u := Lib.hid K2_
    have A : Hid (Al rb w W20) := Fr.trans A.out F_ (fun i hi q => by have := HNB.out; omega)
    have R : Hid (Rp L a cc rb W20 s10) := R.out.fr F_ (fun q => by omega)
    clear k_u_0 f_u_0 k_u_1 f_u_1 k_u_2 f_u_2 k_u_3 f_u_3 k_u_4 f_u_4 k_u_5 f_u_5 k_u_6 f_u_6 k_u_7 f_u_7
    clear hW20 F_ kp_ K2_
    have hb_ : Below W20.heap.size W20 (W20.alloc (.cells #[.string ⟨#[116, 101, 108]⟩] 9)) := (Below.refl _ _).alloc (Nat.le_refl _) _
    have hc_ := pneed_any EV W20.heap.size [⟨#[116, 101, 108]⟩] (by decide) (by decide) s10 (W20.alloc (.cells #[.string ⟨#[116, 101, 108]⟩] 9)) ((HB.out.next A.out).then hb_) (R.out.below hb_) (Blk.new W20 _ _) (by have := A.out.size; have := HNB.out; omega)
    have e_ : needL L [⟨#[116, 101, 108]⟩] s10 = s11 := S_s11.out.symm
    rw [e_] at hc_
    have HBA := Lib.hid hb_
    clear hb_ e_
    go_wp2_with fail
    refine hc_.mono ?_
    rintro e w21 ⟨rfl, hR_, hA_⟩
    have F_ : Al rb W20 w21 := (Al.of (rb := rb) HBA.out).next hA_
    have K_r : Hid (Blk w21 b_r #[.bool false, .string ⟨#[]⟩, .slice none 0 0, .string ⟨#[]⟩, .int .i64 0, .slice none 0 0, .slice none 0 0, .slice none 0 0] 43) := F_.blk K_r.out (by omega)
    have K_u : Hid (Blk w21 b_u #[.bool false, .string n, .slice ea_l en_l ec_l, .string on, .int .i64 ot, .slice ea_v en_v ec_v, .slice ea_q en_q ec_q, .slice ea_x en_x ec_x] 43) := F_.blk K_u.out (by omega)
    have V_l : Hid (RwPm nb w21 (.slice ea_l en_l ec_l) l) := V_l.out.stays (Al.kpT (T := noT) F_ hrb) (by decide) PPm.stays
    have V_x : Hid (RwIm nb w21 (.slice ea_x en_x ec_x) x) := V_x.out.stays (Al.kpT (T := noT) F_ hrb) (by decide) (PIm.stays (by decide) (by decide))
    have V_v : Hid (RwPm nb w21 (.slice ea_v en_v ec_v) v) := V_v.out.stays (Al.kpT (T := noT) F_ hrb) (by decide) PPm.stays
    have V_q : Hid (RwEq nb w21 (.slice ea_q en_q ec_q) q) := V_q.out.stays (Al.kpT (T := noT) F_ hrb) (by decide) (PEq.stays (by decide))
    have A : Hid (Al rb w w21) := A.out.next F_
    have R := Lib.hid hR_
    clear hc_ hR_ hA_ F_ HBA
    have k_u_0 : w21.cell? ⟨b_u, 0, none⟩ = some (.bool false) := Blk.c K_u.out rfl
    have k_u_1 : w21.cell? ⟨b_u, 1, none⟩ = some (.string n) := Blk.c K_u.out rfl
    have k_u_2 : w21.cell? ⟨b_u, 2, none⟩ = some (.slice ea_l en_l ec_l) := Blk.c K_u.out rfl
    have k_u_3 : w21.cell? ⟨b_u, 3, none⟩ = some (.string on) := Blk.c K_u.out rfl
    have k_u_4 : w21.cell? ⟨b_u, 4, none⟩ = some (.int .i64 ot) := Blk.c K_u.out rfl
    have k_u_5 : w21.cell? ⟨b_u, 5, none⟩ = some (.slice ea_v en_v ec_v) := Blk.c K_u.out rfl
    have k_u_6 : w21.cell? ⟨b_u, 6, none⟩ = some (.slice ea_q en_q ec_q) := Blk.c K_u.out rfl
    have k_u_7 : w21.cell? ⟨b_u, 7, none⟩ = some (.slice ea_x en_x ec_x) := Blk.c K_u.out rfl
    have k_r_0 : w21.cell? ⟨b_r, 0, none⟩ = some (.bool false) := Blk.c K_r.out rfl
    have f_r_0 : w21.frozen? ⟨b_r, 0, none⟩ = false := Blk.z K_r.out rfl
    have k_r_1 : w21.cell? ⟨b_r, 1, none⟩ = some (.string ⟨#[]⟩) := Blk.c K_r.out rfl
    have f_r_1 : w21.frozen? ⟨b_r, 1, none⟩ = false := Blk.z K_r.out rfl
    have k_r_2 : w21.cell? ⟨b_r, 2, none⟩ = some (.slice none 0 0) := Blk.c K_r.out rfl
    have f_r_2 : w21.frozen? ⟨b_r, 2, none⟩ = false := Blk.z K_r.out rfl
    have k_r_3 : w21.cell? ⟨b_r, 3, none⟩ = some (.string ⟨#[]⟩) := Blk.c K_r.out rfl
    have f_r_3 : w21.frozen? ⟨b_r, 3, none⟩ = false := Blk.z K_r.out rfl
    have k_r_4 : w21.cell? ⟨b_r, 4, none⟩ = some (.int .i64 0) := Blk.c K_r.out rfl
    have f_r_4 : w21.frozen? ⟨b_r, 4, none⟩ = false := Blk.z K_r.out rfl
    have k_r_5 : w21.cell? ⟨b_r, 5, none⟩ = some (.slice none 0 0) := Blk.c K_r.out rfl
    have f_r_5 : w21.frozen? ⟨b_r, 5, none⟩ = false := Blk.z K_r.out rfl
    have k_r_6 : w21.cell? ⟨b_r, 6, none⟩ = some (.slice none 0 0) := Blk.c K_r.out rfl
    have f_r_6 : w21.frozen? ⟨b_r, 6, none⟩ = false := Blk.z K_r.out rfl
    have k_r_7 : w21.cell? ⟨b_r, 7, none⟩ = some (.slice none 0 0) := Blk.c K_r.out rfl
    have f_r_7 : w21.frozen? ⟨b_r, 7, none⟩ = false := Blk.z K_r.out rfl
    go_wp2_with fail
    obtain ⟨WE, hWE⟩ : ∃ WE, WE = ((((((((w21.setCell ⟨b_r, 0, none⟩ (.bool false)).setCell ⟨b_r, 1, none⟩ (.string n)).setCell ⟨b_r, 2, none⟩ (.slice ea_l en_l ec_l)).setCell ⟨b_r, 3, none⟩ (.string on)).setCell ⟨b_r, 4, none⟩ (.int .i64 ot)).setCell ⟨b_r, 5, none⟩ (.slice ea_v en_v ec_v)).setCell ⟨b_r, 6, none⟩ (.slice ea_q en_q ec_q)).setCell ⟨b_r, 7, none⟩ (.slice ea_x en_x ec_x)) := ⟨_, rfl⟩
    have KE : Blk WE b_r #[.bool false, .string n, .slice ea_l en_l ec_l, .string on, .int .i64 ot, .slice ea_v en_v ec_v, .slice ea_q en_q ec_q, .slice ea_x en_x ec_x] 43 := by rw [hWE]; have h := (Blk.setAt (Blk.setAt (Blk.setAt (Blk.setAt (Blk.setAt (Blk.setAt (Blk.setAt (Blk.setAt K_r.out 0 (.bool false)) 1 (.string n)) 2 (.slice ea_l en_l ec_l)) 3 (.string on)) 4 (.int .i64 ot)) 5 (.slice ea_v en_v ec_v)) 6 (.slice ea_q en_q ec_q)) 7 (.slice ea_x en_x ec_x)); simpa using h
    have FE : Fr (fun k => k = b_r) w21 WE := by rw [hWE]; exact (Fr.trans (Fr.trans (Fr.trans (Fr.trans (Fr.trans (Fr.trans (Fr.trans (Fr.set_at w21 b_r 0 _) (Fr.set_at _ b_r 1 _) (fun _ _ q => q)) (Fr.set_at _ b_r 2 _) (fun _ _ q => q)) (Fr.set_at _ b_r 3 _) (fun _ _ q => q)) (Fr.set_at _ b_r 4 _) (fun _ _ q => q)) (Fr.set_at _ b_r 5 _) (fun _ _ q => q)) (Fr.set_at _ b_r 6 _) (fun _ _ q => q)) (Fr.set_at _ b_r 7 _) (fun _ _ q => q))
    have kpE : KpT 43 nb w21 WE := KpT.one K_r.out FE
    have z0 : WE.cell? ⟨b_r, 0, none⟩ = some (.bool false) := Blk.c KE rfl
    have z1 : WE.cell? ⟨b_r, 1, none⟩ = some (.string n) := Blk.c KE rfl
    have z2 : WE.cell? ⟨b_r, 2, none⟩ = some (.slice ea_l en_l ec_l) := Blk.c KE rfl
    have z3 : WE.cell? ⟨b_r, 3, none⟩ = some (.string on) := Blk.c KE rfl
    have z4 : WE.cell? ⟨b_r, 4, none⟩ = some (.int .i64 ot) := Blk.c KE rfl
    have z5 : WE.cell? ⟨b_r, 5, none⟩ = some (.slice ea_v en_v ec_v) := Blk.c KE rfl
    have z6 : WE.cell? ⟨b_r, 6, none⟩ = some (.slice ea_q en_q ec_q) := Blk.c KE rfl
    have z7 : WE.cell? ⟨b_r, 7, none⟩ = some (.slice ea_x en_x ec_x) := Blk.c KE rfl
    rw [← hWE]
    refine bodyPost_ret (v := .agg #[.bool false, .string n, .slice ea_l en_l ec_l, .string on, .int .i64 ot, .slice ea_v en_v ec_v, .slice ea_q en_q ec_q, .slice ea_x en_x ec_x]) (by simp [results, Tryz.results17, go_sem, z0, z1, z2, z3, z4, z5, z6, z7]) rfl ?_
    have V_l : Hid (RwPm nb WE (.slice ea_l en_l ec_l) l) := V_l.out.stays kpE (by decide) PPm.stays
    have V_x : Hid (RwIm nb WE (.slice ea_x en_x ec_x) x) := V_x.out.stays kpE (by decide) (PIm.stays (by decide) (by decide))
    have V_v : Hid (RwPm nb WE (.slice ea_v en_v ec_v) v) := V_v.out.stays kpE (by decide) PPm.stays
    have V_q : Hid (RwEq nb WE (.slice ea_q en_q ec_q) q) := V_q.out.stays kpE (by decide) (PEq.stays (by decide))
    have A : Al rb w WE := Fr.trans A.out FE (fun i hi q => by have := HNB.out; omega)
    have R : Rp L a cc rb WE s11 := R.out.fr FE (fun q => by omega)
    exact ⟨_, _, _, _, _, _, _, _, _, _, _, _, _, _, _, _, rfl, by rw [HF.out, ← HNB.out]; exact ⟨_, _, _, _, rfl, V_l, V_v, V_q, V_x⟩, by rw [HF.out]; exact R, A⟩
  · have HV := Lib.hid hv_
    have hv2 : v = [] := by rw [S_v.out]; unfold optR; rw [if_neg HV.out]
    have hs2 : s7 = s8 := by rw [S_s8.out]; unfold optR; rw [if_neg HV.out]
    clear hv_ S_v S_s8
    subst hv2 hs2
    have hc_ := ptake_any EV ⟨#[118, 97, 114]⟩ (by decide) s7 W14 (HB.out.next A.out) R.out
    have e1_ : takeB L ⟨#[118, 97, 114]⟩ s7 = false := by unfold takeB; exact decide_eq_false HV.out
    have e2_ : takeR L ⟨#[118, 97, 114]⟩ s7 = s7 := by unfold takeR; exact if_neg HV.out
    rw [e1_, e2_] at hc_
    clear e1_ e2_
    go_wp2_with fail
    refine hc_.mono ?_
    rintro e w15 ⟨rfl, hR_, hA_⟩
    have F_ : Al rb W14 w15 := hA_
    have K_r : Hid (Blk w15 b_r #[.bool false, .string ⟨#[]⟩, .slice none 0 0, .string ⟨#[]⟩, .int .i64 0, .slice none 0 0, .slice none 0 0, .slice none 0 0] 43) := F_.blk K_r.out (by omega)
    have K_u : Hid (Blk w15 b_u #[.bool false, .string n, .slice ea_l en_l ec_l, .string on, .int .i64 ot, .slice none 0 0, .slice none 0 0, .slice ea_x en_x ec_x] 43) := F_.blk K_u.out (by omega)
    have V_l : Hid (RwPm nb w15 (.slice ea_l en_l ec_l) l) := V_l.out.stays (Al.kpT (T := noT) F_ hrb) (by decide) PPm.stays
    have V_x : Hid (RwIm nb w15 (.slice ea_x en_x ec_x) x) := V_x.out.stays (Al.kpT (T := noT) F_ hrb) (by decide) (PIm.stays (by decide) (by decide))
    have A : Hid (Al rb w w15) := A.out.next F_
    have R := Lib.hid hR_
    clear hc_ hR_ hA_ F_
    go_upto_region 16 with fail
    have hb_ : Below w15.heap.size w15 (w15.alloc (.cells #[.string ⟨#[108, 101, 116]⟩] 9)) := (Below.refl _ _).alloc (Nat.le_refl _) _
    have hc_ := pneed_any EV w15.heap.size [⟨#[108, 101, 116]⟩] (by decide) (by decide) s7 (w15.alloc (.cells #[.string ⟨#[108, 101, 116]⟩] 9)) ((HB.out.next A.out).then hb_) (R.out.below hb_) (Blk.new w15 _ _) (by have := A.out.size; have := HNB.out; omega)
    have e_ : needL L [⟨#[108, 101, 116]⟩] s7 = s9 := S_s9.out.symm
    rw [e_] at hc_
    have HBA := Lib.hid hb_
    clear hb_ e_
    go_wp2_with fail
    refine hc_.mono ?_
    rintro e w16 ⟨rfl, hR_, hA_⟩
    have F_ : Al rb w15 w16 := (Al.of (rb := rb) HBA.out).next hA_
    have K_r : Hid (Blk w16 b_r #[.bool false, .string ⟨#[]⟩, .slice none 0 0, .string ⟨#[]⟩, .int .i64 0, .slice none 0 0, .slice none 0 0, .slice none 0 0] 43) := F_.blk K_r.out (by omega)
    have K_u : Hid (Blk w16 b_u #[.bool false, .string n, .slice ea_l en_l ec_l, .string on, .int .i64 ot, .slice none 0 0, .slice none 0 0, .slice ea_x en_x ec_x] 43) := F_.blk K_u.out (by omega)
    have V_l : Hid (RwPm nb w16 (.slice ea_l en_l ec_l) l) := V_l.out.stays (Al.kpT (T := noT) F_ hrb) (by decide) PPm.stays
    have V_x : Hid (RwIm nb w16 (.slice ea_x en_x ec_x) x) := V_x.out.stays (Al.kpT (T := noT) F_ hrb) (by decide) (PIm.stays (by decide) (by decide))
    have A : Hid (Al rb w w16) := A.out.next F_
    have R := Lib.hid hR_
    clear hc_ hR_ hA_ F_ HBA
    go_upto_region 17 with fail
    have hc_ := eqs_many EV hX s9 w16 (HB.out.next A.out) R.out
    rw [← S_q.out, ← S_s10.out] at hc_
    have hl_ : nb ≤ w16.heap.size := by have := A.out.size; have := HNB.out; omega
    go_wp2_with fail
    refine hc_.mono ?_
    rintro e w17 ⟨v_, rfl, hV_, hR_, hA_⟩
    obtain ⟨ea_q, ec_q, rfl, -⟩ := hV_.form
    obtain ⟨en_q, hen_⟩ : ∃ n, n = q.length := ⟨_, rfl⟩
    rw [← hen_] at hV_ ⊢
    have hV2_ := Lib.hid (hV_.lower hl_ PEq.lowers)
    clear hV_ hen_ hl_
    have F_ : Al rb w16 w17 := hA_
    have K_r : Hid (Blk w17 b_r #[.bool false, .string ⟨#[]⟩, .slice none 0 0, .string ⟨#[]⟩, .int .i64 0, .slice none 0 0, .slice none 0 0, .slice none 0 0] 43) := F_.blk K_r.out (by omega)
    have K_u : Hid (Blk w17 b_u #[.bool false, .string n, .slice ea_l en_l ec_l, .string on, .int .i64 ot, .slice none 0 0, .slice none 0 0, .slice ea_x en_x ec_x] 43) := F_.blk K_u.out (by omega)
    have V_l : Hid (RwPm nb w17 (.slice ea_l en_l ec_l) l) := V_l.out.stays (Al.kpT (T := noT) F_ hrb) (by decide) PPm.stays
    have V_x : Hid (RwIm nb w17 (.slice ea_x en_x ec_x) x) := V_x.out.stays (Al.kpT (T := noT) F_ hrb) (by decide) (PIm.stays (by decide) (by decide))
    have A : Hid (Al rb w w17) := A.out.next F_
    have R := Lib.hid hR_
    clear hc_ hR_ hA_ F_
    have V_q : Hid (RwEq nb w17 (.slice ea_q en_q ec_q) q) := hV2_
    clear hV2_
    have k_u_0 : w17.cell? ⟨b_u, 0, none⟩ = some (.bool false) := Blk.c K_u.out rfl
    have f_u_0 : w17.frozen? ⟨b_u, 0, none⟩ = false := Blk.z K_u.out rfl
    have k_u_1 : w17.cell? ⟨b_u, 1, none⟩ = some (.string n) := Blk.c K_u.out rfl
    have f_u_1 : w17.frozen? ⟨b_u, 1, none⟩ = false := Blk.z K_u.out rfl
    have k_u_2 : w17.cell? ⟨b_u, 2, none⟩ = some (.slice ea_l en_l ec_l) := Blk.c K_u.out rfl
    have f_u_2 : w17.frozen? ⟨b_u, 2, none⟩ = false := Blk.z K_u.out rfl
    have k_u_3 : w17.cell? ⟨b_u, 3, none⟩ = some (.string on) := Blk.c K_u.out rfl
    have f_u_3 : w17.frozen? ⟨b_u, 3, none⟩ = false := Blk.z K_u.out rfl
    have k_u_4 : w17.cell? ⟨b_u, 4, none⟩ = some (.int .i64 ot) := Blk.c K_u.out rfl
    have f_u_4 : w17.frozen? ⟨b_u, 4, none⟩ = false := Blk.z K_u.out rfl
    have k_u_5 : w17.cell? ⟨b_u, 5, none⟩ = some (.slice none 0 0) := Blk.c K_u.out rfl
    have f_u_5 : w17.frozen? ⟨b_u, 5, none⟩ = false := Blk.z K_u.out rfl
    have k_u_6 : w17.cell? ⟨b_u, 6, none⟩ = some (.slice none 0 0) := Blk.c K_u.out rfl
    have f_u_6 : w17.frozen? ⟨b_u, 6, none⟩ = false := Blk.z K_u.out rfl
    have k_u_7 : w17.cell? ⟨b_u, 7, none⟩ = some (.slice ea_x en_x ec_x) := Blk.c K_u.out rfl
    have f_u_7 : w17.frozen? ⟨b_u, 7, none⟩ = false := Blk.z K_u.out rfl
    go_upto_region 18 with fail
    refine wp_letW ?_
    intro W18 hW18
    have F_ : Fr (fun k => k = b_u) w17 W18 := by rw [hW18]; exact (Fr.set_at w17 b_u 6 _)
    have kp_ : KpT 43 nb w17 W18 := KpT.one K_u.out F_
    have K2_ : Blk W18 b_u #[.bool false, .string n, .slice ea_l en_l ec_l, .string on, .int .i64 ot, .slice none 0 0, .slice ea_q en_q ec_q, .slice ea_x en_x ec_x] 43 := by rw [hW18]; have h := (Blk.setAt K_u.out 6 (.slice ea_q en_q ec_q)); simpa using h
    have K_r : Hid (Blk W18 b_r #[.bool false, .string ⟨#[]⟩, .slice none 0 0, .string ⟨#[]⟩, .int .i64 0, .slice none 0 0, .slice none 0 0, .slice none 0 0] 43) := F_.blk' K_r.out (by omega)
    have V_l : Hid (RwPm nb W18 (.slice ea_l en_l ec_l) l) := V_l.out.stays kp_ (by decide) PPm.stays
    have V_x : Hid (RwIm nb W18 (.slice ea_x en_x ec_x) x) := V_x.out.stays kp_ (by decide) (PIm.stays (by decide) (by decide))
    have V_q : Hid (RwEq nb W18 (.slice ea_q en_q ec_q) q) := V_q.out.stays kp_ (by decide) (PEq.stays (by decide))
    have K_u := Lib.hid K2_
    have A : Hid (Al rb w W18) := Fr.trans A.out F_ (fun i hi q => by have := HNB.out; omega)
    have R : Hid (Rp L a cc rb W18 s10) := R.out.fr F_ (fun q => by omega)
    clear k_u_0 f_u_0 k_u_1 f_u_1 k_u_2 f_u_2 k_u_3 f_u_3 k_u_4 f_u_4 k_u_5 f_u_5 k_u_6 f_u_6 k_u_7 f_u_7
    clear hW18 F_ kp_ K2_
    have hb_ : Below W18.heap.size W18 (W18.alloc (.cells #[.string ⟨#[116, 101, 108]⟩] 9)) := (Below.refl _ _).alloc (Nat.le_refl _) _
    have hc_ := pneed_any EV W18.heap.size [⟨#[116, 101, 108]⟩] (by decide) (by decide) s10 (W18.alloc (.cells #[.string ⟨#[116, 101, 108]⟩] 9)) ((HB.out.next A.out).then hb_) (R.out.below hb_) (Blk.new W18 _ _) (by have := A.out.size; have := HNB.out; omega)
    have e_ : needL L [⟨#[116, 101, 108]⟩] s10 = s11 := S_s11.out.symm
    rw [e_] at hc_
    have HBA := Lib.hid hb_
    clear hb_ e_
    go_wp2_with fail
    refine hc_.mono ?_
    rintro e w19 ⟨rfl, hR_, hA_⟩
    have F_ : Al rb W18 w19 := (Al.of (rb := rb) HBA.out).next hA_
    have K_r : Hid (Blk w19 b_r #[.bool false, .string ⟨#[]⟩, .slice none 0 0, .string ⟨#[]⟩, .int .i64 0, .slice none 0 0, .slice none 0 0, .slice none 0 0] 43) := F_.blk K_r.out (by omega)
    have K_u : Hid (Blk w19 b_u #[.bool false, .string n, .slice ea_l en_l ec_l, .string on, .int .i64 ot, .slice none 0 0, .slice ea_q en_q ec_q, .slice ea_x en_x ec_x] 43) := F_.blk K_u.out (by omega)
    have V_l : Hid (RwPm nb w19 (.slice ea_l en_l ec_l) l) := V_l.out.stays (Al.kpT (T := noT) F_ hrb) (by decide) PPm.stays
    have V_x : Hid (RwIm nb w19 (.slice ea_x en_x ec_x) x) := V_x.out.stays (Al.kpT (T := noT) F_ hrb) (by decide) (PIm.stays (by decide) (by decide))
    have V_q : Hid (RwEq nb w19 (.slice ea_q en_q ec_q) q) := V_q.out.stays (Al.kpT (T := noT) F_ hrb) (by decide) (PEq.stays (by decide))
    have A : Hid (Al rb w w19) := A.out.next F_
    have R := Lib.hid hR_
    clear hc_ hR_ hA_ F_ HBA
    have k_u_0 : w19.cell? ⟨b_u, 0, none⟩ = some (.bool false) := Blk.c K_u.out rfl
    have k_u_1 : w19.cell? ⟨b_u, 1, none⟩ = some (.string n) := Blk.c K_u.out rfl
    have k_u_2 : w19.cell? ⟨b_u, 2, none⟩ = some (.slice ea_l en_l ec_l) := Blk.c K_u.out rfl
    have k_u_3 : w19.cell? ⟨b_u, 3, none⟩ = some (.string on) := Blk.c K_u.out rfl
    have k_u_4 : w19.cell? ⟨b_u, 4, none⟩ = some (.int .i64 ot) := Blk.c K_u.out rfl
    have k_u_5 : w19.cell? ⟨b_u, 5, none⟩ = some (.slice none 0 0) := Blk.c K_u.out rfl
    have k_u_6 : w19.cell? ⟨b_u, 6, none⟩ = some (.slice ea_q en_q ec_q) := Blk.c K_u.out rfl
    have k_u_7 : w19.cell? ⟨b_u, 7, none⟩ = some (.slice ea_x en_x ec_x) := Blk.c K_u.out rfl
    have k_r_0 : w19.cell? ⟨b_r, 0, none⟩ = some (.bool false) := Blk.c K_r.out rfl
    have f_r_0 : w19.frozen? ⟨b_r, 0, none⟩ = false := Blk.z K_r.out rfl
    have k_r_1 : w19.cell? ⟨b_r, 1, none⟩ = some (.string ⟨#[]⟩) := Blk.c K_r.out rfl
    have f_r_1 : w19.frozen? ⟨b_r, 1, none⟩ = false := Blk.z K_r.out rfl
    have k_r_2 : w19.cell? ⟨b_r, 2, none⟩ = some (.slice none 0 0) := Blk.c K_r.out rfl
    have f_r_2 : w19.frozen? ⟨b_r, 2, none⟩ = false := Blk.z K_r.out rfl
    have k_r_3 : w19.cell? ⟨b_r, 3, none⟩ = some (.string ⟨#[]⟩) := Blk.c K_r.out rfl
    have f_r_3 : w19.frozen? ⟨b_r, 3, none⟩ = false := Blk.z K_r.out rfl
    have k_r_4 : w19.cell? ⟨b_r, 4, none⟩ = some (.int .i64 0) := Blk.c K_r.out rfl
    have f_r_4 : w19.frozen? ⟨b_r, 4, none⟩ = false := Blk.z K_r.out rfl
    have k_r_5 : w19.cell? ⟨b_r, 5, none⟩ = some (.slice none 0 0) := Blk.c K_r.out rfl
    have f_r_5 : w19.frozen? ⟨b_r, 5, none⟩ = false := Blk.z K_r.out rfl
    have k_r_6 : w19.cell? ⟨b_r, 6, none⟩ = some (.slice none 0 0) := Blk.c K_r.out rfl
    have f_r_6 : w19.frozen? ⟨b_r, 6, none⟩ = false := Blk.z K_r.out rfl
    have k_r_7 : w19.cell? ⟨b_r, 7, none⟩ = some (.slice none 0 0) := Blk.c K_r.out rfl
    have f_r_7 : w19.frozen? ⟨b_r, 7, none⟩ = false := Blk.z K_r.out rfl
    go_wp2_with fail
    obtain ⟨WE, hWE⟩ : ∃ WE, WE = ((((((((w19.setCell ⟨b_r, 0, none⟩ (.bool false)).setCell ⟨b_r, 1, none⟩ (.string n)).setCell ⟨b_r, 2, none⟩ (.slice ea_l en_l ec_l)).setCell ⟨b_r, 3, none⟩ (.string on)).setCell ⟨b_r, 4, none⟩ (.int .i64 ot)).setCell ⟨b_r, 5, none⟩ (.slice none 0 0)).setCell ⟨b_r, 6, none⟩ (.slice ea_q en_q ec_q)).setCell ⟨b_r, 7, none⟩ (.slice ea_x en_x ec_x)) := ⟨_, rfl⟩
    have KE : Blk WE b_r #[.bool false, .string n, .slice ea_l en_l ec_l, .string on, .int .i64 ot, .slice none 0 0, .slice ea_q en_q ec_q, .slice ea_x en_x ec_x] 43 := by rw [hWE]; have h := (Blk.setAt (Blk.setAt (Blk.setAt (Blk.setAt (Blk.setAt (Blk.setAt (Blk.setAt (Blk.setAt K_r.out 0 (.bool false)) 1 (.string n)) 2 (.slice ea_l en_l ec_l)) 3 (.string on)) 4 (.int .i64 ot)) 5 (.slice none 0 0)) 6 (.slice ea_q en_q ec_q)) 7 (.slice ea_x en_x ec_x)); simpa using h
    have FE : Fr (fun k => k = b_r) w19 WE := by rw [hWE]; exact (Fr.trans (Fr.trans (Fr.trans (Fr.trans (Fr.trans (Fr.trans (Fr.trans (Fr.set_at w19 b_r 0 _) (Fr.set_at _ b_r 1 _) (fun _ _ q => q)) (Fr.set_at _ b_r 2 _) (fun _ _ q => q)) (Fr.set_at _ b_r 3 _) (fun _ _ q => q)) (Fr.set_at _ b_r 4 _) (fun _ _ q => q)) (Fr.set_at _ b_r 5 _) (fun _ _ q => q)) (Fr.set_at _ b_r 6 _) (fun _ _ q => q)) (Fr.set_at _ b_r 7 _) (fun _ _ q => q))
    have kpE : KpT 43 nb w19 WE := KpT.one K_r.out FE
    have z0 : WE.cell? ⟨b_r, 0, none⟩ = some (.bool false) := Blk.c KE rfl
    have z1 : WE.cell? ⟨b_r, 1, none⟩ = some (.string n) := Blk.c KE rfl
    have z2 : WE.cell? ⟨b_r, 2, none⟩ = some (.slice ea_l en_l ec_l) := Blk.c KE rfl
    have z3 : WE.cell? ⟨b_r, 3, none⟩ = some (.string on) := Blk.c KE rfl
    have z4 : WE.cell? ⟨b_r, 4, none⟩ = some (.int .i64 ot) := Blk.c KE rfl
    have z5 : WE.cell? ⟨b_r, 5, none⟩ = some (.slice none 0 0) := Blk.c KE rfl
    have z6 : WE.cell? ⟨b_r, 6, none⟩ = some (.slice ea_q en_q ec_q) := Blk.c KE rfl
    have z7 : WE.cell? ⟨b_r, 7, none⟩ = some (.slice ea_x en_x ec_x) := Blk.c KE rfl
    rw [← hWE]
    refine bodyPost_ret (v := .agg #[.bool false, .string n, .slice ea_l en_l ec_l, .string on, .int .i64 ot, .slice none 0 0, .slice ea_q en_q ec_q, .slice ea_x en_x ec_x]) (by simp [results, Tryz.results17, go_sem, z0, z1, z2, z3, z4, z5, z6, z7]) rfl ?_
    have V_l : Hid (RwPm nb WE (.slice ea_l en_l ec_l) l) := V_l.out.stays kpE (by decide) PPm.stays
    have V_x : Hid (RwIm nb WE (.slice ea_x en_x ec_x) x) := V_x.out.stays kpE (by decide) (PIm.stays (by decide) (by decide))
    have V_q : Hid (RwEq nb WE (.slice ea_q en_q ec_q) q) := V_q.out.stays kpE (by decide) (PEq.stays (by decide))
    have A : Al rb w WE := Fr.trans A.out FE (fun i hi q => by have := HNB.out; omega)
    have R : Rp L a cc rb WE s11 := R.out.fr FE (fun q => by omega)
    exact ⟨_, _, _, _, _, _, _, _, _, _, _, _, _, _, _, _, rfl, by rw [HF.out, ← HNB.out]; exact ⟨_, _, _, _, rfl, V_l, Rw.nil_, V_q, V_x⟩, by rw [HF.out]; exact R, A⟩
end
end Go.Proofs.YtahalimekacliaaGreatDoor
