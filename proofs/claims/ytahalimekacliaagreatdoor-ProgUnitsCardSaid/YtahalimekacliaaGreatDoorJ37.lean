/- The reader of programs: modes, imports: the walk. (Printed by gen/straight.py.) -/
import Derived.Test.YtahalimekacliaaGreatDoorJ36
set_option linter.unusedVariables false
set_option linter.unusedSimpArgs false
namespace Go.Proofs.YtahalimekacliaaGreatDoor
open Go.RowKit Go.Shelf Tx Px Mx Gx
section
variable {L : List Tok} {a : Option Addr} {cc rb : Nat} {w0 : World} {X : XO}
set_option maxRecDepth 100000 in
set_option maxHeartbeats 8000000 in
theorem pitem4_any (EV : Hid (EnvOk w0 rb a cc L)) (hX : Hid (XOk L X)) (s : Rs) (hm : markR L s = tMode) (w : World) (hB : Al rb w0 w) (hR : Rp L a cc rb w s) :
    Calls Tryz.prog 67 #[.pointer (some ⟨rb, 0, none⟩)] w fun e w' => ∃ (kd : Int) (n : ByteArray) (t : Int) (ea : Option Addr) (en ec : Nat) (fa : Option Addr) (fn fc : Nat) (ga : Option Addr) (gn gc : Nat), e = .returned (.agg #[.int .i64 kd, .string n, .int .i64 t, .slice ea en ec, .slice fa fn fc, .slice ga gn gc]) ∧ PIm w.heap.size w' [.int .i64 kd, .string n, .int .i64 t, .slice ea en ec, .slice fa fn fc, .slice ga gn gc] (itemR L X s).1 ∧ Rp L a cc rb w' (itemR L X s).2 ∧ Al rb w w' := by
  have hrb := hR.lt
  obtain ⟨nb, hnb⟩ : ∃ nb, nb = w.heap.size := ⟨_, rfl⟩
  rw [← hnb] at hrb
  have HNB := Lib.hid hnb
  have A : Hid (Al rb w w) := Al.refl rb w
  have R := Lib.hid hR
  have HB := Lib.hid hB
  have hlt := (mark_lt (L := L) (s := s) (by rw [hm]; decide)).2
  obtain ⟨m, hmm⟩ : ∃ m, m = markR L s := ⟨_, rfl⟩
  have S_m := Lib.hid hmm
  have q0 : (m.toList == [97, 115, 115, 117, 109, 101]) = false := by rw [hmm, hm, Lib.toList_data]; decide +kernel
  have q1 : (m.toList == [103, 117, 97, 114, 97, 110, 116, 101, 101]) = false := by rw [hmm, hm, Lib.toList_data]; decide +kernel
  have q2 : (m.toList == [103, 104, 111, 115, 116]) = false := by rw [hmm, hm, Lib.toList_data]; decide +kernel
  have q3 : (m.toList == [109, 111, 100, 101]) = true := by rw [hmm, hm, Lib.toList_data]; decide +kernel
  have HM := Lib.hid hm
  clear hmm hm
  obtain ⟨s1, h_s1⟩ : ∃ x, x = nextR s := ⟨_, rfl⟩
  obtain ⟨n, h_n⟩ : ∃ x, x = (nameR L s1).1 := ⟨_, rfl⟩
  obtain ⟨s2, h_s2⟩ : ∃ x, x = (nameR L s1).2 := ⟨_, rfl⟩
  obtain ⟨s3, h_s3⟩ : ∃ x, x = needR L tRequire s2 := ⟨_, rfl⟩
  obtain ⟨x, h_x⟩ : ∃ x, x = (exprR X s3).1 := ⟨_, rfl⟩
  obtain ⟨s4, h_s4⟩ : ∃ x, x = (exprR X s3).2 := ⟨_, rfl⟩
  obtain ⟨s5, h_s5⟩ : ∃ x, x = needR L tEnsure s4 := ⟨_, rfl⟩
  obtain ⟨y, h_y⟩ : ∃ x, x = (exprR X s5).1 := ⟨_, rfl⟩
  obtain ⟨s6, h_s6⟩ : ∃ x, x = (exprR X s5).2 := ⟨_, rfl⟩
  obtain ⟨s7, h_s7⟩ : ∃ x, x = needR L tSemi s6 := ⟨_, rfl⟩
  have HF : Hid (itemR L X s = (⟨4, n, 0, x, y, []⟩, s7)) := by show _ = _; rw [h_s7, h_s6, h_y, h_s5, h_s4, h_x, h_s3, h_s2, h_n, h_s1]; exact itemR_4 HM.out
  have S_s1 := Lib.hid h_s1
  have S_n := Lib.hid h_n
  have S_s2 := Lib.hid h_s2
  have S_s3 := Lib.hid h_s3
  have S_x := Lib.hid h_x
  have S_s4 := Lib.hid h_s4
  have S_s5 := Lib.hid h_s5
  have S_y := Lib.hid h_y
  have S_s6 := Lib.hid h_s6
  have S_s7 := Lib.hid h_s7
  clear h_s1 h_n h_s2 h_s3 h_x h_s4 h_s5 h_y h_s6 h_s7
  have HLT := Lib.hid hlt
  clear hlt
  clear hR hB hnb
  go_enter Tryz.func67, Tryz.ntmps67
  go_upto_region 1 with fail
  refine wp_letW ?_
  intro W1 hW1
  have hb_ : Below w.heap.size w W1 := by rw [hW1]; exact (Below.refl _ _).alloc (Nat.le_refl _) _
  have F_ : Fr (fun _ => False) w W1 := Fr.of_below hb_ _
  obtain ⟨b_r, hb_r⟩ : ∃ b, b = w.heap.size := ⟨_, rfl⟩
  have hA_ : w.heap.size ≤ w.heap.size := A.out.size
  have n_r : nb ≤ b_r := by have := HNB.out; omega
  have K_r : Hid (Blk W1 b_r #[.int .i64 0, .string ⟨#[]⟩, .int .i64 0, .slice none 0 0, .slice none 0 0, .slice none 0 0] 54) := by show Blk _ _ _ _; rw [hW1, hb_r]; exact Blk.new w _ _
  have A : Hid (Al rb w W1) := A.out.then hb_
  have R : Hid (Rp L a cc rb W1 s) := R.out.below hb_
  rw [← hb_r]
  clear hW1 hb_ F_ hA_ hb_r
  go_upto_region 2 with fail
  refine wp_letW ?_
  intro W2 hW2
  have hb_ : Below W1.heap.size W1 W2 := by rw [hW2]; exact (Below.refl _ _).alloc (Nat.le_refl _) _
  have F_ : Fr (fun _ => False) W1 W2 := Fr.of_below hb_ _
  obtain ⟨b_q, hb_q⟩ : ∃ b, b = W1.heap.size := ⟨_, rfl⟩
  have l_r_q : b_r < b_q := by have := K_r.out.lt; omega
  have K_r : Hid (Blk W2 b_r #[.int .i64 0, .string ⟨#[]⟩, .int .i64 0, .slice none 0 0, .slice none 0 0, .slice none 0 0] 54) := K_r.out.below hb_
  have hA_ : w.heap.size ≤ W1.heap.size := A.out.size
  have n_q : nb ≤ b_q := by have := HNB.out; omega
  have K_q : Hid (Blk W2 b_q #[.int .i64 0, .string ⟨#[]⟩, .int .i64 0, .slice none 0 0, .slice none 0 0, .slice none 0 0] 54) := by show Blk _ _ _ _; rw [hW2, hb_q]; exact Blk.new W1 _ _
  have A : Hid (Al rb w W2) := A.out.then hb_
  have R : Hid (Rp L a cc rb W2 s) := R.out.below hb_
  rw [← hb_q]
  clear hW2 hb_ F_ hA_ hb_q
  have hc_ := pmark_any EV s W2 (HB.out.next A.out) R.out
  rw [← S_m.out] at hc_
  go_wp2_with fail
  refine hc_.mono ?_
  rintro e w3 ⟨rfl, hb_⟩
  have hA_ : Al rb W2 w3 := Al.of hb_
  have hR_ := R.out.below hb_
  clear hb_
  have F_ : Al rb W2 w3 := hA_
  have K_r : Hid (Blk w3 b_r #[.int .i64 0, .string ⟨#[]⟩, .int .i64 0, .slice none 0 0, .slice none 0 0, .slice none 0 0] 54) := F_.blk K_r.out (by omega)
  have K_q : Hid (Blk w3 b_q #[.int .i64 0, .string ⟨#[]⟩, .int .i64 0, .slice none 0 0, .slice none 0 0, .slice none 0 0] 54) := F_.blk K_q.out (by omega)
  have A : Hid (Al rb w w3) := A.out.next F_
  have R := Lib.hid hR_
  clear hc_ hR_ hA_ F_
  go_upto_region 3 with fail
  obtain ⟨c0, c1, c2, c3⟩ := R.out.cells
  obtain ⟨g0, g1, g2, g3⟩ := R.out.free
  have hI5 : (s.i : Int) + 1 ≤ 300000 := by have := EV.out.len; have := HLT.out; omega
  go_upto_region 4 with fail
  refine wp_letW ?_
  intro W4 hW4
  have F_ : Al rb w3 W4 := by rw [hW4]; exact (Al.refl rb _).set 1 _
  have hR_ : Rp L a cc rb W4 s1 := by rw [hW4, S_s1.out]; have h := R.out.setI (s.i + 1) HLT.out; simpa [nextR] using h
  have K_r : Hid (Blk W4 b_r #[.int .i64 0, .string ⟨#[]⟩, .int .i64 0, .slice none 0 0, .slice none 0 0, .slice none 0 0] 54) := F_.blk K_r.out (by omega)
  have K_q : Hid (Blk W4 b_q #[.int .i64 0, .string ⟨#[]⟩, .int .i64 0, .slice none 0 0, .slice none 0 0, .slice none 0 0] 54) := F_.blk K_q.out (by omega)
  have A : Hid (Al rb w W4) := A.out.next F_
  have R := Lib.hid hR_
  clear hW4 F_ hR_ c0 c1 c2 c3 g0 g1 g2 g3 hI5
  go_upto_region 14 with fail
  have hc_ := pname_any EV s1 W4 (HB.out.next A.out) R.out
  rw [← S_n.out, ← S_s2.out] at hc_
  go_wp2_with fail
  refine hc_.mono ?_
  rintro e w5 ⟨rfl, hR_, hA_⟩
  have F_ : Al rb W4 w5 := hA_
  have K_r : Hid (Blk w5 b_r #[.int .i64 0, .string ⟨#[]⟩, .int .i64 0, .slice none 0 0, .slice none 0 0, .slice none 0 0] 54) := F_.blk K_r.out (by omega)
  have K_q : Hid (Blk w5 b_q #[.int .i64 0, .string ⟨#[]⟩, .int .i64 0, .slice none 0 0, .slice none 0 0, .slice none 0 0] 54) := F_.blk K_q.out (by omega)
  have A : Hid (Al rb w w5) := A.out.next F_
  have R := Lib.hid hR_
  clear hc_ hR_ hA_ F_
  have k_q_0 : w5.cell? ⟨b_q, 0, none⟩ = some (.int .i64 0) := Blk.c K_q.out rfl
  have f_q_0 : w5.frozen? ⟨b_q, 0, none⟩ = false := Blk.z K_q.out rfl
  have k_q_1 : w5.cell? ⟨b_q, 1, none⟩ = some (.string ⟨#[]⟩) := Blk.c K_q.out rfl
  have f_q_1 : w5.frozen? ⟨b_q, 1, none⟩ = false := Blk.z K_q.out rfl
  have k_q_2 : w5.cell? ⟨b_q, 2, none⟩ = some (.int .i64 0) := Blk.c K_q.out rfl
  have f_q_2 : w5.frozen? ⟨b_q, 2, none⟩ = false := Blk.z K_q.out rfl
  have k_q_3 : w5.cell? ⟨b_q, 3, none⟩ = some (.slice none 0 0) := Blk.c K_q.out rfl
  have f_q_3 : w5.frozen? ⟨b_q, 3, none⟩ = false := Blk.z K_q.out rfl
  have k_q_4 : w5.cell? ⟨b_q, 4, none⟩ = some (.slice none 0 0) := Blk.c K_q.out rfl
  have f_q_4 : w5.frozen? ⟨b_q, 4, none⟩ = false := Blk.z K_q.out rfl
  have k_q_5 : w5.cell? ⟨b_q, 5, none⟩ = some (.slice none 0 0) := Blk.c K_q.out rfl
  have f_q_5 : w5.frozen? ⟨b_q, 5, none⟩ = false := Blk.z K_q.out rfl
  go_upto_region 15 with fail
  refine wp_letW ?_
  intro W6 hW6
  have F_ : Fr (fun k => k = b_q) w5 W6 := by rw [hW6]; exact (Fr.trans (Fr.trans (Fr.trans (Fr.trans (Fr.trans (Fr.set_at w5 b_q 0 _) (Fr.set_at _ b_q 1 _) (fun _ _ q => q)) (Fr.set_at _ b_q 2 _) (fun _ _ q => q)) (Fr.set_at _ b_q 3 _) (fun _ _ q => q)) (Fr.set_at _ b_q 4 _) (fun _ _ q => q)) (Fr.set_at _ b_q 5 _) (fun _ _ q => q))
  have kp_ : KpT 54 nb w5 W6 := KpT.one K_q.out F_
  have K2_ : Blk W6 b_q #[.int .i64 4, .string n, .int .i64 0, .slice none 0 0, .slice none 0 0, .slice none 0 0] 54 := by rw [hW6]; have h := (Blk.setAt (Blk.setAt (Blk.setAt (Blk.setAt (Blk.setAt (Blk.setAt K_q.out 0 (.int .i64 4)) 1 (.string n)) 2 (.int .i64 0)) 3 (.slice none 0 0)) 4 (.slice none 0 0)) 5 (.slice none 0 0)); simpa using h
  have K_r : Hid (Blk W6 b_r #[.int .i64 0, .string ⟨#[]⟩, .int .i64 0, .slice none 0 0, .slice none 0 0, .slice none 0 0] 54) := F_.blk' K_r.out (by omega)
  have K_q := Lib.hid K2_
  have A : Hid (Al rb w W6) := Fr.trans A.out F_ (fun i hi q => by have := HNB.out; omega)
  have R : Hid (Rp L a cc rb W6 s2) := R.out.fr F_ (fun q => by omega)
  clear k_q_0 f_q_0 k_q_1 f_q_1 k_q_2 f_q_2 k_q_3 f_q_3 k_q_4 f_q_4 k_q_5 f_q_5
  clear hW6 F_ kp_ K2_
  have hb_ : Below W6.heap.size W6 (W6.alloc (.cells #[.string ⟨#[114, 101, 113, 117, 105, 114, 101]⟩] 9)) := (Below.refl _ _).alloc (Nat.le_refl _) _
  have hc_ := pneed_any EV W6.heap.size [⟨#[114, 101, 113, 117, 105, 114, 101]⟩] (by decide) (by decide) s2 (W6.alloc (.cells #[.string ⟨#[114, 101, 113, 117, 105, 114, 101]⟩] 9)) ((HB.out.next A.out).then hb_) (R.out.below hb_) (Blk.new W6 _ _) (by have := A.out.size; have := HNB.out; omega)
  have e_ : needL L [⟨#[114, 101, 113, 117, 105, 114, 101]⟩] s2 = s3 := S_s3.out.symm
  rw [e_] at hc_
  have HBA := Lib.hid hb_
  clear hb_ e_
  go_wp2_with fail
  refine hc_.mono ?_
  rintro e w7 ⟨rfl, hR_, hA_⟩
  have F_ : Al rb W6 w7 := (Al.of (rb := rb) HBA.out).next hA_
  have K_r : Hid (Blk w7 b_r #[.int .i64 0, .string ⟨#[]⟩, .int .i64 0, .slice none 0 0, .slice none 0 0, .slice none 0 0] 54) := F_.blk K_r.out (by omega)
  have K_q : Hid (Blk w7 b_q #[.int .i64 4, .string n, .int .i64 0, .slice none 0 0, .slice none 0 0, .slice none 0 0] 54) := F_.blk K_q.out (by omega)
  have A : Hid (Al rb w w7) := A.out.next F_
  have R := Lib.hid hR_
  clear hc_ hR_ hA_ F_ HBA
  go_upto_region 16 with fail
  have hc_ := pexpr_any EV hX s3 w7 (HB.out.next A.out) R.out
  rw [← S_x.out, ← S_s4.out] at hc_
  have hl_ : nb ≤ w7.heap.size := by have := A.out.size; have := HNB.out; omega
  go_wp2_with fail
  refine hc_.mono ?_
  rintro e w8 ⟨v_, rfl, hV_, hR_, hA_⟩
  obtain ⟨ea_x, ec_x, rfl, -⟩ := hV_.form
  obtain ⟨en_x, hen_⟩ : ∃ n, n = x.length := ⟨_, rfl⟩
  rw [← hen_] at hV_ ⊢
  have hV2_ := Lib.hid (hV_.mono hl_)
  clear hV_ hen_ hl_
  have F_ : Al rb w7 w8 := hA_
  have K_r : Hid (Blk w8 b_r #[.int .i64 0, .string ⟨#[]⟩, .int .i64 0, .slice none 0 0, .slice none 0 0, .slice none 0 0] 54) := F_.blk K_r.out (by omega)
  have K_q : Hid (Blk w8 b_q #[.int .i64 4, .string n, .int .i64 0, .slice none 0 0, .slice none 0 0, .slice none 0 0] 54) := F_.blk K_q.out (by omega)
  have A : Hid (Al rb w w8) := A.out.next F_
  have R := Lib.hid hR_
  clear hc_ hR_ hA_ F_
  have V_x : Hid (OwnE nb w8 (.slice ea_x en_x ec_x) x) := hV2_
  clear hV2_
  have k_q_0 : w8.cell? ⟨b_q, 0, none⟩ = some (.int .i64 4) := Blk.c K_q.out rfl
  have f_q_0 : w8.frozen? ⟨b_q, 0, none⟩ = false := Blk.z K_q.out rfl
  have k_q_1 : w8.cell? ⟨b_q, 1, none⟩ = some (.string n) := Blk.c K_q.out rfl
  have f_q_1 : w8.frozen? ⟨b_q, 1, none⟩ = false := Blk.z K_q.out rfl
  have k_q_2 : w8.cell? ⟨b_q, 2, none⟩ = some (.int .i64 0) := Blk.c K_q.out rfl
  have f_q_2 : w8.frozen? ⟨b_q, 2, none⟩ = false := Blk.z K_q.out rfl
  have k_q_3 : w8.cell? ⟨b_q, 3, none⟩ = some (.slice none 0 0) := Blk.c K_q.out rfl
  have f_q_3 : w8.frozen? ⟨b_q, 3, none⟩ = false := Blk.z K_q.out rfl
  have k_q_4 : w8.cell? ⟨b_q, 4, none⟩ = some (.slice none 0 0) := Blk.c K_q.out rfl
  have f_q_4 : w8.frozen? ⟨b_q, 4, none⟩ = false := Blk.z K_q.out rfl
  have k_q_5 : w8.cell? ⟨b_q, 5, none⟩ = some (.slice none 0 0) := Blk.c K_q.out rfl
  have f_q_5 : w8.frozen? ⟨b_q, 5, none⟩ = false := Blk.z K_q.out rfl
  go_upto_region 17 with fail
  refine wp_letW ?_
  intro W9 hW9
  have F_ : Fr (fun k => k = b_q) w8 W9 := by rw [hW9]; exact (Fr.set_at w8 b_q 3 _)
  have kp_ : KpT 54 nb w8 W9 := KpT.one K_q.out F_
  have K2_ : Blk W9 b_q #[.int .i64 4, .string n, .int .i64 0, .slice ea_x en_x ec_x, .slice none 0 0, .slice none 0 0] 54 := by rw [hW9]; have h := (Blk.setAt K_q.out 3 (.slice ea_x en_x ec_x)); simpa using h
  have K_r : Hid (Blk W9 b_r #[.int .i64 0, .string ⟨#[]⟩, .int .i64 0, .slice none 0 0, .slice none 0 0, .slice none 0 0] 54) := F_.blk' K_r.out (by omega)
  have V_x : Hid (OwnE nb W9 (.slice ea_x en_x ec_x) x) := KpT.ownE kp_ V_x.out (by decide)
  have K_q := Lib.hid K2_
  have A : Hid (Al rb w W9) := Fr.trans A.out F_ (fun i hi q => by have := HNB.out; omega)
  have R : Hid (Rp L a cc rb W9 s4) := R.out.fr F_ (fun q => by omega)
  clear k_q_0 f_q_0 k_q_1 f_q_1 k_q_2 f_q_2 k_q_3 f_q_3 k_q_4 f_q_4 k_q_5 f_q_5
  clear hW9 F_ kp_ K2_
  have hb_ : Below W9.heap.size W9 (W9.alloc (.cells #[.string ⟨#[101, 110, 115, 117, 114, 101]⟩] 9)) := (Below.refl _ _).alloc (Nat.le_refl _) _
  have hc_ := pneed_any EV W9.heap.size [⟨#[101, 110, 115, 117, 114, 101]⟩] (by decide) (by decide) s4 (W9.alloc (.cells #[.string ⟨#[101, 110, 115, 117, 114, 101]⟩] 9)) ((HB.out.next A.out).then hb_) (R.out.below hb_) (Blk.new W9 _ _) (by have := A.out.size; have := HNB.out; omega)
  have e_ : needL L [⟨#[101, 110, 115, 117, 114, 101]⟩] s4 = s5 := S_s5.out.symm
  rw [e_] at hc_
  have HBA := Lib.hid hb_
  clear hb_ e_
  go_wp2_with fail
  refine hc_.mono ?_
  rintro e w10 ⟨rfl, hR_, hA_⟩
  have F_ : Al rb W9 w10 := (Al.of (rb := rb) HBA.out).next hA_
  have K_r : Hid (Blk w10 b_r #[.int .i64 0, .string ⟨#[]⟩, .int .i64 0, .slice none 0 0, .slice none 0 0, .slice none 0 0] 54) := F_.blk K_r.out (by omega)
  have K_q : Hid (Blk w10 b_q #[.int .i64 4, .string n, .int .i64 0, .slice ea_x en_x ec_x, .slice none 0 0, .slice none 0 0] 54) := F_.blk K_q.out (by omega)
  have V_x : Hid (OwnE nb w10 (.slice ea_x en_x ec_x) x) := KpT.ownE (Al.kpT (T := noT) F_ hrb) V_x.out (by decide)
  have A : Hid (Al rb w w10) := A.out.next F_
  have R := Lib.hid hR_
  clear hc_ hR_ hA_ F_ HBA
  go_upto_region 18 with fail
  have hc_ := pexpr_any EV hX s5 w10 (HB.out.next A.out) R.out
  rw [← S_y.out, ← S_s6.out] at hc_
  have hl_ : nb ≤ w10.heap.size := by have := A.out.size; have := HNB.out; omega
  go_wp2_with fail
  refine hc_.mono ?_
  rintro e w11 ⟨v_, rfl, hV_, hR_, hA_⟩
  obtain ⟨ea_y, ec_y, rfl, -⟩ := hV_.form
  obtain ⟨en_y, hen_⟩ : ∃ n, n = y.length := ⟨_, rfl⟩
  rw [← hen_] at hV_ ⊢
  have hV2_ := Lib.hid (hV_.mono hl_)
  clear hV_ hen_ hl_
  have F_ : Al rb w10 w11 := hA_
  have K_r : Hid (Blk w11 b_r #[.int .i64 0, .string ⟨#[]⟩, .int .i64 0, .slice none 0 0, .slice none 0 0, .slice none 0 0] 54) := F_.blk K_r.out (by omega)
  have K_q : Hid (Blk w11 b_q #[.int .i64 4, .string n, .int .i64 0, .slice ea_x en_x ec_x, .slice none 0 0, .slice none 0 0] 54) := F_.blk K_q.out (by omega)
  have V_x : Hid (OwnE nb w11 (.slice ea_x en_x ec_x) x) := KpT.ownE (Al.kpT (T := noT) F_ hrb) V_x.out (by decide)
  have A : Hid (Al rb w w11) := A.out.next F_
  have R := Lib.hid hR_
  clear hc_ hR_ hA_ F_
  have V_y : Hid (OwnE nb w11 (.slice ea_y en_y ec_y) y) := hV2_
  clear hV2_
  have k_q_0 : w11.cell? ⟨b_q, 0, none⟩ = some (.int .i64 4) := Blk.c K_q.out rfl
  have f_q_0 : w11.frozen? ⟨b_q, 0, none⟩ = false := Blk.z K_q.out rfl
  have k_q_1 : w11.cell? ⟨b_q, 1, none⟩ = some (.string n) := Blk.c K_q.out rfl
  have f_q_1 : w11.frozen? ⟨b_q, 1, none⟩ = false := Blk.z K_q.out rfl
  have k_q_2 : w11.cell? ⟨b_q, 2, none⟩ = some (.int .i64 0) := Blk.c K_q.out rfl
  have f_q_2 : w11.frozen? ⟨b_q, 2, none⟩ = false := Blk.z K_q.out rfl
  have k_q_3 : w11.cell? ⟨b_q, 3, none⟩ = some (.slice ea_x en_x ec_x) := Blk.c K_q.out rfl
  have f_q_3 : w11.frozen? ⟨b_q, 3, none⟩ = false := Blk.z K_q.out rfl
  have k_q_4 : w11.cell? ⟨b_q, 4, none⟩ = some (.slice none 0 0) := Blk.c K_q.out rfl
  have f_q_4 : w11.frozen? ⟨b_q, 4, none⟩ = false := Blk.z K_q.out rfl
  have k_q_5 : w11.cell? ⟨b_q, 5, none⟩ = some (.slice none 0 0) := Blk.c K_q.out rfl
  have f_q_5 : w11.frozen? ⟨b_q, 5, none⟩ = false := Blk.z K_q.out rfl
  go_upto_region 22 with fail
  refine wp_letW ?_
  intro W12 hW12
  have F_ : Fr (fun k => k = b_q) w11 W12 := by rw [hW12]; exact (Fr.set_at w11 b_q 4 _)
  have kp_ : KpT 54 nb w11 W12 := KpT.one K_q.out F_
  have K2_ : Blk W12 b_q #[.int .i64 4, .string n, .int .i64 0, .slice ea_x en_x ec_x, .slice ea_y en_y ec_y, .slice none 0 0] 54 := by rw [hW12]; have h := (Blk.setAt K_q.out 4 (.slice ea_y en_y ec_y)); simpa using h
  have K_r : Hid (Blk W12 b_r #[.int .i64 0, .string ⟨#[]⟩, .int .i64 0, .slice none 0 0, .slice none 0 0, .slice none 0 0] 54) := F_.blk' K_r.out (by omega)
  have V_x : Hid (OwnE nb W12 (.slice ea_x en_x ec_x) x) := KpT.ownE kp_ V_x.out (by decide)
  have V_y : Hid (OwnE nb W12 (.slice ea_y en_y ec_y) y) := KpT.ownE kp_ V_y.out (by decide)
  have K_q := Lib.hid K2_
  have A : Hid (Al rb w W12) := Fr.trans A.out F_ (fun i hi q => by have := HNB.out; omega)
  have R : Hid (Rp L a cc rb W12 s6) := R.out.fr F_ (fun q => by omega)
  clear k_q_0 f_q_0 k_q_1 f_q_1 k_q_2 f_q_2 k_q_3 f_q_3 k_q_4 f_q_4 k_q_5 f_q_5
  clear hW12 F_ kp_ K2_
  have hb_ : Below W12.heap.size W12 (W12.alloc (.cells #[.string ⟨#[59]⟩] 9)) := (Below.refl _ _).alloc (Nat.le_refl _) _
  have hc_ := pneed_any EV W12.heap.size [⟨#[59]⟩] (by decide) (by decide) s6 (W12.alloc (.cells #[.string ⟨#[59]⟩] 9)) ((HB.out.next A.out).then hb_) (R.out.below hb_) (Blk.new W12 _ _) (by have := A.out.size; have := HNB.out; omega)
  have e_ : needL L [⟨#[59]⟩] s6 = s7 := S_s7.out.symm
  rw [e_] at hc_
  have HBA := Lib.hid hb_
  clear hb_ e_
  go_wp2_with fail
  refine hc_.mono ?_
  rintro e w13 ⟨rfl, hR_, hA_⟩
  have F_ : Al rb W12 w13 := (Al.of (rb := rb) HBA.out).next hA_
  have K_r : Hid (Blk w13 b_r #[.int .i64 0, .string ⟨#[]⟩, .int .i64 0, .slice none 0 0, .slice none 0 0, .slice none 0 0] 54) := F_.blk K_r.out (by omega)
  have K_q : Hid (Blk w13 b_q #[.int .i64 4, .string n, .int .i64 0, .slice ea_x en_x ec_x, .slice ea_y en_y ec_y, .slice none 0 0] 54) := F_.blk K_q.out (by omega)
  have V_x : Hid (OwnE nb w13 (.slice ea_x en_x ec_x) x) := KpT.ownE (Al.kpT (T := noT) F_ hrb) V_x.out (by decide)
  have V_y : Hid (OwnE nb w13 (.slice ea_y en_y ec_y) y) := KpT.ownE (Al.kpT (T := noT) F_ hrb) V_y.out (by decide)
  have A : Hid (Al rb w w13) := A.out.next F_
  have R := Lib.hid hR_
  clear hc_ hR_ hA_ F_ HBA
  have k_q_0 : w13.cell? ⟨b_q, 0, none⟩ = some (.int .i64 4) := Blk.c K_q.out rfl
  have k_q_1 : w13.cell? ⟨b_q, 1, none⟩ = some (.string n) := Blk.c K_q.out rfl
  have k_q_2 : w13.cell? ⟨b_q, 2, none⟩ = some (.int .i64 0) := Blk.c K_q.out rfl
  have k_q_3 : w13.cell? ⟨b_q, 3, none⟩ = some (.slice ea_x en_x ec_x) := Blk.c K_q.out rfl
  have k_q_4 : w13.cell? ⟨b_q, 4, none⟩ = some (.slice ea_y en_y ec_y) := Blk.c K_q.out rfl
  have k_q_5 : w13.cell? ⟨b_q, 5, none⟩ = some (.slice none 0 0) := Blk.c K_q.out rfl
  have k_r_0 : w13.cell? ⟨b_r, 0, none⟩ = some (.int .i64 0) := Blk.c K_r.out rfl
  have f_r_0 : w13.frozen? ⟨b_r, 0, none⟩ = false := Blk.z K_r.out rfl
  have k_r_1 : w13.cell? ⟨b_r, 1, none⟩ = some (.string ⟨#[]⟩) := Blk.c K_r.out rfl
  have f_r_1 : w13.frozen? ⟨b_r, 1, none⟩ = false := Blk.z K_r.out rfl
  have k_r_2 : w13.cell? ⟨b_r, 2, none⟩ = some (.int .i64 0) := Blk.c K_r.out rfl
  have f_r_2 : w13.frozen? ⟨b_r, 2, none⟩ = false := Blk.z K_r.out rfl
  have k_r_3 : w13.cell? ⟨b_r, 3, none⟩ = some (.slice none 0 0) := Blk.c K_r.out rfl
  have f_r_3 : w13.frozen? ⟨b_r, 3, none⟩ = false := Blk.z K_r.out rfl
  have k_r_4 : w13.cell? ⟨b_r, 4, none⟩ = some (.slice none 0 0) := Blk.c K_r.out rfl
  have f_r_4 : w13.frozen? ⟨b_r, 4, none⟩ = false := Blk.z K_r.out rfl
  have k_r_5 : w13.cell? ⟨b_r, 5, none⟩ = some (.slice none 0 0) := Blk.c K_r.out rfl
  have f_r_5 : w13.frozen? ⟨b_r, 5, none⟩ = false := Blk.z K_r.out rfl
  go_wp2_with fail
  obtain ⟨WE, hWE⟩ : ∃ WE, WE = ((((((w13.setCell ⟨b_r, 0, none⟩ (.int .i64 4)).setCell ⟨b_r, 1, none⟩ (.string n)).setCell ⟨b_r, 2, none⟩ (.int .i64 0)).setCell ⟨b_r, 3, none⟩ (.slice ea_x en_x ec_x)).setCell ⟨b_r, 4, none⟩ (.slice ea_y en_y ec_y)).setCell ⟨b_r, 5, none⟩ (.slice none 0 0)) := ⟨_, rfl⟩
  have KE : Blk WE b_r #[.int .i64 4, .string n, .int .i64 0, .slice ea_x en_x ec_x, .slice ea_y en_y ec_y, .slice none 0 0] 54 := by rw [hWE]; have h := (Blk.setAt (Blk.setAt (Blk.setAt (Blk.setAt (Blk.setAt (Blk.setAt K_r.out 0 (.int .i64 4)) 1 (.string n)) 2 (.int .i64 0)) 3 (.slice ea_x en_x ec_x)) 4 (.slice ea_y en_y ec_y)) 5 (.slice none 0 0)); simpa using h
  have FE : Fr (fun k => k = b_r) w13 WE := by rw [hWE]; exact (Fr.trans (Fr.trans (Fr.trans (Fr.trans (Fr.trans (Fr.set_at w13 b_r 0 _) (Fr.set_at _ b_r 1 _) (fun _ _ q => q)) (Fr.set_at _ b_r 2 _) (fun _ _ q => q)) (Fr.set_at _ b_r 3 _) (fun _ _ q => q)) (Fr.set_at _ b_r 4 _) (fun _ _ q => q)) (Fr.set_at _ b_r 5 _) (fun _ _ q => q))
  have kpE : KpT 54 nb w13 WE := KpT.one K_r.out FE
  have z0 : WE.cell? ⟨b_r, 0, none⟩ = some (.int .i64 4) := Blk.c KE rfl
  have z1 : WE.cell? ⟨b_r, 1, none⟩ = some (.string n) := Blk.c KE rfl
  have z2 : WE.cell? ⟨b_r, 2, none⟩ = some (.int .i64 0) := Blk.c KE rfl
  have z3 : WE.cell? ⟨b_r, 3, none⟩ = some (.slice ea_x en_x ec_x) := Blk.c KE rfl
  have z4 : WE.cell? ⟨b_r, 4, none⟩ = some (.slice ea_y en_y ec_y) := Blk.c KE rfl
  have z5 : WE.cell? ⟨b_r, 5, none⟩ = some (.slice none 0 0) := Blk.c KE rfl
  rw [← hWE]
  refine bodyPost_ret (v := .agg #[.int .i64 4, .string n, .int .i64 0, .slice ea_x en_x ec_x, .slice ea_y en_y ec_y, .slice none 0 0]) (by simp [results, Tryz.results67, go_sem, z0, z1, z2, z3, z4, z5]) rfl ?_
  have V_x : Hid (OwnE nb WE (.slice ea_x en_x ec_x) x) := KpT.ownE kpE V_x.out (by decide)
  have V_y : Hid (OwnE nb WE (.slice ea_y en_y ec_y) y) := KpT.ownE kpE V_y.out (by decide)
  have A : Al rb w WE := Fr.trans A.out FE (fun i hi q => by have := HNB.out; omega)
  have R : Rp L a cc rb WE s7 := R.out.fr FE (fun q => by omega)
  exact ⟨_, _, _, _, _, _, _, _, _, _, _, _, rfl, by rw [HF.out, ← HNB.out]; exact ⟨_, _, _, rfl, V_x, V_y, Rw.nil_⟩, by rw [HF.out]; exact R, A⟩
set_option maxRecDepth 100000 in
set_option maxHeartbeats 8000000 in
theorem pitem5_any (EV : Hid (EnvOk w0 rb a cc L)) (hX : Hid (XOk L X)) (s : Rs) (hm : markR L s = tImport) (w : World) (hB : Al rb w0 w) (hR : Rp L a cc rb w s) :
    Calls Tryz.prog 67 #[.pointer (some ⟨rb, 0, none⟩)] w fun e w' => ∃ (kd : Int) (n : ByteArray) (t : Int) (ea : Option Addr) (en ec : Nat) (fa : Option Addr) (fn fc : Nat) (ga : Option Addr) (gn gc : Nat), e = .returned (.agg #[.int .i64 kd, .string n, .int .i64 t, .slice ea en ec, .slice fa fn fc, .slice ga gn gc]) ∧ PIm w.heap.size w' [.int .i64 kd, .string n, .int .i64 t, .slice ea en ec, .slice fa fn fc, .slice ga gn gc] (itemR L X s).1 ∧ Rp L a cc rb w' (itemR L X s).2 ∧ Al rb w w' := by
  have hrb := hR.lt
  obtain ⟨nb, hnb⟩ : ∃ nb, nb = w.heap.size := ⟨_, rfl⟩
  rw [← hnb] at hrb
  have HNB := Lib.hid hnb
  have A : Hid (Al rb w w) := Al.refl rb w
  have R := Lib.hid hR
  have HB := Lib.hid hB
  have hlt := (mark_lt (L := L) (s := s) (by rw [hm]; decide)).2
  obtain ⟨m, hmm⟩ : ∃ m, m = markR L s := ⟨_, rfl⟩
  have S_m := Lib.hid hmm
  have q0 : (m.toList == [97, 115, 115, 117, 109, 101]) = false := by rw [hmm, hm, Lib.toList_data]; decide +kernel
  have q1 : (m.toList == [103, 117, 97, 114, 97, 110, 116, 101, 101]) = false := by rw [hmm, hm, Lib.toList_data]; decide +kernel
  have q2 : (m.toList == [103, 104, 111, 115, 116]) = false := by rw [hmm, hm, Lib.toList_data]; decide +kernel
  have q3 : (m.toList == [109, 111, 100, 101]) = false := by rw [hmm, hm, Lib.toList_data]; decide +kernel
  have q4 : (m.toList == [105, 109, 112, 111, 114, 116]) = true := by rw [hmm, hm, Lib.toList_data]; decide +kernel
  have HM := Lib.hid hm
  clear hmm hm
  obtain ⟨s1, h_s1⟩ : ∃ x, x = nextR s := ⟨_, rfl⟩
  obtain ⟨n, h_n⟩ : ∃ x, x = (nameR L s1).1 := ⟨_, rfl⟩
  obtain ⟨s2, h_s2⟩ : ∃ x, x = (nameR L s1).2 := ⟨_, rfl⟩
  obtain ⟨x, h_x⟩ : ∃ x, x = (betweenR L (exprR X) tComma s2).1 := ⟨_, rfl⟩
  obtain ⟨s3, h_s3⟩ : ∃ x, x = (betweenR L (exprR X) tComma s2).2 := ⟨_, rfl⟩
  obtain ⟨s4, h_s4⟩ : ∃ x, x = needR L tSemi s3 := ⟨_, rfl⟩
  have HF : Hid (itemR L X s = (⟨5, n, 0, [], [], x⟩, s4)) := by show _ = _; rw [h_s4, h_s3, h_x, h_s2, h_n, h_s1]; exact itemR_5 HM.out
  have S_s1 := Lib.hid h_s1
  have S_n := Lib.hid h_n
  have S_s2 := Lib.hid h_s2
  have S_x := Lib.hid h_x
  have S_s3 := Lib.hid h_s3
  have S_s4 := Lib.hid h_s4
  clear h_s1 h_n h_s2 h_x h_s3 h_s4
  have HLT := Lib.hid hlt
  clear hlt
  clear hR hB hnb
  go_enter Tryz.func67, Tryz.ntmps67
  go_upto_region 1 with fail
  refine wp_letW ?_
  intro W1 hW1
  have hb_ : Below w.heap.size w W1 := by rw [hW1]; exact (Below.refl _ _).alloc (Nat.le_refl _) _
  have F_ : Fr (fun _ => False) w W1 := Fr.of_below hb_ _
  obtain ⟨b_r, hb_r⟩ : ∃ b, b = w.heap.size := ⟨_, rfl⟩
  have hA_ : w.heap.size ≤ w.heap.size := A.out.size
  have n_r : nb ≤ b_r := by have := HNB.out; omega
  have K_r : Hid (Blk W1 b_r #[.int .i64 0, .string ⟨#[]⟩, .int .i64 0, .slice none 0 0, .slice none 0 0, .slice none 0 0] 54) := by show Blk _ _ _ _; rw [hW1, hb_r]; exact Blk.new w _ _
  have A : Hid (Al rb w W1) := A.out.then hb_
  have R : Hid (Rp L a cc rb W1 s) := R.out.below hb_
  rw [← hb_r]
  clear hW1 hb_ F_ hA_ hb_r
  go_upto_region 2 with fail
  refine wp_letW ?_
  intro W2 hW2
  have hb_ : Below W1.heap.size W1 W2 := by rw [hW2]; exact (Below.refl _ _).alloc (Nat.le_refl _) _
  have F_ : Fr (fun _ => False) W1 W2 := Fr.of_below hb_ _
  obtain ⟨b_q, hb_q⟩ : ∃ b, b = W1.heap.size := ⟨_, rfl⟩
  have l_r_q : b_r < b_q := by have := K_r.out.lt; omega
  have K_r : Hid (Blk W2 b_r #[.int .i64 0, .string ⟨#[]⟩, .int .i64 0, .slice none 0 0, .slice none 0 0, .slice none 0 0] 54) := K_r.out.below hb_
  have hA_ : w.heap.size ≤ W1.heap.size := A.out.size
  have n_q : nb ≤ b_q := by have := HNB.out; omega
  have K_q : Hid (Blk W2 b_q #[.int .i64 0, .string ⟨#[]⟩, .int .i64 0, .slice none 0 0, .slice none 0 0, .slice none 0 0] 54) := by show Blk _ _ _ _; rw [hW2, hb_q]; exact Blk.new W1 _ _
  have A : Hid (Al rb w W2) := A.out.then hb_
  have R : Hid (Rp L a cc rb W2 s) := R.out.below hb_
  rw [← hb_q]
  clear hW2 hb_ F_ hA_ hb_q
  have hc_ := pmark_any EV s W2 (HB.out.next A.out) R.out
  rw [← S_m.out] at hc_
  go_wp2_with fail
  refine hc_.mono ?_
  rintro e w3 ⟨rfl, hb_⟩
  have hA_ : Al rb W2 w3 := Al.of hb_
  have hR_ := R.out.below hb_
  clear hb_
  have F_ : Al rb W2 w3 := hA_
  have K_r : Hid (Blk w3 b_r #[.int .i64 0, .string ⟨#[]⟩, .int .i64 0, .slice none 0 0, .slice none 0 0, .slice none 0 0] 54) := F_.blk K_r.out (by omega)
  have K_q : Hid (Blk w3 b_q #[.int .i64 0, .string ⟨#[]⟩, .int .i64 0, .slice none 0 0, .slice none 0 0, .slice none 0 0] 54) := F_.blk K_q.out (by omega)
  have A : Hid (Al rb w w3) := A.out.next F_
  have R := Lib.hid hR_
  clear hc_ hR_ hA_ F_
  go_upto_region 3 with fail
  obtain ⟨c0, c1, c2, c3⟩ := R.out.cells
  obtain ⟨g0, g1, g2, g3⟩ := R.out.free
  have hI5 : (s.i : Int) + 1 ≤ 300000 := by have := EV.out.len; have := HLT.out; omega
  go_upto_region 4 with fail
  refine wp_letW ?_
  intro W4 hW4
  have F_ : Al rb w3 W4 := by rw [hW4]; exact (Al.refl rb _).set 1 _
  have hR_ : Rp L a cc rb W4 s1 := by rw [hW4, S_s1.out]; have h := R.out.setI (s.i + 1) HLT.out; simpa [nextR] using h
  have K_r : Hid (Blk W4 b_r #[.int .i64 0, .string ⟨#[]⟩, .int .i64 0, .slice none 0 0, .slice none 0 0, .slice none 0 0] 54) := F_.blk K_r.out (by omega)
  have K_q : Hid (Blk W4 b_q #[.int .i64 0, .string ⟨#[]⟩, .int .i64 0, .slice none 0 0, .slice none 0 0, .slice none 0 0] 54) := F_.blk K_q.out (by omega)
  have A : Hid (Al rb w W4) := A.out.next F_
  have R := Lib.hid hR_
  clear hW4 F_ hR_ c0 c1 c2 c3 g0 g1 g2 g3 hI5
  go_upto_region 20 with fail
  have hc_ := pname_any EV s1 W4 (HB.out.next A.out) R.out
  rw [← S_n.out, ← S_s2.out] at hc_
  go_wp2_with fail
  refine hc_.mono ?_
  rintro e w5 ⟨rfl, hR_, hA_⟩
  have F_ : Al rb W4 w5 := hA_
  have K_r : Hid (Blk w5 b_r #[.int .i64 0, .string ⟨#[]⟩, .int .i64 0, .slice none 0 0, .slice none 0 0, .slice none 0 0] 54) := F_.blk K_r.out (by omega)
  have K_q : Hid (Blk w5 b_q #[.int .i64 0, .string ⟨#[]⟩, .int .i64 0, .slice none 0 0, .slice none 0 0, .slice none 0 0] 54) := F_.blk K_q.out (by omega)
  have A : Hid (Al rb w w5) := A.out.next F_
  have R := Lib.hid hR_
  clear hc_ hR_ hA_ F_
  have k_q_0 : w5.cell? ⟨b_q, 0, none⟩ = some (.int .i64 0) := Blk.c K_q.out rfl
  have f_q_0 : w5.frozen? ⟨b_q, 0, none⟩ = false := Blk.z K_q.out rfl
  have k_q_1 : w5.cell? ⟨b_q, 1, none⟩ = some (.string ⟨#[]⟩) := Blk.c K_q.out rfl
  have f_q_1 : w5.frozen? ⟨b_q, 1, none⟩ = false := Blk.z K_q.out rfl
  have k_q_2 : w5.cell? ⟨b_q, 2, none⟩ = some (.int .i64 0) := Blk.c K_q.out rfl
  have f_q_2 : w5.frozen? ⟨b_q, 2, none⟩ = false := Blk.z K_q.out rfl
  have k_q_3 : w5.cell? ⟨b_q, 3, none⟩ = some (.slice none 0 0) := Blk.c K_q.out rfl
  have f_q_3 : w5.frozen? ⟨b_q, 3, none⟩ = false := Blk.z K_q.out rfl
  have k_q_4 : w5.cell? ⟨b_q, 4, none⟩ = some (.slice none 0 0) := Blk.c K_q.out rfl
  have f_q_4 : w5.frozen? ⟨b_q, 4, none⟩ = false := Blk.z K_q.out rfl
  have k_q_5 : w5.cell? ⟨b_q, 5, none⟩ = some (.slice none 0 0) := Blk.c K_q.out rfl
  have f_q_5 : w5.frozen? ⟨b_q, 5, none⟩ = false := Blk.z K_q.out rfl
  go_upto_region 21 with fail
  refine wp_letW ?_
  intro W6 hW6
  have F_ : Fr (fun k => k = b_q) w5 W6 := by rw [hW6]; exact (Fr.trans (Fr.trans (Fr.trans (Fr.trans (Fr.trans (Fr.set_at w5 b_q 0 _) (Fr.set_at _ b_q 1 _) (fun _ _ q => q)) (Fr.set_at _ b_q 2 _) (fun _ _ q => q)) (Fr.set_at _ b_q 3 _) (fun _ _ q => q)) (Fr.set_at _ b_q 4 _) (fun _ _ q => q)) (Fr.set_at _ b_q 5 _) (fun _ _ q => q))
  have kp_ : KpT 54 nb w5 W6 := KpT.one K_q.out F_
  have K2_ : Blk W6 b_q #[.int .i64 5, .string n, .int .i64 0, .slice none 0 0, .slice none 0 0, .slice none 0 0] 54 := by rw [hW6]; have h := (Blk.setAt (Blk.setAt (Blk.setAt (Blk.setAt (Blk.setAt (Blk.setAt K_q.out 0 (.int .i64 5)) 1 (.string n)) 2 (.int .i64 0)) 3 (.slice none 0 0)) 4 (.slice none 0 0)) 5 (.slice none 0 0)); simpa using h
  have K_r : Hid (Blk W6 b_r #[.int .i64 0, .string ⟨#[]⟩, .int .i64 0, .slice none 0 0, .slice none 0 0, .slice none 0 0] 54) := F_.blk' K_r.out (by omega)
  have K_q := Lib.hid K2_
  have A : Hid (Al rb w W6) := Fr.trans A.out F_ (fun i hi q => by have := HNB.out; omega)
  have R : Hid (Rp L a cc rb W6 s2) := R.out.fr F_ (fun q => by omega)
  clear k_q_0 f_q_0 k_q_1 f_q_1 k_q_2 f_q_2 k_q_3 f_q_3 k_q_4 f_q_4 k_q_5 f_q_5
  clear hW6 F_ kp_ K2_
  have hc_ := betweenEx_any EV hX tComma (by decide) s2 W6 (HB.out.next A.out) R.out
  rw [← S_x.out, ← S_s3.out] at hc_
  have hl_ : nb ≤ W6.heap.size := by have := A.out.size; have := HNB.out; omega
  go_wp2_with fail
  refine hc_.mono ?_
  rintro e w7 ⟨v_, rfl, hV_, hR_, hA_⟩
  obtain ⟨ea_x, ec_x, rfl, -⟩ := hV_.form
  obtain ⟨en_x, hen_⟩ : ∃ n, n = x.length := ⟨_, rfl⟩
  rw [← hen_] at hV_ ⊢
  have hV2_ := Lib.hid (hV_.lower hl_ PE.lowers)
  clear hV_ hen_ hl_
  have F_ : Al rb W6 w7 := hA_
  have K_r : Hid (Blk w7 b_r #[.int .i64 0, .string ⟨#[]⟩, .int .i64 0, .slice none 0 0, .slice none 0 0, .slice none 0 0] 54) := F_.blk K_r.out (by omega)
  have K_q : Hid (Blk w7 b_q #[.int .i64 5, .string n, .int .i64 0, .slice none 0 0, .slice none 0 0, .slice none 0 0] 54) := F_.blk K_q.out (by omega)
  have A : Hid (Al rb w w7) := A.out.next F_
  have R := Lib.hid hR_
  clear hc_ hR_ hA_ F_
  have V_x : Hid (RwX nb w7 (.slice ea_x en_x ec_x) x) := hV2_
  clear hV2_
  have k_q_0 : w7.cell? ⟨b_q, 0, none⟩ = some (.int .i64 5) := Blk.c K_q.out rfl
  have f_q_0 : w7.frozen? ⟨b_q, 0, none⟩ = false := Blk.z K_q.out rfl
  have k_q_1 : w7.cell? ⟨b_q, 1, none⟩ = some (.string n) := Blk.c K_q.out rfl
  have f_q_1 : w7.frozen? ⟨b_q, 1, none⟩ = false := Blk.z K_q.out rfl
  have k_q_2 : w7.cell? ⟨b_q, 2, none⟩ = some (.int .i64 0) := Blk.c K_q.out rfl
  have f_q_2 : w7.frozen? ⟨b_q, 2, none⟩ = false := Blk.z K_q.out rfl
  have k_q_3 : w7.cell? ⟨b_q, 3, none⟩ = some (.slice none 0 0) := Blk.c K_q.out rfl
  have f_q_3 : w7.frozen? ⟨b_q, 3, none⟩ = false := Blk.z K_q.out rfl
  have k_q_4 : w7.cell? ⟨b_q, 4, none⟩ = some (.slice none 0 0) := Blk.c K_q.out rfl
  have f_q_4 : w7.frozen? ⟨b_q, 4, none⟩ = false := Blk.z K_q.out rfl
  have k_q_5 : w7.cell? ⟨b_q, 5, none⟩ = some (.slice none 0 0) := Blk.c K_q.out rfl
  have f_q_5 : w7.frozen? ⟨b_q, 5, none⟩ = false := Blk.z K_q.out rfl
  go_upto_region 22 with fail
  refine wp_letW ?_
  intro W8 hW8
  have F_ : Fr (fun k => k = b_q) w7 W8 := by rw [hW8]; exact (Fr.set_at w7 b_q 5 _)
  have kp_ : KpT 54 nb w7 W8 := KpT.one K_q.out F_
  have K2_ : Blk W8 b_q #[.int .i64 5, .string n, .int .i64 0, .slice none 0 0, .slice none 0 0, .slice ea_x en_x ec_x] 54 := by rw [hW8]; have h := (Blk.setAt K_q.out 5 (.slice ea_x en_x ec_x)); simpa using h
  have K_r : Hid (Blk W8 b_r #[.int .i64 0, .string ⟨#[]⟩, .int .i64 0, .slice none 0 0, .slice none 0 0, .slice none 0 0] 54) := F_.blk' K_r.out (by omega)
  have V_x : Hid (RwX nb W8 (.slice ea_x en_x ec_x) x) := V_x.out.stays kp_ (by decide) (PE.stays (by decide))
  have K_q := Lib.hid K2_
  have A : Hid (Al rb w W8) := Fr.trans A.out F_ (fun i hi q => by have := HNB.out; omega)
  have R : Hid (Rp L a cc rb W8 s3) := R.out.fr F_ (fun q => by omega)
  clear k_q_0 f_q_0 k_q_1 f_q_1 k_q_2 f_q_2 k_q_3 f_q_3 k_q_4 f_q_4 k_q_5 f_q_5
  clear hW8 F_ kp_ K2_
  have hb_ : Below W8.heap.size W8 (W8.alloc (.cells #[.string ⟨#[59]⟩] 9)) := (Below.refl _ _).alloc (Nat.le_refl _) _
  have hc_ := pneed_any EV W8.heap.size [⟨#[59]⟩] (by decide) (by decide) s3 (W8.alloc (.cells #[.string ⟨#[59]⟩] 9)) ((HB.out.next A.out).then hb_) (R.out.below hb_) (Blk.new W8 _ _) (by have := A.out.size; have := HNB.out; omega)
  have e_ : needL L [⟨#[59]⟩] s3 = s4 := S_s4.out.symm
  rw [e_] at hc_
  have HBA := Lib.hid hb_
  clear hb_ e_
  go_wp2_with fail
  refine hc_.mono ?_
  rintro e w9 ⟨rfl, hR_, hA_⟩
  have F_ : Al rb W8 w9 := (Al.of (rb := rb) HBA.out).next hA_
  have K_r : Hid (Blk w9 b_r #[.int .i64 0, .string ⟨#[]⟩, .int .i64 0, .slice none 0 0, .slice none 0 0, .slice none 0 0] 54) := F_.blk K_r.out (by omega)
  have K_q : Hid (Blk w9 b_q #[.int .i64 5, .string n, .int .i64 0, .slice none 0 0, .slice none 0 0, .slice ea_x en_x ec_x] 54) := F_.blk K_q.out (by omega)
  have V_x : Hid (RwX nb w9 (.slice ea_x en_x ec_x) x) := V_x.out.stays (Al.kpT (T := noT) F_ hrb) (by decide) (PE.stays (by decide))
  have A : Hid (Al rb w w9) := A.out.next F_
  have R := Lib.hid hR_
  clear hc_ hR_ hA_ F_ HBA
  have k_q_0 : w9.cell? ⟨b_q, 0, none⟩ = some (.int .i64 5) := Blk.c K_q.out rfl
  have k_q_1 : w9.cell? ⟨b_q, 1, none⟩ = some (.string n) := Blk.c K_q.out rfl
  have k_q_2 : w9.cell? ⟨b_q, 2, none⟩ = some (.int .i64 0) := Blk.c K_q.out rfl
  have k_q_3 : w9.cell? ⟨b_q, 3, none⟩ = some (.slice none 0 0) := Blk.c K_q.out rfl
  have k_q_4 : w9.cell? ⟨b_q, 4, none⟩ = some (.slice none 0 0) := Blk.c K_q.out rfl
  have k_q_5 : w9.cell? ⟨b_q, 5, none⟩ = some (.slice ea_x en_x ec_x) := Blk.c K_q.out rfl
  have k_r_0 : w9.cell? ⟨b_r, 0, none⟩ = some (.int .i64 0) := Blk.c K_r.out rfl
  have f_r_0 : w9.frozen? ⟨b_r, 0, none⟩ = false := Blk.z K_r.out rfl
  have k_r_1 : w9.cell? ⟨b_r, 1, none⟩ = some (.string ⟨#[]⟩) := Blk.c K_r.out rfl
  have f_r_1 : w9.frozen? ⟨b_r, 1, none⟩ = false := Blk.z K_r.out rfl
  have k_r_2 : w9.cell? ⟨b_r, 2, none⟩ = some (.int .i64 0) := Blk.c K_r.out rfl
  have f_r_2 : w9.frozen? ⟨b_r, 2, none⟩ = false := Blk.z K_r.out rfl
  have k_r_3 : w9.cell? ⟨b_r, 3, none⟩ = some (.slice none 0 0) := Blk.c K_r.out rfl
  have f_r_3 : w9.frozen? ⟨b_r, 3, none⟩ = false := Blk.z K_r.out rfl
  have k_r_4 : w9.cell? ⟨b_r, 4, none⟩ = some (.slice none 0 0) := Blk.c K_r.out rfl
  have f_r_4 : w9.frozen? ⟨b_r, 4, none⟩ = false := Blk.z K_r.out rfl
  have k_r_5 : w9.cell? ⟨b_r, 5, none⟩ = some (.slice none 0 0) := Blk.c K_r.out rfl
  have f_r_5 : w9.frozen? ⟨b_r, 5, none⟩ = false := Blk.z K_r.out rfl
  go_wp2_with fail
  obtain ⟨WE, hWE⟩ : ∃ WE, WE = ((((((w9.setCell ⟨b_r, 0, none⟩ (.int .i64 5)).setCell ⟨b_r, 1, none⟩ (.string n)).setCell ⟨b_r, 2, none⟩ (.int .i64 0)).setCell ⟨b_r, 3, none⟩ (.slice none 0 0)).setCell ⟨b_r, 4, none⟩ (.slice none 0 0)).setCell ⟨b_r, 5, none⟩ (.slice ea_x en_x ec_x)) := ⟨_, rfl⟩
  have KE : Blk WE b_r #[.int .i64 5, .string n, .int .i64 0, .slice none 0 0, .slice none 0 0, .slice ea_x en_x ec_x] 54 := by rw [hWE]; have h := (Blk.setAt (Blk.setAt (Blk.setAt (Blk.setAt (Blk.setAt (Blk.setAt K_r.out 0 (.int .i64 5)) 1 (.string n)) 2 (.int .i64 0)) 3 (.slice none 0 0)) 4 (.slice none 0 0)) 5 (.slice ea_x en_x ec_x)); simpa using h
  have FE : Fr (fun k => k = b_r) w9 WE := by rw [hWE]; exact (Fr.trans (Fr.trans (Fr.trans (Fr.trans (Fr.trans (Fr.set_at w9 b_r 0 _) (Fr.set_at _ b_r 1 _) (fun _ _ q => q)) (Fr.set_at _ b_r 2 _) (fun _ _ q => q)) (Fr.set_at _ b_r 3 _) (fun _ _ q => q)) (Fr.set_at _ b_r 4 _) (fun _ _ q => q)) (Fr.set_at _ b_r 5 _) (fun _ _ q => q))
  have kpE : KpT 54 nb w9 WE := KpT.one K_r.out FE
  have z0 : WE.cell? ⟨b_r, 0, none⟩ = some (.int .i64 5) := Blk.c KE rfl
  have z1 : WE.cell? ⟨b_r, 1, none⟩ = some (.string n) := Blk.c KE rfl
  have z2 : WE.cell? ⟨b_r, 2, none⟩ = some (.int .i64 0) := Blk.c KE rfl
  have z3 : WE.cell? ⟨b_r, 3, none⟩ = some (.slice none 0 0) := Blk.c KE rfl
  have z4 : WE.cell? ⟨b_r, 4, none⟩ = some (.slice none 0 0) := Blk.c KE rfl
  have z5 : WE.cell? ⟨b_r, 5, none⟩ = some (.slice ea_x en_x ec_x) := Blk.c KE rfl
  rw [← hWE]
  refine bodyPost_ret (v := .agg #[.int .i64 5, .string n, .int .i64 0, .slice none 0 0, .slice none 0 0, .slice ea_x en_x ec_x]) (by simp [results, Tryz.results67, go_sem, z0, z1, z2, z3, z4, z5]) rfl ?_
  have V_x : Hid (RwX nb WE (.slice ea_x en_x ec_x) x) := V_x.out.stays kpE (by decide) (PE.stays (by decide))
  have A : Al rb w WE := Fr.trans A.out FE (fun i hi q => by have := HNB.out; omega)
  have R : Rp L a cc rb WE s4 := R.out.fr FE (fun q => by omega)
  exact ⟨_, _, _, _, _, _, _, _, _, _, _, _, rfl, by rw [HF.out, ← HNB.out]; exact ⟨_, _, _, rfl, OwnE.nil_ _ _, OwnE.nil_ _ _, V_x⟩, by rw [HF.out]; exact R, A⟩
end
end Go.Proofs.YtahalimekacliaaGreatDoor
