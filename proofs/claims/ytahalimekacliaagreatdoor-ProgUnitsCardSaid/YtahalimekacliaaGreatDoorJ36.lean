/- The reader of programs: equations: the walk. (Printed by gen/straight.py.) The reader of programs: items that assume, that guarantee: the walk. (Printed by gen/straight.py.) The reader of programs: ghosts: the walk. (Printed by gen/straight.py.) The reader of programs: what stands behind var: the walk. -/
import Derived.Test.YtahalimekacliaaGreatDoorJ13
import Derived.Test.YtahalimekacliaaGreatDoorJ35
set_option linter.unusedVariables false
set_option linter.unusedSimpArgs false
namespace Go.Proofs.YtahalimekacliaaGreatDoor
open Go.RowKit Go.Shelf Tx Px Mx Gx
theorem wp_letW {P : Program} {c : Code} {Q : Exit → Act → World → Prop} {a : Act} {w : World} (h : ∀ W, W = w → Code.wp P c Q a W) : Code.wp P c Q a w := h w rfl
theorem KpT.one {T g base : Nat} {cs : Array Value} {W W' : World} (hk : Blk W g cs T) (hf : Fr (fun k => k = g) W W') : KpT T base W W' := fun k cur T' _ hc ht =>
  hf.block k (Array.getElem?_eq_some_iff.1 hc).1 (fun e => by
    subst e
    unfold Blk at hk
    rw [hc] at hk
    simp at hk
    exact ht hk.2)
section
variable {L : List Tok} {a : Option Addr} {cc rb : Nat} {w0 : World} {X : XO}
theorem itemR_1 {s : Rs} (h : markR L s = tAssume) : itemR L X s = (⟨1, noS, 0, (exprR X (nextR s)).1, [], []⟩, needR L tSemi (exprR X (nextR s)).2) := by
  show ite (markR L s = tAssume) _ _ = _
  rw [if_pos h]
  all_goals rfl
theorem itemR_2 {s : Rs} (h : markR L s = tGuar) : itemR L X s = (⟨2, noS, 0, (exprR X (nextR s)).1, [], []⟩, needR L tSemi (exprR X (nextR s)).2) := by
  show ite (markR L s = tAssume) _ (ite (markR L s = tGuar) _ _) = _
  rw [if_neg (by rw [h]; decide), if_pos h]
  all_goals rfl
theorem itemR_3 {s : Rs} (h : markR L s = tGhost) : itemR L X s = (⟨3, (paramR L (nextR s)).1.name, (paramR L (nextR s)).1.ty, (exprR X (needR L tEq (paramR L (nextR s)).2)).1, [], []⟩, needR L tSemi (exprR X (needR L tEq (paramR L (nextR s)).2)).2) := by
  show ite (markR L s = tAssume) _ (ite (markR L s = tGuar) _ (ite (markR L s = tGhost) _ _)) = _
  rw [if_neg (by rw [h]; decide), if_neg (by rw [h]; decide), if_pos h]
  all_goals rfl
theorem itemR_4 {s : Rs} (h : markR L s = tMode) : itemR L X s = (⟨4, (nameR L (nextR s)).1, 0, (exprR X (needR L tRequire (nameR L (nextR s)).2)).1, (exprR X (needR L tEnsure (exprR X (needR L tRequire (nameR L (nextR s)).2)).2)).1, []⟩, needR L tSemi (exprR X (needR L tEnsure (exprR X (needR L tRequire (nameR L (nextR s)).2)).2)).2) := by
  show ite (markR L s = tAssume) _ (ite (markR L s = tGuar) _ (ite (markR L s = tGhost) _ (ite (markR L s = tMode) _ _))) = _
  rw [if_neg (by rw [h]; decide), if_neg (by rw [h]; decide), if_neg (by rw [h]; decide), if_pos h]
  all_goals rfl
theorem itemR_5 {s : Rs} (h : markR L s = tImport) : itemR L X s = (⟨5, (nameR L (nextR s)).1, 0, [], [], (betweenR L (exprR X) tComma (nameR L (nextR s)).2).1⟩, needR L tSemi (betweenR L (exprR X) tComma (nameR L (nextR s)).2).2) := by
  show ite (markR L s = tAssume) _ (ite (markR L s = tGuar) _ (ite (markR L s = tGhost) _ (ite (markR L s = tMode) _ _))) = _
  rw [if_neg (by rw [h]; decide), if_neg (by rw [h]; decide), if_neg (by rw [h]; decide), if_neg (by rw [h]; decide)]
  all_goals rfl
set_option maxRecDepth 100000 in
set_option maxHeartbeats 8000000 in
theorem pequation_any (EV : Hid (EnvOk w0 rb a cc L)) (hX : Hid (XOk L X)) (s : Rs) (w : World) (hB : Al rb w0 w) (hR : Rp L a cc rb w s) :
    Calls Tryz.prog 41 #[.pointer (some ⟨rb, 0, none⟩)] w fun e w' => ∃ ea en ec, e = .returned (.agg #[.string (eqR L X s).1.name, .slice ea en ec]) ∧ OwnE w.heap.size w' (.slice ea en ec) (eqR L X s).1.e ∧ Rp L a cc rb w' (eqR L X s).2 ∧ Al rb w w' := by
  have hrb := hR.lt
  obtain ⟨nb, hnb⟩ : ∃ nb, nb = w.heap.size := ⟨_, rfl⟩
  rw [← hnb] at hrb
  have HNB := Lib.hid hnb
  have A : Hid (Al rb w w) := Al.refl rb w
  have R := Lib.hid hR
  have HB := Lib.hid hB
  obtain ⟨n, h_n⟩ : ∃ x, x = (nameR L s).1 := ⟨_, rfl⟩
  obtain ⟨s1, h_s1⟩ : ∃ x, x = (nameR L s).2 := ⟨_, rfl⟩
  obtain ⟨s2, h_s2⟩ : ∃ x, x = needR L tEq s1 := ⟨_, rfl⟩
  obtain ⟨x, h_x⟩ : ∃ x, x = (exprR X s2).1 := ⟨_, rfl⟩
  obtain ⟨s3, h_s3⟩ : ∃ x, x = (exprR X s2).2 := ⟨_, rfl⟩
  obtain ⟨s4, h_s4⟩ : ∃ x, x = needR L tSemi s3 := ⟨_, rfl⟩
  have HF : Hid (eqR L X s = (⟨n, x⟩, s4)) := by show _ = _; rw [h_s4, h_s3, h_x, h_s2, h_s1, h_n]; rfl
  have S_n := Lib.hid h_n
  have S_s1 := Lib.hid h_s1
  have S_s2 := Lib.hid h_s2
  have S_x := Lib.hid h_x
  have S_s3 := Lib.hid h_s3
  have S_s4 := Lib.hid h_s4
  clear h_n h_s1 h_s2 h_x h_s3 h_s4
  clear hR hB hnb
  go_enter Tryz.func41, Tryz.ntmps41
  go_upto_region 1 with fail
  refine wp_letW ?_
  intro W1 hW1
  have hb_ : Below w.heap.size w W1 := by rw [hW1]; exact (Below.refl _ _).alloc (Nat.le_refl _) _
  have F_ : Fr (fun _ => False) w W1 := Fr.of_below hb_ _
  obtain ⟨b_r, hb_r⟩ : ∃ b, b = w.heap.size := ⟨_, rfl⟩
  have hA_ : w.heap.size ≤ w.heap.size := A.out.size
  have n_r : nb ≤ b_r := by have := HNB.out; omega
  have K_r : Hid (Blk W1 b_r #[.string ⟨#[]⟩, .slice none 0 0] 65) := by show Blk _ _ _ _; rw [hW1, hb_r]; exact Blk.new w _ _
  have A : Hid (Al rb w W1) := A.out.then hb_
  have R : Hid (Rp L a cc rb W1 s) := R.out.below hb_
  rw [← hb_r]
  clear hW1 hb_ F_ hA_ hb_r
  have hc_ := pname_any EV s W1 (HB.out.next A.out) R.out
  rw [← S_n.out, ← S_s1.out] at hc_
  go_wp2_with fail
  refine hc_.mono ?_
  rintro e w2 ⟨rfl, hR_, hA_⟩
  have F_ : Al rb W1 w2 := hA_
  have K_r : Hid (Blk w2 b_r #[.string ⟨#[]⟩, .slice none 0 0] 65) := F_.blk K_r.out (by omega)
  have A : Hid (Al rb w w2) := A.out.next F_
  have R := Lib.hid hR_
  clear hc_ hR_ hA_ F_
  go_upto_region 2 with fail
  refine wp_letW ?_
  intro W3 hW3
  have hb_ : Below w2.heap.size w2 W3 := by rw [hW3]; exact (Below.refl _ _).alloc (Nat.le_refl _) _
  have F_ : Fr (fun _ => False) w2 W3 := Fr.of_below hb_ _
  obtain ⟨b_q, hb_q⟩ : ∃ b, b = w2.heap.size := ⟨_, rfl⟩
  have l_r_q : b_r < b_q := by have := K_r.out.lt; omega
  have K_r : Hid (Blk W3 b_r #[.string ⟨#[]⟩, .slice none 0 0] 65) := K_r.out.below hb_
  have hA_ : w.heap.size ≤ w2.heap.size := A.out.size
  have n_q : nb ≤ b_q := by have := HNB.out; omega
  have K_q : Hid (Blk W3 b_q #[.string n, .slice none 0 0] 65) := by show Blk _ _ _ _; rw [hW3, hb_q]; exact Blk.new w2 _ _
  have A : Hid (Al rb w W3) := A.out.then hb_
  have R : Hid (Rp L a cc rb W3 s1) := R.out.below hb_
  rw [← hb_q]
  clear hW3 hb_ F_ hA_ hb_q
  have hb_ : Below W3.heap.size W3 (W3.alloc (.cells #[.string ⟨#[61]⟩] 9)) := (Below.refl _ _).alloc (Nat.le_refl _) _
  have hc_ := pneed_any EV W3.heap.size [⟨#[61]⟩] (by decide) (by decide) s1 (W3.alloc (.cells #[.string ⟨#[61]⟩] 9)) ((HB.out.next A.out).then hb_) (R.out.below hb_) (Blk.new W3 _ _) (by have := A.out.size; have := HNB.out; omega)
  have e_ : needL L [⟨#[61]⟩] s1 = s2 := S_s2.out.symm
  rw [e_] at hc_
  have HBA := Lib.hid hb_
  clear hb_ e_
  go_wp2_with fail
  refine hc_.mono ?_
  rintro e w4 ⟨rfl, hR_, hA_⟩
  have F_ : Al rb W3 w4 := (Al.of (rb := rb) HBA.out).next hA_
  have K_r : Hid (Blk w4 b_r #[.string ⟨#[]⟩, .slice none 0 0] 65) := F_.blk K_r.out (by omega)
  have K_q : Hid (Blk w4 b_q #[.string n, .slice none 0 0] 65) := F_.blk K_q.out (by omega)
  have A : Hid (Al rb w w4) := A.out.next F_
  have R := Lib.hid hR_
  clear hc_ hR_ hA_ F_ HBA
  go_upto_region 3 with fail
  have hc_ := pexpr_any EV hX s2 w4 (HB.out.next A.out) R.out
  rw [← S_x.out, ← S_s3.out] at hc_
  have hl_ : nb ≤ w4.heap.size := by have := A.out.size; have := HNB.out; omega
  go_wp2_with fail
  refine hc_.mono ?_
  rintro e w5 ⟨v_, rfl, hV_, hR_, hA_⟩
  obtain ⟨ea_x, ec_x, rfl, -⟩ := hV_.form
  obtain ⟨en_x, hen_⟩ : ∃ n, n = x.length := ⟨_, rfl⟩
  rw [← hen_] at hV_ ⊢
  have hV2_ := Lib.hid (hV_.mono hl_)
  clear hV_ hen_ hl_
  have F_ : Al rb w4 w5 := hA_
  have K_r : Hid (Blk w5 b_r #[.string ⟨#[]⟩, .slice none 0 0] 65) := F_.blk K_r.out (by omega)
  have K_q : Hid (Blk w5 b_q #[.string n, .slice none 0 0] 65) := F_.blk K_q.out (by omega)
  have A : Hid (Al rb w w5) := A.out.next F_
  have R := Lib.hid hR_
  clear hc_ hR_ hA_ F_
  have V_x : Hid (OwnE nb w5 (.slice ea_x en_x ec_x) x) := hV2_
  clear hV2_
  have k_q_0 : w5.cell? ⟨b_q, 0, none⟩ = some (.string n) := Blk.c K_q.out rfl
  have f_q_0 : w5.frozen? ⟨b_q, 0, none⟩ = false := Blk.z K_q.out rfl
  have k_q_1 : w5.cell? ⟨b_q, 1, none⟩ = some (.slice none 0 0) := Blk.c K_q.out rfl
  have f_q_1 : w5.frozen? ⟨b_q, 1, none⟩ = false := Blk.z K_q.out rfl
  go_upto_region 4 with fail
  refine wp_letW ?_
  intro W6 hW6
  have F_ : Fr (fun k => k = b_q) w5 W6 := by rw [hW6]; exact (Fr.set_at w5 b_q 1 _)
  have kp_ : KpT 65 nb w5 W6 := KpT.one K_q.out F_
  have K2_ : Blk W6 b_q #[.string n, .slice ea_x en_x ec_x] 65 := by rw [hW6]; have h := (Blk.setAt K_q.out 1 (.slice ea_x en_x ec_x)); simpa using h
  have K_r : Hid (Blk W6 b_r #[.string ⟨#[]⟩, .slice none 0 0] 65) := F_.blk' K_r.out (by omega)
  have V_x : Hid (OwnE nb W6 (.slice ea_x en_x ec_x) x) := KpT.ownE kp_ V_x.out (by decide)
  have K_q := Lib.hid K2_
  have A : Hid (Al rb w W6) := Fr.trans A.out F_ (fun i hi q => by have := HNB.out; omega)
  have R : Hid (Rp L a cc rb W6 s3) := R.out.fr F_ (fun q => by omega)
  clear k_q_0 f_q_0 k_q_1 f_q_1
  clear hW6 F_ kp_ K2_
  have hb_ : Below W6.heap.size W6 (W6.alloc (.cells #[.string ⟨#[59]⟩] 9)) := (Below.refl _ _).alloc (Nat.le_refl _) _
  have hc_ := pneed_any EV W6.heap.size [⟨#[59]⟩] (by decide) (by decide) s3 (W6.alloc (.cells #[.string ⟨#[59]⟩] 9)) ((HB.out.next A.out).then hb_) (R.out.below hb_) (Blk.new W6 _ _) (by have := A.out.size; have := HNB.out; omega)
  have e_ : needL L [⟨#[59]⟩] s3 = s4 := S_s4.out.symm
  rw [e_] at hc_
  have HBA := Lib.hid hb_
  clear hb_ e_
  go_wp2_with fail
  refine hc_.mono ?_
  rintro e w7 ⟨rfl, hR_, hA_⟩
  have F_ : Al rb W6 w7 := (Al.of (rb := rb) HBA.out).next hA_
  have K_r : Hid (Blk w7 b_r #[.string ⟨#[]⟩, .slice none 0 0] 65) := F_.blk K_r.out (by omega)
  have K_q : Hid (Blk w7 b_q #[.string n, .slice ea_x en_x ec_x] 65) := F_.blk K_q.out (by omega)
  have V_x : Hid (OwnE nb w7 (.slice ea_x en_x ec_x) x) := KpT.ownE (Al.kpT (T := noT) F_ hrb) V_x.out (by decide)
  have A : Hid (Al rb w w7) := A.out.next F_
  have R := Lib.hid hR_
  clear hc_ hR_ hA_ F_ HBA
  have k_q_0 : w7.cell? ⟨b_q, 0, none⟩ = some (.string n) := Blk.c K_q.out rfl
  have k_q_1 : w7.cell? ⟨b_q, 1, none⟩ = some (.slice ea_x en_x ec_x) := Blk.c K_q.out rfl
  have k_r_0 : w7.cell? ⟨b_r, 0, none⟩ = some (.string ⟨#[]⟩) := Blk.c K_r.out rfl
  have f_r_0 : w7.frozen? ⟨b_r, 0, none⟩ = false := Blk.z K_r.out rfl
  have k_r_1 : w7.cell? ⟨b_r, 1, none⟩ = some (.slice none 0 0) := Blk.c K_r.out rfl
  have f_r_1 : w7.frozen? ⟨b_r, 1, none⟩ = false := Blk.z K_r.out rfl
  go_wp2_with fail
  obtain ⟨WE, hWE⟩ : ∃ WE, WE = ((w7.setCell ⟨b_r, 0, none⟩ (.string n)).setCell ⟨b_r, 1, none⟩ (.slice ea_x en_x ec_x)) := ⟨_, rfl⟩
  have KE : Blk WE b_r #[.string n, .slice ea_x en_x ec_x] 65 := by rw [hWE]; have h := (Blk.setAt (Blk.setAt K_r.out 0 (.string n)) 1 (.slice ea_x en_x ec_x)); simpa using h
  have FE : Fr (fun k => k = b_r) w7 WE := by rw [hWE]; exact (Fr.trans (Fr.set_at w7 b_r 0 _) (Fr.set_at _ b_r 1 _) (fun _ _ q => q))
  have kpE : KpT 65 nb w7 WE := KpT.one K_r.out FE
  have z0 : WE.cell? ⟨b_r, 0, none⟩ = some (.string n) := Blk.c KE rfl
  have z1 : WE.cell? ⟨b_r, 1, none⟩ = some (.slice ea_x en_x ec_x) := Blk.c KE rfl
  rw [← hWE]
  refine bodyPost_ret (v := .agg #[.string n, .slice ea_x en_x ec_x]) (by simp [results, Tryz.results41, go_sem, z0, z1]) rfl ?_
  have V_x : Hid (OwnE nb WE (.slice ea_x en_x ec_x) x) := KpT.ownE kpE V_x.out (by decide)
  have A : Al rb w WE := Fr.trans A.out FE (fun i hi q => by have := HNB.out; omega)
  have R : Rp L a cc rb WE s4 := R.out.fr FE (fun q => by omega)
  exact ⟨_, _, _, by rw [HF.out], by rw [HF.out]; have := HNB.out; rw [← this]; exact V_x.out, by rw [HF.out]; exact R, A⟩
end
end Go.Proofs.YtahalimekacliaaGreatDoor
namespace Go.Proofs.YtahalimekacliaaGreatDoor
open Go.RowKit Go.Shelf Tx Px Mx Gx
section
variable {L : List Tok} {a : Option Addr} {cc rb : Nat} {w0 : World} {X : XO}
set_option maxRecDepth 100000 in
set_option maxHeartbeats 8000000 in
theorem pitem1_any (EV : Hid (EnvOk w0 rb a cc L)) (hX : Hid (XOk L X)) (s : Rs) (hm : markR L s = tAssume) (w : World) (hB : Al rb w0 w) (hR : Rp L a cc rb w s) :
    Calls Tryz.prog 67 #[.pointer (some ⟨rb, 0, none⟩)] w fun e w' => ∃ (kd : Int) (n : ByteArray) (t : Int) (ea : Option Addr) (en ec : Nat) (fa : Option Addr) (fn fc : Nat) (ga : Option Addr) (gn gc : Nat), e = .returned (.agg #[.int .i64 kd, .string n, .int .i64 t, .slice ea en ec, .slice fa fn fc, .slice ga gn gc]) ∧ PIm w.heap.size w' [.int .i64 kd, .string n, .int .i64 t, .slice ea en ec, .slice fa fn fc, .slice ga gn gc] (itemR L X s).1 ∧ Rp L a cc rb w' (itemR L X s).2 ∧ Al rb w w' := by
  have hrb := hR.lt
  obtain ⟨nb, hnb⟩ : ∃ nb, nb = w.heap.size := ⟨_, rfl⟩
  rw [← hnb] at hrb
  have HNB := Lib.hid hnb
  have A : Hid (Al rb w w) := Al.refl rb w
  have R := Lib.hid hR
  have HB := Lib.hid hB
  have hlt := (mark_lt (L := L) (s := s) (by rw [hm]; decide)).2
  obtain ⟨m, hmm⟩ : ∃ m, m = markR L s := ⟨_, rfl⟩
  have S_m := Lib.hid hmm
  have q0 : (m.toList == [97, 115, 115, 117, 109, 101]) = true := by rw [hmm, hm, Lib.toList_data]; decide +kernel
  have HM := Lib.hid hm
  clear hmm hm
  obtain ⟨s1, h_s1⟩ : ∃ x, x = nextR s := ⟨_, rfl⟩
  obtain ⟨x, h_x⟩ : ∃ x, x = (exprR X s1).1 := ⟨_, rfl⟩
  obtain ⟨s2, h_s2⟩ : ∃ x, x = (exprR X s1).2 := ⟨_, rfl⟩
  obtain ⟨s3, h_s3⟩ : ∃ x, x = needR L tSemi s2 := ⟨_, rfl⟩
  have HF : Hid (itemR L X s = (⟨1, noS, 0, x, [], []⟩, s3)) := by show _ = _; rw [h_s3, h_s2, h_x, h_s1]; exact itemR_1 HM.out
  have S_s1 := Lib.hid h_s1
  have S_x := Lib.hid h_x
  have S_s2 := Lib.hid h_s2
  have S_s3 := Lib.hid h_s3
  clear h_s1 h_x h_s2 h_s3
  have HLT := Lib.hid hlt
  clear hlt
  clear hR hB hnb
  go_enter Tryz.func67, Tryz.ntmps67
  go_upto_region 1 with fail
  refine wp_letW ?_
  intro W1 hW1
  have hb_ : Below w.heap.size w W1 := by rw [hW1]; exact (Below.refl _ _).alloc (Nat.le_refl _) _
  have F_ : Fr (fun _ => False) w W1 := Fr.of_below hb_ _
  obtain ⟨b_r, hb_r⟩ : ∃ b, b = w.heap.size := ⟨_, rfl⟩
  have hA_ : w.heap.size ≤ w.heap.size := A.out.size
  have n_r : nb ≤ b_r := by have := HNB.out; omega
  have K_r : Hid (Blk W1 b_r #[.int .i64 0, .string ⟨#[]⟩, .int .i64 0, .slice none 0 0, .slice none 0 0, .slice none 0 0] 54) := by show Blk _ _ _ _; rw [hW1, hb_r]; exact Blk.new w _ _
  have A : Hid (Al rb w W1) := A.out.then hb_
  have R : Hid (Rp L a cc rb W1 s) := R.out.below hb_
  rw [← hb_r]
  clear hW1 hb_ F_ hA_ hb_r
  go_upto_region 2 with fail
  refine wp_letW ?_
  intro W2 hW2
  have hb_ : Below W1.heap.size W1 W2 := by rw [hW2]; exact (Below.refl _ _).alloc (Nat.le_refl _) _
  have F_ : Fr (fun _ => False) W1 W2 := Fr.of_below hb_ _
  obtain ⟨b_q, hb_q⟩ : ∃ b, b = W1.heap.size := ⟨_, rfl⟩
  have l_r_q : b_r < b_q := by have := K_r.out.lt; omega
  have K_r : Hid (Blk W2 b_r #[.int .i64 0, .string ⟨#[]⟩, .int .i64 0, .slice none 0 0, .slice none 0 0, .slice none 0 0] 54) := K_r.out.below hb_
  have hA_ : w.heap.size ≤ W1.heap.size := A.out.size
  have n_q : nb ≤ b_q := by have := HNB.out; omega
  have K_q : Hid (Blk W2 b_q #[.int .i64 0, .string ⟨#[]⟩, .int .i64 0, .slice none 0 0, .slice none 0 0, .slice none 0 0] 54) := by show Blk _ _ _ _; rw [hW2, hb_q]; exact Blk.new W1 _ _
  have A : Hid (Al rb w W2) := A.out.then hb_
  have R : Hid (Rp L a cc rb W2 s) := R.out.below hb_
  rw [← hb_q]
  clear hW2 hb_ F_ hA_ hb_q
  have hc_ := pmark_any EV s W2 (HB.out.next A.out) R.out
  rw [← S_m.out] at hc_
  go_wp2_with fail
  refine hc_.mono ?_
  rintro e w3 ⟨rfl, hb_⟩
  have hA_ : Al rb W2 w3 := Al.of hb_
  have hR_ := R.out.below hb_
  clear hb_
  have F_ : Al rb W2 w3 := hA_
  have K_r : Hid (Blk w3 b_r #[.int .i64 0, .string ⟨#[]⟩, .int .i64 0, .slice none 0 0, .slice none 0 0, .slice none 0 0] 54) := F_.blk K_r.out (by omega)
  have K_q : Hid (Blk w3 b_q #[.int .i64 0, .string ⟨#[]⟩, .int .i64 0, .slice none 0 0, .slice none 0 0, .slice none 0 0] 54) := F_.blk K_q.out (by omega)
  have A : Hid (Al rb w w3) := A.out.next F_
  have R := Lib.hid hR_
  clear hc_ hR_ hA_ F_
  go_upto_region 3 with fail
  obtain ⟨c0, c1, c2, c3⟩ := R.out.cells
  obtain ⟨g0, g1, g2, g3⟩ := R.out.free
  have hI5 : (s.i : Int) + 1 ≤ 300000 := by have := EV.out.len; have := HLT.out; omega
  go_upto_region 4 with fail
  refine wp_letW ?_
  intro W4 hW4
  have F_ : Al rb w3 W4 := by rw [hW4]; exact (Al.refl rb _).set 1 _
  have hR_ : Rp L a cc rb W4 s1 := by rw [hW4, S_s1.out]; have h := R.out.setI (s.i + 1) HLT.out; simpa [nextR] using h
  have K_r : Hid (Blk W4 b_r #[.int .i64 0, .string ⟨#[]⟩, .int .i64 0, .slice none 0 0, .slice none 0 0, .slice none 0 0] 54) := F_.blk K_r.out (by omega)
  have K_q : Hid (Blk W4 b_q #[.int .i64 0, .string ⟨#[]⟩, .int .i64 0, .slice none 0 0, .slice none 0 0, .slice none 0 0] 54) := F_.blk K_q.out (by omega)
  have A : Hid (Al rb w W4) := A.out.next F_
  have R := Lib.hid hR_
  clear hW4 F_ hR_ c0 c1 c2 c3 g0 g1 g2 g3 hI5
  go_upto_region 6 with fail
  have hc_ := pexpr_any EV hX s1 W4 (HB.out.next A.out) R.out
  rw [← S_x.out, ← S_s2.out] at hc_
  have hl_ : nb ≤ W4.heap.size := by have := A.out.size; have := HNB.out; omega
  go_wp2_with fail
  refine hc_.mono ?_
  rintro e w5 ⟨v_, rfl, hV_, hR_, hA_⟩
  obtain ⟨ea_x, ec_x, rfl, -⟩ := hV_.form
  obtain ⟨en_x, hen_⟩ : ∃ n, n = x.length := ⟨_, rfl⟩
  rw [← hen_] at hV_ ⊢
  have hV2_ := Lib.hid (hV_.mono hl_)
  clear hV_ hen_ hl_
  have F_ : Al rb W4 w5 := hA_
  have K_r : Hid (Blk w5 b_r #[.int .i64 0, .string ⟨#[]⟩, .int .i64 0, .slice none 0 0, .slice none 0 0, .slice none 0 0] 54) := F_.blk K_r.out (by omega)
  have K_q : Hid (Blk w5 b_q #[.int .i64 0, .string ⟨#[]⟩, .int .i64 0, .slice none 0 0, .slice none 0 0, .slice none 0 0] 54) := F_.blk K_q.out (by omega)
  have A : Hid (Al rb w w5) := A.out.next F_
  have R := Lib.hid hR_
  clear hc_ hR_ hA_ F_
  have V_x : Hid (OwnE nb w5 (.slice ea_x en_x ec_x) x) := hV2_
  clear hV2_
  have k_q_0 : w5.cell? ⟨b_q, 0, none⟩ = some (.int .i64 0) := Blk.c K_q.out rfl
  have f_q_0 : w5.frozen? ⟨b_q, 0, none⟩ = false := Blk.z K_q.out rfl
  have k_q_1 : w5.cell? ⟨b_q, 1, none⟩ = some (.string ⟨#[]⟩) := Blk.c K_q.out rfl
  have f_q_1 : w5.frozen? ⟨b_q, 1, none⟩ = false := Blk.z K_q.out rfl
  have k_q_2 : w5.cell? ⟨b_q, 2, none⟩ = some (.int .i64 0) := Blk.c K_q.out rfl
  have f_q_2 : w5.frozen? ⟨b_q, 2, none⟩ = false := Blk.z K_q.out rfl
  have k_q_3 : w5.cell? ⟨b_q, 3, none⟩ = some (.slice none 0 0) := Blk.c K_q.out rfl
  have f_q_3 : w5.frozen? ⟨b_q, 3, none⟩ = false := Blk.z K_q.out rfl
  have k_q_4 : w5.cell? ⟨b_q, 4, none⟩ = some (.slice none 0 0) := Blk.c K_q.out rfl
  have f_q_4 : w5.frozen? ⟨b_q, 4, none⟩ = false := Blk.z K_q.out rfl
  have k_q_5 : w5.cell? ⟨b_q, 5, none⟩ = some (.slice none 0 0) := Blk.c K_q.out rfl
  have f_q_5 : w5.frozen? ⟨b_q, 5, none⟩ = false := Blk.z K_q.out rfl
  go_upto_region 22 with fail
  refine wp_letW ?_
  intro W6 hW6
  have F_ : Fr (fun k => k = b_q) w5 W6 := by rw [hW6]; exact (Fr.trans (Fr.trans (Fr.trans (Fr.trans (Fr.trans (Fr.set_at w5 b_q 0 _) (Fr.set_at _ b_q 1 _) (fun _ _ q => q)) (Fr.set_at _ b_q 2 _) (fun _ _ q => q)) (Fr.set_at _ b_q 3 _) (fun _ _ q => q)) (Fr.set_at _ b_q 4 _) (fun _ _ q => q)) (Fr.set_at _ b_q 5 _) (fun _ _ q => q))
  have kp_ : KpT 54 nb w5 W6 := KpT.one K_q.out F_
  have K2_ : Blk W6 b_q #[.int .i64 1, .string ⟨#[]⟩, .int .i64 0, .slice ea_x en_x ec_x, .slice none 0 0, .slice none 0 0] 54 := by rw [hW6]; have h := (Blk.setAt (Blk.setAt (Blk.setAt (Blk.setAt (Blk.setAt (Blk.setAt K_q.out 0 (.int .i64 1)) 1 (.string ⟨#[]⟩)) 2 (.int .i64 0)) 3 (.slice ea_x en_x ec_x)) 4 (.slice none 0 0)) 5 (.slice none 0 0)); simpa using h
  have K_r : Hid (Blk W6 b_r #[.int .i64 0, .string ⟨#[]⟩, .int .i64 0, .slice none 0 0, .slice none 0 0, .slice none 0 0] 54) := F_.blk' K_r.out (by omega)
  have V_x : Hid (OwnE nb W6 (.slice ea_x en_x ec_x) x) := KpT.ownE kp_ V_x.out (by decide)
  have K_q := Lib.hid K2_
  have A : Hid (Al rb w W6) := Fr.trans A.out F_ (fun i hi q => by have := HNB.out; omega)
  have R : Hid (Rp L a cc rb W6 s2) := R.out.fr F_ (fun q => by omega)
  clear k_q_0 f_q_0 k_q_1 f_q_1 k_q_2 f_q_2 k_q_3 f_q_3 k_q_4 f_q_4 k_q_5 f_q_5
  clear hW6 F_ kp_ K2_
  have hb_ : Below W6.heap.size W6 (W6.alloc (.cells #[.string ⟨#[59]⟩] 9)) := (Below.refl _ _).alloc (Nat.le_refl _) _
  have hc_ := pneed_any EV W6.heap.size [⟨#[59]⟩] (by decide) (by decide) s2 (W6.alloc (.cells #[.string ⟨#[59]⟩] 9)) ((HB.out.next A.out).then hb_) (R.out.below hb_) (Blk.new W6 _ _) (by have := A.out.size; have := HNB.out; omega)
  have e_ : needL L [⟨#[59]⟩] s2 = s3 := S_s3.out.symm
  rw [e_] at hc_
  have HBA := Lib.hid hb_
  clear hb_ e_
  go_wp2_with fail
  refine hc_.mono ?_
  rintro e w7 ⟨rfl, hR_, hA_⟩
  have F_ : Al rb W6 w7 := (Al.of (rb := rb) HBA.out).next hA_
  have K_r : Hid (Blk w7 b_r #[.int .i64 0, .string ⟨#[]⟩, .int .i64 0, .slice none 0 0, .slice none 0 0, .slice none 0 0] 54) := F_.blk K_r.out (by omega)
  have K_q : Hid (Blk w7 b_q #[.int .i64 1, .string ⟨#[]⟩, .int .i64 0, .slice ea_x en_x ec_x, .slice none 0 0, .slice none 0 0] 54) := F_.blk K_q.out (by omega)
  have V_x : Hid (OwnE nb w7 (.slice ea_x en_x ec_x) x) := KpT.ownE (Al.kpT (T := noT) F_ hrb) V_x.out (by decide)
  have A : Hid (Al rb w w7) := A.out.next F_
  have R := Lib.hid hR_
  clear hc_ hR_ hA_ F_ HBA
  have k_q_0 : w7.cell? ⟨b_q, 0, none⟩ = some (.int .i64 1) := Blk.c K_q.out rfl
  have k_q_1 : w7.cell? ⟨b_q, 1, none⟩ = some (.string ⟨#[]⟩) := Blk.c K_q.out rfl
  have k_q_2 : w7.cell? ⟨b_q, 2, none⟩ = some (.int .i64 0) := Blk.c K_q.out rfl
  have k_q_3 : w7.cell? ⟨b_q, 3, none⟩ = some (.slice ea_x en_x ec_x) := Blk.c K_q.out rfl
  have k_q_4 : w7.cell? ⟨b_q, 4, none⟩ = some (.slice none 0 0) := Blk.c K_q.out rfl
  have k_q_5 : w7.cell? ⟨b_q, 5, none⟩ = some (.slice none 0 0) := Blk.c K_q.out rfl
  have k_r_0 : w7.cell? ⟨b_r, 0, none⟩ = some (.int .i64 0) := Blk.c K_r.out rfl
  have f_r_0 : w7.frozen? ⟨b_r, 0, none⟩ = false := Blk.z K_r.out rfl
  have k_r_1 : w7.cell? ⟨b_r, 1, none⟩ = some (.string ⟨#[]⟩) := Blk.c K_r.out rfl
  have f_r_1 : w7.frozen? ⟨b_r, 1, none⟩ = false := Blk.z K_r.out rfl
  have k_r_2 : w7.cell? ⟨b_r, 2, none⟩ = some (.int .i64 0) := Blk.c K_r.out rfl
  have f_r_2 : w7.frozen? ⟨b_r, 2, none⟩ = false := Blk.z K_r.out rfl
  have k_r_3 : w7.cell? ⟨b_r, 3, none⟩ = some (.slice none 0 0) := Blk.c K_r.out rfl
  have f_r_3 : w7.frozen? ⟨b_r, 3, none⟩ = false := Blk.z K_r.out rfl
  have k_r_4 : w7.cell? ⟨b_r, 4, none⟩ = some (.slice none 0 0) := Blk.c K_r.out rfl
  have f_r_4 : w7.frozen? ⟨b_r, 4, none⟩ = false := Blk.z K_r.out rfl
  have k_r_5 : w7.cell? ⟨b_r, 5, none⟩ = some (.slice none 0 0) := Blk.c K_r.out rfl
  have f_r_5 : w7.frozen? ⟨b_r, 5, none⟩ = false := Blk.z K_r.out rfl
  go_wp2_with fail
  obtain ⟨WE, hWE⟩ : ∃ WE, WE = ((((((w7.setCell ⟨b_r, 0, none⟩ (.int .i64 1)).setCell ⟨b_r, 1, none⟩ (.string ⟨#[]⟩)).setCell ⟨b_r, 2, none⟩ (.int .i64 0)).setCell ⟨b_r, 3, none⟩ (.slice ea_x en_x ec_x)).setCell ⟨b_r, 4, none⟩ (.slice none 0 0)).setCell ⟨b_r, 5, none⟩ (.slice none 0 0)) := ⟨_, rfl⟩
  have KE : Blk WE b_r #[.int .i64 1, .string ⟨#[]⟩, .int .i64 0, .slice ea_x en_x ec_x, .slice none 0 0, .slice none 0 0] 54 := by rw [hWE]; have h := (Blk.setAt (Blk.setAt (Blk.setAt (Blk.setAt (Blk.setAt (Blk.setAt K_r.out 0 (.int .i64 1)) 1 (.string ⟨#[]⟩)) 2 (.int .i64 0)) 3 (.slice ea_x en_x ec_x)) 4 (.slice none 0 0)) 5 (.slice none 0 0)); simpa using h
  have FE : Fr (fun k => k = b_r) w7 WE := by rw [hWE]; exact (Fr.trans (Fr.trans (Fr.trans (Fr.trans (Fr.trans (Fr.set_at w7 b_r 0 _) (Fr.set_at _ b_r 1 _) (fun _ _ q => q)) (Fr.set_at _ b_r 2 _) (fun _ _ q => q)) (Fr.set_at _ b_r 3 _) (fun _ _ q => q)) (Fr.set_at _ b_r 4 _) (fun _ _ q => q)) (Fr.set_at _ b_r 5 _) (fun _ _ q => q))
  have kpE : KpT 54 nb w7 WE := KpT.one K_r.out FE
  have z0 : WE.cell? ⟨b_r, 0, none⟩ = some (.int .i64 1) := Blk.c KE rfl
  have z1 : WE.cell? ⟨b_r, 1, none⟩ = some (.string ⟨#[]⟩) := Blk.c KE rfl
  have z2 : WE.cell? ⟨b_r, 2, none⟩ = some (.int .i64 0) := Blk.c KE rfl
  have z3 : WE.cell? ⟨b_r, 3, none⟩ = some (.slice ea_x en_x ec_x) := Blk.c KE rfl
  have z4 : WE.cell? ⟨b_r, 4, none⟩ = some (.slice none 0 0) := Blk.c KE rfl
  have z5 : WE.cell? ⟨b_r, 5, none⟩ = some (.slice none 0 0) := Blk.c KE rfl
  rw [← hWE]
  refine bodyPost_ret (v := .agg #[.int .i64 1, .string ⟨#[]⟩, .int .i64 0, .slice ea_x en_x ec_x, .slice none 0 0, .slice none 0 0]) (by simp [results, Tryz.results67, go_sem, z0, z1, z2, z3, z4, z5]) rfl ?_
  have V_x : Hid (OwnE nb WE (.slice ea_x en_x ec_x) x) := KpT.ownE kpE V_x.out (by decide)
  have A : Al rb w WE := Fr.trans A.out FE (fun i hi q => by have := HNB.out; omega)
  have R : Rp L a cc rb WE s3 := R.out.fr FE (fun q => by omega)
  exact ⟨_, _, _, _, _, _, _, _, _, _, _, _, rfl, by rw [HF.out, ← HNB.out]; exact ⟨_, _, _, rfl, V_x, OwnE.nil_ _ _, Rw.nil_⟩, by rw [HF.out]; exact R, A⟩
set_option maxRecDepth 100000 in
set_option maxHeartbeats 8000000 in
theorem pitem2_any (EV : Hid (EnvOk w0 rb a cc L)) (hX : Hid (XOk L X)) (s : Rs) (hm : markR L s = tGuar) (w : World) (hB : Al rb w0 w) (hR : Rp L a cc rb w s) :
    Calls Tryz.prog 67 #[.pointer (some ⟨rb, 0, none⟩)] w fun e w' => ∃ (kd : Int) (n : ByteArray) (t : Int) (ea : Option Addr) (en ec : Nat) (fa : Option Addr) (fn fc : Nat) (ga : Option Addr) (gn gc : Nat), e = .returned (.agg #[.int .i64 kd, .string n, .int .i64 t, .slice ea en ec, .slice fa fn fc, .slice ga gn gc]) ∧ PIm w.heap.size w' [.int .i64 kd, .string n, .int .i64 t, .slice ea en ec, .slice fa fn fc, .slice ga gn gc] (itemR L X s).1 ∧ Rp L a cc rb w' (itemR L X s).2 ∧ Al rb w w' := by
  have hrb := hR.lt
  obtain ⟨nb, hnb⟩ : ∃ nb, nb = w.heap.size := ⟨_, rfl⟩
  rw [← hnb] at hrb
  have HNB := Lib.hid hnb
  have A : Hid (Al rb w w) := Al.refl rb w
  have R := Lib.hid hR
  have HB := Lib.hid hB
  have hlt := (mark_lt (L := L) (s := s) (by rw [hm]; decide)).2
  obtain ⟨m, hmm⟩ : ∃ m, m = markR L s := ⟨_, rfl⟩
  have S_m := Lib.hid hmm
  have q0 : (m.toList == [97, 115, 115, 117, 109, 101]) = false := by rw [hmm, hm, Lib.toList_data]; decide +kernel
  have q1 : (m.toList == [103, 117, 97, 114, 97, 110, 116, 101, 101]) = true := by rw [hmm, hm, Lib.toList_data]; decide +kernel
  have HM := Lib.hid hm
  clear hmm hm
  obtain ⟨s1, h_s1⟩ : ∃ x, x = nextR s := ⟨_, rfl⟩
  obtain ⟨x, h_x⟩ : ∃ x, x = (exprR X s1).1 := ⟨_, rfl⟩
  obtain ⟨s2, h_s2⟩ : ∃ x, x = (exprR X s1).2 := ⟨_, rfl⟩
  obtain ⟨s3, h_s3⟩ : ∃ x, x = needR L tSemi s2 := ⟨_, rfl⟩
  have HF : Hid (itemR L X s = (⟨2, noS, 0, x, [], []⟩, s3)) := by show _ = _; rw [h_s3, h_s2, h_x, h_s1]; exact itemR_2 HM.out
  have S_s1 := Lib.hid h_s1
  have S_x := Lib.hid h_x
  have S_s2 := Lib.hid h_s2
  have S_s3 := Lib.hid h_s3
  clear h_s1 h_x h_s2 h_s3
  have HLT := Lib.hid hlt
  clear hlt
  clear hR hB hnb
  go_enter Tryz.func67, Tryz.ntmps67
  go_upto_region 1 with fail
  refine wp_letW ?_
  intro W1 hW1
  have hb_ : Below w.heap.size w W1 := by rw [hW1]; exact (Below.refl _ _).alloc (Nat.le_refl _) _
  have F_ : Fr (fun _ => False) w W1 := Fr.of_below hb_ _
  obtain ⟨b_r, hb_r⟩ : ∃ b, b = w.heap.size := ⟨_, rfl⟩
  have hA_ : w.heap.size ≤ w.heap.size := A.out.size
  have n_r : nb ≤ b_r := by have := HNB.out; omega
  have K_r : Hid (Blk W1 b_r #[.int .i64 0, .string ⟨#[]⟩, .int .i64 0, .slice none 0 0, .slice none 0 0, .slice none 0 0] 54) := by show Blk _ _ _ _; rw [hW1, hb_r]; exact Blk.new w _ _
  have A : Hid (Al rb w W1) := A.out.then hb_
  have R : Hid (Rp L a cc rb W1 s) := R.out.below hb_
  rw [← hb_r]
  clear hW1 hb_ F_ hA_ hb_r
  go_upto_region 2 with fail
  refine wp_letW ?_
  intro W2 hW2
  have hb_ : Below W1.heap.size W1 W2 := by rw [hW2]; exact (Below.refl _ _).alloc (Nat.le_refl _) _
  have F_ : Fr (fun _ => False) W1 W2 := Fr.of_below hb_ _
  obtain ⟨b_q, hb_q⟩ : ∃ b, b = W1.heap.size := ⟨_, rfl⟩
  have l_r_q : b_r < b_q := by have := K_r.out.lt; omega
  have K_r : Hid (Blk W2 b_r #[.int .i64 0, .string ⟨#[]⟩, .int .i64 0, .slice none 0 0, .slice none 0 0, .slice none 0 0] 54) := K_r.out.below hb_
  have hA_ : w.heap.size ≤ W1.heap.size := A.out.size
  have n_q : nb ≤ b_q := by have := HNB.out; omega
  have K_q : Hid (Blk W2 b_q #[.int .i64 0, .string ⟨#[]⟩, .int .i64 0, .slice none 0 0, .slice none 0 0, .slice none 0 0] 54) := by show Blk _ _ _ _; rw [hW2, hb_q]; exact Blk.new W1 _ _
  have A : Hid (Al rb w W2) := A.out.then hb_
  have R : Hid (Rp L a cc rb W2 s) := R.out.below hb_
  rw [← hb_q]
  clear hW2 hb_ F_ hA_ hb_q
  have hc_ := pmark_any EV s W2 (HB.out.next A.out) R.out
  rw [← S_m.out] at hc_
  go_wp2_with fail
  refine hc_.mono ?_
  rintro e w3 ⟨rfl, hb_⟩
  have hA_ : Al rb W2 w3 := Al.of hb_
  have hR_ := R.out.below hb_
  clear hb_
  have F_ : Al rb W2 w3 := hA_
  have K_r : Hid (Blk w3 b_r #[.int .i64 0, .string ⟨#[]⟩, .int .i64 0, .slice none 0 0, .slice none 0 0, .slice none 0 0] 54) := F_.blk K_r.out (by omega)
  have K_q : Hid (Blk w3 b_q #[.int .i64 0, .string ⟨#[]⟩, .int .i64 0, .slice none 0 0, .slice none 0 0, .slice none 0 0] 54) := F_.blk K_q.out (by omega)
  have A : Hid (Al rb w w3) := A.out.next F_
  have R := Lib.hid hR_
  clear hc_ hR_ hA_ F_
  go_upto_region 3 with fail
  obtain ⟨c0, c1, c2, c3⟩ := R.out.cells
  obtain ⟨g0, g1, g2, g3⟩ := R.out.free
  have hI5 : (s.i : Int) + 1 ≤ 300000 := by have := EV.out.len; have := HLT.out; omega
  go_upto_region 4 with fail
  refine wp_letW ?_
  intro W4 hW4
  have F_ : Al rb w3 W4 := by rw [hW4]; exact (Al.refl rb _).set 1 _
  have hR_ : Rp L a cc rb W4 s1 := by rw [hW4, S_s1.out]; have h := R.out.setI (s.i + 1) HLT.out; simpa [nextR] using h
  have K_r : Hid (Blk W4 b_r #[.int .i64 0, .string ⟨#[]⟩, .int .i64 0, .slice none 0 0, .slice none 0 0, .slice none 0 0] 54) := F_.blk K_r.out (by omega)
  have K_q : Hid (Blk W4 b_q #[.int .i64 0, .string ⟨#[]⟩, .int .i64 0, .slice none 0 0, .slice none 0 0, .slice none 0 0] 54) := F_.blk K_q.out (by omega)
  have A : Hid (Al rb w W4) := A.out.next F_
  have R := Lib.hid hR_
  clear hW4 F_ hR_ c0 c1 c2 c3 g0 g1 g2 g3 hI5
  go_upto_region 8 with fail
  have hc_ := pexpr_any EV hX s1 W4 (HB.out.next A.out) R.out
  rw [← S_x.out, ← S_s2.out] at hc_
  have hl_ : nb ≤ W4.heap.size := by have := A.out.size; have := HNB.out; omega
  go_wp2_with fail
  refine hc_.mono ?_
  rintro e w5 ⟨v_, rfl, hV_, hR_, hA_⟩
  obtain ⟨ea_x, ec_x, rfl, -⟩ := hV_.form
  obtain ⟨en_x, hen_⟩ : ∃ n, n = x.length := ⟨_, rfl⟩
  rw [← hen_] at hV_ ⊢
  have hV2_ := Lib.hid (hV_.mono hl_)
  clear hV_ hen_ hl_
  have F_ : Al rb W4 w5 := hA_
  have K_r : Hid (Blk w5 b_r #[.int .i64 0, .string ⟨#[]⟩, .int .i64 0, .slice none 0 0, .slice none 0 0, .slice none 0 0] 54) := F_.blk K_r.out (by omega)
  have K_q : Hid (Blk w5 b_q #[.int .i64 0, .string ⟨#[]⟩, .int .i64 0, .slice none 0 0, .slice none 0 0, .slice none 0 0] 54) := F_.blk K_q.out (by omega)
  have A : Hid (Al rb w w5) := A.out.next F_
  have R := Lib.hid hR_
  clear hc_ hR_ hA_ F_
  have V_x : Hid (OwnE nb w5 (.slice ea_x en_x ec_x) x) := hV2_
  clear hV2_
  have k_q_0 : w5.cell? ⟨b_q, 0, none⟩ = some (.int .i64 0) := Blk.c K_q.out rfl
  have f_q_0 : w5.frozen? ⟨b_q, 0, none⟩ = false := Blk.z K_q.out rfl
  have k_q_1 : w5.cell? ⟨b_q, 1, none⟩ = some (.string ⟨#[]⟩) := Blk.c K_q.out rfl
  have f_q_1 : w5.frozen? ⟨b_q, 1, none⟩ = false := Blk.z K_q.out rfl
  have k_q_2 : w5.cell? ⟨b_q, 2, none⟩ = some (.int .i64 0) := Blk.c K_q.out rfl
  have f_q_2 : w5.frozen? ⟨b_q, 2, none⟩ = false := Blk.z K_q.out rfl
  have k_q_3 : w5.cell? ⟨b_q, 3, none⟩ = some (.slice none 0 0) := Blk.c K_q.out rfl
  have f_q_3 : w5.frozen? ⟨b_q, 3, none⟩ = false := Blk.z K_q.out rfl
  have k_q_4 : w5.cell? ⟨b_q, 4, none⟩ = some (.slice none 0 0) := Blk.c K_q.out rfl
  have f_q_4 : w5.frozen? ⟨b_q, 4, none⟩ = false := Blk.z K_q.out rfl
  have k_q_5 : w5.cell? ⟨b_q, 5, none⟩ = some (.slice none 0 0) := Blk.c K_q.out rfl
  have f_q_5 : w5.frozen? ⟨b_q, 5, none⟩ = false := Blk.z K_q.out rfl
  go_upto_region 22 with fail
  refine wp_letW ?_
  intro W6 hW6
  have F_ : Fr (fun k => k = b_q) w5 W6 := by rw [hW6]; exact (Fr.trans (Fr.trans (Fr.trans (Fr.trans (Fr.trans (Fr.set_at w5 b_q 0 _) (Fr.set_at _ b_q 1 _) (fun _ _ q => q)) (Fr.set_at _ b_q 2 _) (fun _ _ q => q)) (Fr.set_at _ b_q 3 _) (fun _ _ q => q)) (Fr.set_at _ b_q 4 _) (fun _ _ q => q)) (Fr.set_at _ b_q 5 _) (fun _ _ q => q))
  have kp_ : KpT 54 nb w5 W6 := KpT.one K_q.out F_
  have K2_ : Blk W6 b_q #[.int .i64 2, .string ⟨#[]⟩, .int .i64 0, .slice ea_x en_x ec_x, .slice none 0 0, .slice none 0 0] 54 := by rw [hW6]; have h := (Blk.setAt (Blk.setAt (Blk.setAt (Blk.setAt (Blk.setAt (Blk.setAt K_q.out 0 (.int .i64 2)) 1 (.string ⟨#[]⟩)) 2 (.int .i64 0)) 3 (.slice ea_x en_x ec_x)) 4 (.slice none 0 0)) 5 (.slice none 0 0)); simpa using h
  have K_r : Hid (Blk W6 b_r #[.int .i64 0, .string ⟨#[]⟩, .int .i64 0, .slice none 0 0, .slice none 0 0, .slice none 0 0] 54) := F_.blk' K_r.out (by omega)
  have V_x : Hid (OwnE nb W6 (.slice ea_x en_x ec_x) x) := KpT.ownE kp_ V_x.out (by decide)
  have K_q := Lib.hid K2_
  have A : Hid (Al rb w W6) := Fr.trans A.out F_ (fun i hi q => by have := HNB.out; omega)
  have R : Hid (Rp L a cc rb W6 s2) := R.out.fr F_ (fun q => by omega)
  clear k_q_0 f_q_0 k_q_1 f_q_1 k_q_2 f_q_2 k_q_3 f_q_3 k_q_4 f_q_4 k_q_5 f_q_5
  clear hW6 F_ kp_ K2_
  have hb_ : Below W6.heap.size W6 (W6.alloc (.cells #[.string ⟨#[59]⟩] 9)) := (Below.refl _ _).alloc (Nat.le_refl _) _
  have hc_ := pneed_any EV W6.heap.size [⟨#[59]⟩] (by decide) (by decide) s2 (W6.alloc (.cells #[.string ⟨#[59]⟩] 9)) ((HB.out.next A.out).then hb_) (R.out.below hb_) (Blk.new W6 _ _) (by have := A.out.size; have := HNB.out; omega)
  have e_ : needL L [⟨#[59]⟩] s2 = s3 := S_s3.out.symm
  rw [e_] at hc_
  have HBA := Lib.hid hb_
  clear hb_ e_
  go_wp2_with fail
  refine hc_.mono ?_
  rintro e w7 ⟨rfl, hR_, hA_⟩
  have F_ : Al rb W6 w7 := (Al.of (rb := rb) HBA.out).next hA_
  have K_r : Hid (Blk w7 b_r #[.int .i64 0, .string ⟨#[]⟩, .int .i64 0, .slice none 0 0, .slice none 0 0, .slice none 0 0] 54) := F_.blk K_r.out (by omega)
  have K_q : Hid (Blk w7 b_q #[.int .i64 2, .string ⟨#[]⟩, .int .i64 0, .slice ea_x en_x ec_x, .slice none 0 0, .slice none 0 0] 54) := F_.blk K_q.out (by omega)
  have V_x : Hid (OwnE nb w7 (.slice ea_x en_x ec_x) x) := KpT.ownE (Al.kpT (T := noT) F_ hrb) V_x.out (by decide)
  have A : Hid (Al rb w w7) := A.out.next F_
  have R := Lib.hid hR_
  clear hc_ hR_ hA_ F_ HBA
  have k_q_0 : w7.cell? ⟨b_q, 0, none⟩ = some (.int .i64 2) := Blk.c K_q.out rfl
  have k_q_1 : w7.cell? ⟨b_q, 1, none⟩ = some (.string ⟨#[]⟩) := Blk.c K_q.out rfl
  have k_q_2 : w7.cell? ⟨b_q, 2, none⟩ = some (.int .i64 0) := Blk.c K_q.out rfl
  have k_q_3 : w7.cell? ⟨b_q, 3, none⟩ = some (.slice ea_x en_x ec_x) := Blk.c K_q.out rfl
  have k_q_4 : w7.cell? ⟨b_q, 4, none⟩ = some (.slice none 0 0) := Blk.c K_q.out rfl
  have k_q_5 : w7.cell? ⟨b_q, 5, none⟩ = some (.slice none 0 0) := Blk.c K_q.out rfl
  have k_r_0 : w7.cell? ⟨b_r, 0, none⟩ = some (.int .i64 0) := Blk.c K_r.out rfl
  have f_r_0 : w7.frozen? ⟨b_r, 0, none⟩ = false := Blk.z K_r.out rfl
  have k_r_1 : w7.cell? ⟨b_r, 1, none⟩ = some (.string ⟨#[]⟩) := Blk.c K_r.out rfl
  have f_r_1 : w7.frozen? ⟨b_r, 1, none⟩ = false := Blk.z K_r.out rfl
  have k_r_2 : w7.cell? ⟨b_r, 2, none⟩ = some (.int .i64 0) := Blk.c K_r.out rfl
  have f_r_2 : w7.frozen? ⟨b_r, 2, none⟩ = false := Blk.z K_r.out rfl
  have k_r_3 : w7.cell? ⟨b_r, 3, none⟩ = some (.slice none 0 0) := Blk.c K_r.out rfl
  have f_r_3 : w7.frozen? ⟨b_r, 3, none⟩ = false := Blk.z K_r.out rfl
  have k_r_4 : w7.cell? ⟨b_r, 4, none⟩ = some (.slice none 0 0) := Blk.c K_r.out rfl
  have f_r_4 : w7.frozen? ⟨b_r, 4, none⟩ = false := Blk.z K_r.out rfl
  have k_r_5 : w7.cell? ⟨b_r, 5, none⟩ = some (.slice none 0 0) := Blk.c K_r.out rfl
  have f_r_5 : w7.frozen? ⟨b_r, 5, none⟩ = false := Blk.z K_r.out rfl
  go_wp2_with fail
  obtain ⟨WE, hWE⟩ : ∃ WE, WE = ((((((w7.setCell ⟨b_r, 0, none⟩ (.int .i64 2)).setCell ⟨b_r, 1, none⟩ (.string ⟨#[]⟩)).setCell ⟨b_r, 2, none⟩ (.int .i64 0)).setCell ⟨b_r, 3, none⟩ (.slice ea_x en_x ec_x)).setCell ⟨b_r, 4, none⟩ (.slice none 0 0)).setCell ⟨b_r, 5, none⟩ (.slice none 0 0)) := ⟨_, rfl⟩
  have KE : Blk WE b_r #[.int .i64 2, .string ⟨#[]⟩, .int .i64 0, .slice ea_x en_x ec_x, .slice none 0 0, .slice none 0 0] 54 := by rw [hWE]; have h := (Blk.setAt (Blk.setAt (Blk.setAt (Blk.setAt (Blk.setAt (Blk.setAt K_r.out 0 (.int .i64 2)) 1 (.string ⟨#[]⟩)) 2 (.int .i64 0)) 3 (.slice ea_x en_x ec_x)) 4 (.slice none 0 0)) 5 (.slice none 0 0)); simpa using h
  have FE : Fr (fun k => k = b_r) w7 WE := by rw [hWE]; exact (Fr.trans (Fr.trans (Fr.trans (Fr.trans (Fr.trans (Fr.set_at w7 b_r 0 _) (Fr.set_at _ b_r 1 _) (fun _ _ q => q)) (Fr.set_at _ b_r 2 _) (fun _ _ q => q)) (Fr.set_at _ b_r 3 _) (fun _ _ q => q)) (Fr.set_at _ b_r 4 _) (fun _ _ q => q)) (Fr.set_at _ b_r 5 _) (fun _ _ q => q))
  have kpE : KpT 54 nb w7 WE := KpT.one K_r.out FE
  have z0 : WE.cell? ⟨b_r, 0, none⟩ = some (.int .i64 2) := Blk.c KE rfl
  have z1 : WE.cell? ⟨b_r, 1, none⟩ = some (.string ⟨#[]⟩) := Blk.c KE rfl
  have z2 : WE.cell? ⟨b_r, 2, none⟩ = some (.int .i64 0) := Blk.c KE rfl
  have z3 : WE.cell? ⟨b_r, 3, none⟩ = some (.slice ea_x en_x ec_x) := Blk.c KE rfl
  have z4 : WE.cell? ⟨b_r, 4, none⟩ = some (.slice none 0 0) := Blk.c KE rfl
  have z5 : WE.cell? ⟨b_r, 5, none⟩ = some (.slice none 0 0) := Blk.c KE rfl
  rw [← hWE]
  refine bodyPost_ret (v := .agg #[.int .i64 2, .string ⟨#[]⟩, .int .i64 0, .slice ea_x en_x ec_x, .slice none 0 0, .slice none 0 0]) (by simp [results, Tryz.results67, go_sem, z0, z1, z2, z3, z4, z5]) rfl ?_
  have V_x : Hid (OwnE nb WE (.slice ea_x en_x ec_x) x) := KpT.ownE kpE V_x.out (by decide)
  have A : Al rb w WE := Fr.trans A.out FE (fun i hi q => by have := HNB.out; omega)
  have R : Rp L a cc rb WE s3 := R.out.fr FE (fun q => by omega)
  exact ⟨_, _, _, _, _, _, _, _, _, _, _, _, rfl, by rw [HF.out, ← HNB.out]; exact ⟨_, _, _, rfl, V_x, OwnE.nil_ _ _, Rw.nil_⟩, by rw [HF.out]; exact R, A⟩
end
end Go.Proofs.YtahalimekacliaaGreatDoor
namespace Go.Proofs.YtahalimekacliaaGreatDoor
open Go.RowKit Go.Shelf Tx Px Mx Gx
section
variable {L : List Tok} {a : Option Addr} {cc rb : Nat} {w0 : World} {X : XO}
set_option maxRecDepth 100000 in
set_option maxHeartbeats 8000000 in
theorem pitem3_any (EV : Hid (EnvOk w0 rb a cc L)) (hX : Hid (XOk L X)) (s : Rs) (hm : markR L s = tGhost) (w : World) (hB : Al rb w0 w) (hR : Rp L a cc rb w s) :
    Calls Tryz.prog 67 #[.pointer (some ⟨rb, 0, none⟩)] w fun e w' => ∃ (kd : Int) (n : ByteArray) (t : Int) (ea : Option Addr) (en ec : Nat) (fa : Option Addr) (fn fc : Nat) (ga : Option Addr) (gn gc : Nat), e = .returned (.agg #[.int .i64 kd, .string n, .int .i64 t, .slice ea en ec, .slice fa fn fc, .slice ga gn gc]) ∧ PIm w.heap.size w' [.int .i64 kd, .string n, .int .i64 t, .slice ea en ec, .slice fa fn fc, .slice ga gn gc] (itemR L X s).1 ∧ Rp L a cc rb w' (itemR L X s).2 ∧ Al rb w w' := by
  have hrb := hR.lt
  obtain ⟨nb, hnb⟩ : ∃ nb, nb = w.heap.size := ⟨_, rfl⟩
  rw [← hnb] at hrb
  have HNB := Lib.hid hnb
  have A : Hid (Al rb w w) := Al.refl rb w
  have R := Lib.hid hR
  have HB := Lib.hid hB
  have hlt := (mark_lt (L := L) (s := s) (by rw [hm]; decide)).2
  obtain ⟨m, hmm⟩ : ∃ m, m = markR L s := ⟨_, rfl⟩
  have S_m := Lib.hid hmm
  have q0 : (m.toList == [97, 115, 115, 117, 109, 101]) = false := by rw [hmm, hm, Lib.toList_data]; decide +kernel
  have q1 : (m.toList == [103, 117, 97, 114, 97, 110, 116, 101, 101]) = false := by rw [hmm, hm, Lib.toList_data]; decide +kernel
  have q2 : (m.toList == [103, 104, 111, 115, 116]) = true := by rw [hmm, hm, Lib.toList_data]; decide +kernel
  have HM := Lib.hid hm
  clear hmm hm
  obtain ⟨s1, h_s1⟩ : ∃ x, x = nextR s := ⟨_, rfl⟩
  obtain ⟨pn, h_pn⟩ : ∃ x, x = (paramR L s1).1.name := ⟨_, rfl⟩
  obtain ⟨pt, h_pt⟩ : ∃ x, x = (paramR L s1).1.ty := ⟨_, rfl⟩
  obtain ⟨s2, h_s2⟩ : ∃ x, x = (paramR L s1).2 := ⟨_, rfl⟩
  obtain ⟨s3, h_s3⟩ : ∃ x, x = needR L tEq s2 := ⟨_, rfl⟩
  obtain ⟨x, h_x⟩ : ∃ x, x = (exprR X s3).1 := ⟨_, rfl⟩
  obtain ⟨s4, h_s4⟩ : ∃ x, x = (exprR X s3).2 := ⟨_, rfl⟩
  obtain ⟨s5, h_s5⟩ : ∃ x, x = needR L tSemi s4 := ⟨_, rfl⟩
  have HF : Hid (itemR L X s = (⟨3, pn, pt, x, [], []⟩, s5)) := by show _ = _; rw [h_s5, h_s4, h_x, h_s3, h_s2, h_pt, h_pn, h_s1]; exact itemR_3 HM.out
  have S_s1 := Lib.hid h_s1
  have S_pn := Lib.hid h_pn
  have S_pt := Lib.hid h_pt
  have S_s2 := Lib.hid h_s2
  have S_s3 := Lib.hid h_s3
  have S_x := Lib.hid h_x
  have S_s4 := Lib.hid h_s4
  have S_s5 := Lib.hid h_s5
  clear h_s1 h_pn h_pt h_s2 h_s3 h_x h_s4 h_s5
  have HLT := Lib.hid hlt
  clear hlt
  clear hR hB hnb
  go_enter Tryz.func67, Tryz.ntmps67
  go_upto_region 1 with fail
  refine wp_letW ?_
  intro W1 hW1
  have hb_ : Below w.heap.size w W1 := by rw [hW1]; exact (Below.refl _ _).alloc (Nat.le_refl _) _
  have F_ : Fr (fun _ => False) w W1 := Fr.of_below hb_ _
  obtain ⟨b_r, hb_r⟩ : ∃ b, b = w.heap.size := ⟨_, rfl⟩
  have hA_ : w.heap.size ≤ w.heap.size := A.out.size
  have n_r : nb ≤ b_r := by have := HNB.out; omega
  have K_r : Hid (Blk W1 b_r #[.int .i64 0, .string ⟨#[]⟩, .int .i64 0, .slice none 0 0, .slice none 0 0, .slice none 0 0] 54) := by show Blk _ _ _ _; rw [hW1, hb_r]; exact Blk.new w _ _
  have A : Hid (Al rb w W1) := A.out.then hb_
  have R : Hid (Rp L a cc rb W1 s) := R.out.below hb_
  rw [← hb_r]
  clear hW1 hb_ F_ hA_ hb_r
  go_upto_region 2 with fail
  refine wp_letW ?_
  intro W2 hW2
  have hb_ : Below W1.heap.size W1 W2 := by rw [hW2]; exact (Below.refl _ _).alloc (Nat.le_refl _) _
  have F_ : Fr (fun _ => False) W1 W2 := Fr.of_below hb_ _
  obtain ⟨b_q, hb_q⟩ : ∃ b, b = W1.heap.size := ⟨_, rfl⟩
  have l_r_q : b_r < b_q := by have := K_r.out.lt; omega
  have K_r : Hid (Blk W2 b_r #[.int .i64 0, .string ⟨#[]⟩, .int .i64 0, .slice none 0 0, .slice none 0 0, .slice none 0 0] 54) := K_r.out.below hb_
  have hA_ : w.heap.size ≤ W1.heap.size := A.out.size
  have n_q : nb ≤ b_q := by have := HNB.out; omega
  have K_q : Hid (Blk W2 b_q #[.int .i64 0, .string ⟨#[]⟩, .int .i64 0, .slice none 0 0, .slice none 0 0, .slice none 0 0] 54) := by show Blk _ _ _ _; rw [hW2, hb_q]; exact Blk.new W1 _ _
  have A : Hid (Al rb w W2) := A.out.then hb_
  have R : Hid (Rp L a cc rb W2 s) := R.out.below hb_
  rw [← hb_q]
  clear hW2 hb_ F_ hA_ hb_q
  have hc_ := pmark_any EV s W2 (HB.out.next A.out) R.out
  rw [← S_m.out] at hc_
  go_wp2_with fail
  refine hc_.mono ?_
  rintro e w3 ⟨rfl, hb_⟩
  have hA_ : Al rb W2 w3 := Al.of hb_
  have hR_ := R.out.below hb_
  clear hb_
  have F_ : Al rb W2 w3 := hA_
  have K_r : Hid (Blk w3 b_r #[.int .i64 0, .string ⟨#[]⟩, .int .i64 0, .slice none 0 0, .slice none 0 0, .slice none 0 0] 54) := F_.blk K_r.out (by omega)
  have K_q : Hid (Blk w3 b_q #[.int .i64 0, .string ⟨#[]⟩, .int .i64 0, .slice none 0 0, .slice none 0 0, .slice none 0 0] 54) := F_.blk K_q.out (by omega)
  have A : Hid (Al rb w w3) := A.out.next F_
  have R := Lib.hid hR_
  clear hc_ hR_ hA_ F_
  go_upto_region 3 with fail
  obtain ⟨c0, c1, c2, c3⟩ := R.out.cells
  obtain ⟨g0, g1, g2, g3⟩ := R.out.free
  have hI5 : (s.i : Int) + 1 ≤ 300000 := by have := EV.out.len; have := HLT.out; omega
  go_upto_region 4 with fail
  refine wp_letW ?_
  intro W4 hW4
  have F_ : Al rb w3 W4 := by rw [hW4]; exact (Al.refl rb _).set 1 _
  have hR_ : Rp L a cc rb W4 s1 := by rw [hW4, S_s1.out]; have h := R.out.setI (s.i + 1) HLT.out; simpa [nextR] using h
  have K_r : Hid (Blk W4 b_r #[.int .i64 0, .string ⟨#[]⟩, .int .i64 0, .slice none 0 0, .slice none 0 0, .slice none 0 0] 54) := F_.blk K_r.out (by omega)
  have K_q : Hid (Blk W4 b_q #[.int .i64 0, .string ⟨#[]⟩, .int .i64 0, .slice none 0 0, .slice none 0 0, .slice none 0 0] 54) := F_.blk K_q.out (by omega)
  have A : Hid (Al rb w W4) := A.out.next F_
  have R := Lib.hid hR_
  clear hW4 F_ hR_ c0 c1 c2 c3 g0 g1 g2 g3 hI5
  go_upto_region 10 with fail
  have hc_ := pparam_any EV s1 W4 (HB.out.next A.out) R.out
  rw [← S_pn.out, ← S_pt.out, ← S_s2.out] at hc_
  go_wp2_with fail
  refine hc_.mono ?_
  rintro e w5 ⟨rfl, hR_, hA_⟩
  have F_ : Al rb W4 w5 := hA_
  have K_r : Hid (Blk w5 b_r #[.int .i64 0, .string ⟨#[]⟩, .int .i64 0, .slice none 0 0, .slice none 0 0, .slice none 0 0] 54) := F_.blk K_r.out (by omega)
  have K_q : Hid (Blk w5 b_q #[.int .i64 0, .string ⟨#[]⟩, .int .i64 0, .slice none 0 0, .slice none 0 0, .slice none 0 0] 54) := F_.blk K_q.out (by omega)
  have A : Hid (Al rb w w5) := A.out.next F_
  have R := Lib.hid hR_
  clear hc_ hR_ hA_ F_
  go_upto_region 11 with fail
  refine wp_letW ?_
  intro W6 hW6
  have hb_ : Below w5.heap.size w5 W6 := by rw [hW6]; exact (Below.refl _ _).alloc (Nat.le_refl _) _
  have F_ : Fr (fun _ => False) w5 W6 := Fr.of_below hb_ _
  obtain ⟨b_g, hb_g⟩ : ∃ b, b = w5.heap.size := ⟨_, rfl⟩
  have l_r_g : b_r < b_g := by have := K_r.out.lt; omega
  have K_r : Hid (Blk W6 b_r #[.int .i64 0, .string ⟨#[]⟩, .int .i64 0, .slice none 0 0, .slice none 0 0, .slice none 0 0] 54) := K_r.out.below hb_
  have l_q_g : b_q < b_g := by have := K_q.out.lt; omega
  have K_q : Hid (Blk W6 b_q #[.int .i64 0, .string ⟨#[]⟩, .int .i64 0, .slice none 0 0, .slice none 0 0, .slice none 0 0] 54) := K_q.out.below hb_
  have hA_ : w.heap.size ≤ w5.heap.size := A.out.size
  have n_g : nb ≤ b_g := by have := HNB.out; omega
  have K_g : Hid (Blk W6 b_g #[.string pn, .int .i64 pt] 39) := by show Blk _ _ _ _; rw [hW6, hb_g]; exact Blk.new w5 _ _
  have A : Hid (Al rb w W6) := A.out.then hb_
  have R : Hid (Rp L a cc rb W6 s2) := R.out.below hb_
  rw [← hb_g]
  clear hW6 hb_ F_ hA_ hb_g
  have hb_ : Below W6.heap.size W6 (W6.alloc (.cells #[.string ⟨#[61]⟩] 9)) := (Below.refl _ _).alloc (Nat.le_refl _) _
  have hc_ := pneed_any EV W6.heap.size [⟨#[61]⟩] (by decide) (by decide) s2 (W6.alloc (.cells #[.string ⟨#[61]⟩] 9)) ((HB.out.next A.out).then hb_) (R.out.below hb_) (Blk.new W6 _ _) (by have := A.out.size; have := HNB.out; omega)
  have e_ : needL L [⟨#[61]⟩] s2 = s3 := S_s3.out.symm
  rw [e_] at hc_
  have HBA := Lib.hid hb_
  clear hb_ e_
  go_wp2_with fail
  refine hc_.mono ?_
  rintro e w7 ⟨rfl, hR_, hA_⟩
  have F_ : Al rb W6 w7 := (Al.of (rb := rb) HBA.out).next hA_
  have K_r : Hid (Blk w7 b_r #[.int .i64 0, .string ⟨#[]⟩, .int .i64 0, .slice none 0 0, .slice none 0 0, .slice none 0 0] 54) := F_.blk K_r.out (by omega)
  have K_q : Hid (Blk w7 b_q #[.int .i64 0, .string ⟨#[]⟩, .int .i64 0, .slice none 0 0, .slice none 0 0, .slice none 0 0] 54) := F_.blk K_q.out (by omega)
  have K_g : Hid (Blk w7 b_g #[.string pn, .int .i64 pt] 39) := F_.blk K_g.out (by omega)
  have A : Hid (Al rb w w7) := A.out.next F_
  have R := Lib.hid hR_
  clear hc_ hR_ hA_ F_ HBA
  have k_g_0 : w7.cell? ⟨b_g, 0, none⟩ = some (.string pn) := Blk.c K_g.out rfl
  have k_g_1 : w7.cell? ⟨b_g, 1, none⟩ = some (.int .i64 pt) := Blk.c K_g.out rfl
  have k_q_0 : w7.cell? ⟨b_q, 0, none⟩ = some (.int .i64 0) := Blk.c K_q.out rfl
  have f_q_0 : w7.frozen? ⟨b_q, 0, none⟩ = false := Blk.z K_q.out rfl
  have k_q_1 : w7.cell? ⟨b_q, 1, none⟩ = some (.string ⟨#[]⟩) := Blk.c K_q.out rfl
  have f_q_1 : w7.frozen? ⟨b_q, 1, none⟩ = false := Blk.z K_q.out rfl
  have k_q_2 : w7.cell? ⟨b_q, 2, none⟩ = some (.int .i64 0) := Blk.c K_q.out rfl
  have f_q_2 : w7.frozen? ⟨b_q, 2, none⟩ = false := Blk.z K_q.out rfl
  have k_q_3 : w7.cell? ⟨b_q, 3, none⟩ = some (.slice none 0 0) := Blk.c K_q.out rfl
  have f_q_3 : w7.frozen? ⟨b_q, 3, none⟩ = false := Blk.z K_q.out rfl
  have k_q_4 : w7.cell? ⟨b_q, 4, none⟩ = some (.slice none 0 0) := Blk.c K_q.out rfl
  have f_q_4 : w7.frozen? ⟨b_q, 4, none⟩ = false := Blk.z K_q.out rfl
  have k_q_5 : w7.cell? ⟨b_q, 5, none⟩ = some (.slice none 0 0) := Blk.c K_q.out rfl
  have f_q_5 : w7.frozen? ⟨b_q, 5, none⟩ = false := Blk.z K_q.out rfl
  go_upto_region 12 with fail
  have K0 : w7.cell? ⟨b_g, 0, none⟩ = some (.string pn) ∧ w7.cell? ⟨b_g, 1, none⟩ = some (.int .i64 pt) := ⟨k_g_0, k_g_1⟩
  have K1 : w7.drew.cell? ⟨b_g, 0, none⟩ = some (.string pn) ∧ w7.drew.cell? ⟨b_g, 1, none⟩ = some (.int .i64 pt) := ⟨k_g_0, k_g_1⟩
  have hc_ := pexpr_any EV hX s3 w7.drew (HB.out.next A.out.drew) R.out.drew
  rw [← S_x.out, ← S_s4.out] at hc_
  have hl_ : nb ≤ w7.drew.heap.size := by have h1 := A.out.size; have h2 := HNB.out; show nb ≤ w7.heap.size; omega
  have HL_ := Lib.hid hl_
  clear hl_
  go_region_held3 (fun w' => w'.cell? ⟨b_g, 0, none⟩ = some (.string pn) ∧ w'.cell? ⟨b_g, 1, none⟩ = some (.int .i64 pt))
    (with_reducible first | exact K5 _ _ _ _ _ _ | exact K2 | exact K1 | exact K0 | fail)
    (first | (go_at_call 71
              go_must (with_reducible refine hc_.mono ?_)
              rintro e wX ⟨v_, rfl, hV_, hR_, hA_⟩
              obtain ⟨ea_x, ec_x, rfl, -⟩ := hV_.form
              obtain ⟨en_x, hen_⟩ : ∃ n, n = x.length := ⟨_, rfl⟩
              rw [← hen_] at hV_ ⊢
              have V_x := Lib.hid (hV_.mono HL_.out)
              have KG := hA_.blk (show Blk w7.drew b_g #[.string pn, .int .i64 pt] 39 from K_g.out) (by omega)
              obtain ⟨y0, y1, -, -⟩ := two_c KG
              have K2 : wX.cell? ⟨b_g, 0, none⟩ = some (.string pn) ∧ wX.cell? ⟨b_g, 1, none⟩ = some (.int .i64 pt) := ⟨y0, y1⟩
              have K_g := Lib.hid KG
              have K_r := Lib.hid (hA_.blk (show Blk w7.drew b_r #[.int .i64 0, .string ⟨#[]⟩, .int .i64 0, .slice none 0 0, .slice none 0 0, .slice none 0 0] 54 from K_r.out) (by omega))
              have KQ := hA_.blk (show Blk w7.drew b_q #[.int .i64 0, .string ⟨#[]⟩, .int .i64 0, .slice none 0 0, .slice none 0 0, .slice none 0 0] 54 from K_q.out) (by omega)
              have K_q := Lib.hid KQ
              have k_q_0 : wX.cell? ⟨b_q, 0, none⟩ = some (.int .i64 0) := Blk.c KQ rfl
              have f_q_0 : wX.frozen? ⟨b_q, 0, none⟩ = false := Blk.z KQ rfl
              have k_q_1 : wX.cell? ⟨b_q, 1, none⟩ = some (.string ⟨#[]⟩) := Blk.c KQ rfl
              have f_q_1 : wX.frozen? ⟨b_q, 1, none⟩ = false := Blk.z KQ rfl
              have k_q_2 : wX.cell? ⟨b_q, 2, none⟩ = some (.int .i64 0) := Blk.c KQ rfl
              have f_q_2 : wX.frozen? ⟨b_q, 2, none⟩ = false := Blk.z KQ rfl
              have k_q_3 : wX.cell? ⟨b_q, 3, none⟩ = some (.slice none 0 0) := Blk.c KQ rfl
              have f_q_3 : wX.frozen? ⟨b_q, 3, none⟩ = false := Blk.z KQ rfl
              have k_q_4 : wX.cell? ⟨b_q, 4, none⟩ = some (.slice none 0 0) := Blk.c KQ rfl
              have f_q_4 : wX.frozen? ⟨b_q, 4, none⟩ = false := Blk.z KQ rfl
              have k_q_5 : wX.cell? ⟨b_q, 5, none⟩ = some (.slice none 0 0) := Blk.c KQ rfl
              have f_q_5 : wX.frozen? ⟨b_q, 5, none⟩ = false := Blk.z KQ rfl
              have K5 : ∀ u0 u1 u2 u3 u4 u5, ((((((wX.setCell ⟨b_q, 0, none⟩ u0).setCell ⟨b_q, 1, none⟩ u1).setCell ⟨b_q, 2, none⟩ u2).setCell ⟨b_q, 3, none⟩ u3).setCell ⟨b_q, 4, none⟩ u4).setCell ⟨b_q, 5, none⟩ u5).cell? ⟨b_g, 0, none⟩ = some (.string pn) ∧ ((((((wX.setCell ⟨b_q, 0, none⟩ u0).setCell ⟨b_q, 1, none⟩ u1).setCell ⟨b_q, 2, none⟩ u2).setCell ⟨b_q, 3, none⟩ u3).setCell ⟨b_q, 4, none⟩ u4).setCell ⟨b_q, 5, none⟩ u5).cell? ⟨b_g, 1, none⟩ = some (.int .i64 pt) := fun u0 u1 u2 u3 u4 u5 => by
                have hn_ : b_g ≠ b_q := (by omega)
                have h := ((((((K_g.out.other 0 hn_ u0).other 1 hn_ u1).other 2 hn_ u2).other 3 hn_ u3).other 4 hn_ u4).other 5 hn_ u5)
                exact ⟨(two_c h).1, (two_c h).2.1⟩
              have A := Lib.hid ((A.out.drew).next hA_)
              have R := Lib.hid hR_
              clear hV_ hen_ hR_ hA_ KG KQ))
  go_upto_region 22 with fail
  refine wp_letW ?_
  intro W8 hW8
  have F_ : Fr (fun k => k = b_q) wX W8 := by rw [hW8]; exact (Fr.trans (Fr.trans (Fr.trans (Fr.trans (Fr.trans (Fr.set_at wX b_q 0 _) (Fr.set_at _ b_q 1 _) (fun _ _ q => q)) (Fr.set_at _ b_q 2 _) (fun _ _ q => q)) (Fr.set_at _ b_q 3 _) (fun _ _ q => q)) (Fr.set_at _ b_q 4 _) (fun _ _ q => q)) (Fr.set_at _ b_q 5 _) (fun _ _ q => q))
  have kp_ : KpT 54 nb wX W8 := KpT.one K_q.out F_
  have K2_ : Blk W8 b_q #[.int .i64 3, .string pn, .int .i64 pt, .slice ea_x en_x ec_x, .slice none 0 0, .slice none 0 0] 54 := by rw [hW8]; have h := (Blk.setAt (Blk.setAt (Blk.setAt (Blk.setAt (Blk.setAt (Blk.setAt K_q.out 0 (.int .i64 3)) 1 (.string pn)) 2 (.int .i64 pt)) 3 (.slice ea_x en_x ec_x)) 4 (.slice none 0 0)) 5 (.slice none 0 0)); simpa using h
  have K_r : Hid (Blk W8 b_r #[.int .i64 0, .string ⟨#[]⟩, .int .i64 0, .slice none 0 0, .slice none 0 0, .slice none 0 0] 54) := F_.blk' K_r.out (by omega)
  have K_g : Hid (Blk W8 b_g #[.string pn, .int .i64 pt] 39) := F_.blk' K_g.out (by omega)
  have V_x : Hid (OwnE nb W8 (.slice ea_x en_x ec_x) x) := KpT.ownE kp_ V_x.out (by decide)
  have K_q := Lib.hid K2_
  have A : Hid (Al rb w W8) := Fr.trans A.out F_ (fun i hi q => by have := HNB.out; omega)
  have R : Hid (Rp L a cc rb W8 s4) := R.out.fr F_ (fun q => by omega)
  clear k_q_0 f_q_0 k_q_1 f_q_1 k_q_2 f_q_2 k_q_3 f_q_3 k_q_4 f_q_4 k_q_5 f_q_5
  clear hW8 F_ kp_ K2_
  have hb_ : Below W8.heap.size W8 (W8.alloc (.cells #[.string ⟨#[59]⟩] 9)) := (Below.refl _ _).alloc (Nat.le_refl _) _
  have hc_ := pneed_any EV W8.heap.size [⟨#[59]⟩] (by decide) (by decide) s4 (W8.alloc (.cells #[.string ⟨#[59]⟩] 9)) ((HB.out.next A.out).then hb_) (R.out.below hb_) (Blk.new W8 _ _) (by have := A.out.size; have := HNB.out; omega)
  have e_ : needL L [⟨#[59]⟩] s4 = s5 := S_s5.out.symm
  rw [e_] at hc_
  have HBA := Lib.hid hb_
  clear hb_ e_
  go_wp2_with fail
  refine hc_.mono ?_
  rintro e w9 ⟨rfl, hR_, hA_⟩
  have F_ : Al rb W8 w9 := (Al.of (rb := rb) HBA.out).next hA_
  have K_r : Hid (Blk w9 b_r #[.int .i64 0, .string ⟨#[]⟩, .int .i64 0, .slice none 0 0, .slice none 0 0, .slice none 0 0] 54) := F_.blk K_r.out (by omega)
  have K_q : Hid (Blk w9 b_q #[.int .i64 3, .string pn, .int .i64 pt, .slice ea_x en_x ec_x, .slice none 0 0, .slice none 0 0] 54) := F_.blk K_q.out (by omega)
  have K_g : Hid (Blk w9 b_g #[.string pn, .int .i64 pt] 39) := F_.blk K_g.out (by omega)
  have V_x : Hid (OwnE nb w9 (.slice ea_x en_x ec_x) x) := KpT.ownE (Al.kpT (T := noT) F_ hrb) V_x.out (by decide)
  have A : Hid (Al rb w w9) := A.out.next F_
  have R := Lib.hid hR_
  clear hc_ hR_ hA_ F_ HBA
  have k_q_0 : w9.cell? ⟨b_q, 0, none⟩ = some (.int .i64 3) := Blk.c K_q.out rfl
  have k_q_1 : w9.cell? ⟨b_q, 1, none⟩ = some (.string pn) := Blk.c K_q.out rfl
  have k_q_2 : w9.cell? ⟨b_q, 2, none⟩ = some (.int .i64 pt) := Blk.c K_q.out rfl
  have k_q_3 : w9.cell? ⟨b_q, 3, none⟩ = some (.slice ea_x en_x ec_x) := Blk.c K_q.out rfl
  have k_q_4 : w9.cell? ⟨b_q, 4, none⟩ = some (.slice none 0 0) := Blk.c K_q.out rfl
  have k_q_5 : w9.cell? ⟨b_q, 5, none⟩ = some (.slice none 0 0) := Blk.c K_q.out rfl
  have k_r_0 : w9.cell? ⟨b_r, 0, none⟩ = some (.int .i64 0) := Blk.c K_r.out rfl
  have f_r_0 : w9.frozen? ⟨b_r, 0, none⟩ = false := Blk.z K_r.out rfl
  have k_r_1 : w9.cell? ⟨b_r, 1, none⟩ = some (.string ⟨#[]⟩) := Blk.c K_r.out rfl
  have f_r_1 : w9.frozen? ⟨b_r, 1, none⟩ = false := Blk.z K_r.out rfl
  have k_r_2 : w9.cell? ⟨b_r, 2, none⟩ = some (.int .i64 0) := Blk.c K_r.out rfl
  have f_r_2 : w9.frozen? ⟨b_r, 2, none⟩ = false := Blk.z K_r.out rfl
  have k_r_3 : w9.cell? ⟨b_r, 3, none⟩ = some (.slice none 0 0) := Blk.c K_r.out rfl
  have f_r_3 : w9.frozen? ⟨b_r, 3, none⟩ = false := Blk.z K_r.out rfl
  have k_r_4 : w9.cell? ⟨b_r, 4, none⟩ = some (.slice none 0 0) := Blk.c K_r.out rfl
  have f_r_4 : w9.frozen? ⟨b_r, 4, none⟩ = false := Blk.z K_r.out rfl
  have k_r_5 : w9.cell? ⟨b_r, 5, none⟩ = some (.slice none 0 0) := Blk.c K_r.out rfl
  have f_r_5 : w9.frozen? ⟨b_r, 5, none⟩ = false := Blk.z K_r.out rfl
  go_wp2_with fail
  obtain ⟨WE, hWE⟩ : ∃ WE, WE = ((((((w9.setCell ⟨b_r, 0, none⟩ (.int .i64 3)).setCell ⟨b_r, 1, none⟩ (.string pn)).setCell ⟨b_r, 2, none⟩ (.int .i64 pt)).setCell ⟨b_r, 3, none⟩ (.slice ea_x en_x ec_x)).setCell ⟨b_r, 4, none⟩ (.slice none 0 0)).setCell ⟨b_r, 5, none⟩ (.slice none 0 0)) := ⟨_, rfl⟩
  have KE : Blk WE b_r #[.int .i64 3, .string pn, .int .i64 pt, .slice ea_x en_x ec_x, .slice none 0 0, .slice none 0 0] 54 := by rw [hWE]; have h := (Blk.setAt (Blk.setAt (Blk.setAt (Blk.setAt (Blk.setAt (Blk.setAt K_r.out 0 (.int .i64 3)) 1 (.string pn)) 2 (.int .i64 pt)) 3 (.slice ea_x en_x ec_x)) 4 (.slice none 0 0)) 5 (.slice none 0 0)); simpa using h
  have FE : Fr (fun k => k = b_r) w9 WE := by rw [hWE]; exact (Fr.trans (Fr.trans (Fr.trans (Fr.trans (Fr.trans (Fr.set_at w9 b_r 0 _) (Fr.set_at _ b_r 1 _) (fun _ _ q => q)) (Fr.set_at _ b_r 2 _) (fun _ _ q => q)) (Fr.set_at _ b_r 3 _) (fun _ _ q => q)) (Fr.set_at _ b_r 4 _) (fun _ _ q => q)) (Fr.set_at _ b_r 5 _) (fun _ _ q => q))
  have kpE : KpT 54 nb w9 WE := KpT.one K_r.out FE
  have z0 : WE.cell? ⟨b_r, 0, none⟩ = some (.int .i64 3) := Blk.c KE rfl
  have z1 : WE.cell? ⟨b_r, 1, none⟩ = some (.string pn) := Blk.c KE rfl
  have z2 : WE.cell? ⟨b_r, 2, none⟩ = some (.int .i64 pt) := Blk.c KE rfl
  have z3 : WE.cell? ⟨b_r, 3, none⟩ = some (.slice ea_x en_x ec_x) := Blk.c KE rfl
  have z4 : WE.cell? ⟨b_r, 4, none⟩ = some (.slice none 0 0) := Blk.c KE rfl
  have z5 : WE.cell? ⟨b_r, 5, none⟩ = some (.slice none 0 0) := Blk.c KE rfl
  rw [← hWE]
  refine bodyPost_ret (v := .agg #[.int .i64 3, .string pn, .int .i64 pt, .slice ea_x en_x ec_x, .slice none 0 0, .slice none 0 0]) (by simp [results, Tryz.results67, go_sem, z0, z1, z2, z3, z4, z5]) rfl ?_
  have V_x : Hid (OwnE nb WE (.slice ea_x en_x ec_x) x) := KpT.ownE kpE V_x.out (by decide)
  have A : Al rb w WE := Fr.trans A.out FE (fun i hi q => by have := HNB.out; omega)
  have R : Rp L a cc rb WE s5 := R.out.fr FE (fun q => by omega)
  exact ⟨_, _, _, _, _, _, _, _, _, _, _, _, rfl, by rw [HF.out, ← HNB.out]; exact ⟨_, _, _, rfl, V_x, OwnE.nil_ _ _, Rw.nil_⟩, by rw [HF.out]; exact R, A⟩
end
end Go.Proofs.YtahalimekacliaaGreatDoor
namespace Go.Proofs.YtahalimekacliaaGreatDoor
open Go.RowKit Go.Shelf Tx Px Mx Gx
structure VrC (w : World) (rb xb fb : Nat) (f : Bool) : Prop where
  k0 : Blk w xb #[.pointer (some ⟨rb, 0, none⟩)] 55
  kf : Blk w fb #[.bool f] 4
  ne : rb < xb ∧ xb < fb
section
variable {w w' : World} {rb xb fb : Nat} {f : Bool}
theorem VrC.fr {S : Nat → Prop} (h : VrC w rb xb fb f) (hf : Fr S w w') (h0 : ¬ S xb) (h1 : ¬ S fb) : VrC w' rb xb fb f := ⟨hf.blk' h.k0 h0, hf.blk' h.kf h1, h.ne⟩
theorem VrC.below (h : VrC w rb xb fb f) (hb : Below w.heap.size w w') : VrC w' rb xb fb f := h.fr (S := fun _ => False) (Fr.of_below hb _) id id
theorem VrC.al (h : VrC w rb xb fb f) (ha : Al rb w w') : VrC w' rb xb fb f := by
  obtain ⟨n0, n1⟩ := h.ne
  exact h.fr ha (fun e => by omega) (fun e => by omega)
end
section
variable {L : List Tok} {a : Option Addr} {cc rb : Nat} {w0 : World}
set_option maxRecDepth 100000 in
set_option maxHeartbeats 4000000 in
theorem vone_any (EV : Hid (EnvOk w0 rb a cc L)) (xb fb : Nat) (f : Bool) (s : Rs) (w : World) (hB : Al rb w0 w) (hR : Rp L a cc rb w s) (hK : VrC w rb xb fb f) (hfb : w0.heap.size ≤ fb) :
    Calls Tryz.prog 69 #[.pointer (some ⟨fb, 0, none⟩), .pointer (some ⟨xb, 0, none⟩)] w fun e w' => ∃ n ty, e = .returned (.agg #[.string n, .int .i64 ty]) ∧ PPm w.heap.size w' [.string n, .int .i64 ty] (varR L s).1.1 ∧ Rp L a cc rb w' (varR L s).2 ∧ VrC w' rb xb fb false ∧ Fr (fun k => k = rb ∨ k = fb) w w' := by
  obtain ⟨hn0, hn1⟩ := hK.ne
  have hfw := hK.kf.lt
  obtain ⟨s1, hs1⟩ : ∃ s1, s1 = (paramR L s).2 := ⟨_, rfl⟩
  obtain ⟨n, hn⟩ : ∃ n, n = (paramR L s).1.name := ⟨_, rfl⟩
  obtain ⟨ty, hty⟩ : ∃ n, n = (paramR L s).1.ty := ⟨_, rfl⟩
  obtain ⟨s2, hs2⟩ : ∃ s2, s2 = needR L tSemi s1 := ⟨_, rfl⟩
  have HF : Hid ((varR L s).1.1 = ⟨n, ty⟩ ∧ (varR L s).2 = s2) := ⟨by rw [hn, hty]; rfl, by rw [hs2, hs1]; rfl⟩
  have HS2 := Lib.hid hs2
  have HS1 := Lib.hid hs1
  have HN := Lib.hid hn
  have HTY := Lib.hid hty
  have HR := Lib.hid hR
  have HB := Lib.hid hB
  have HK := Lib.hid hK
  clear hs2 hs1 hn hty hR hB hK
  go_enter Tryz.func69, Tryz.ntmps69
  go_upto_region 1 with fail
  refine wp_letW ?_
  intro W0 hW0
  have b0 : Below w.heap.size w W0 := by rw [hW0]; exact (Below.refl _ _).alloc (Nat.le_refl _) _
  have RES0 : Hid (Blk W0 w.heap.size #[.string ⟨#[]⟩, .int .i64 0] 39) := by show Blk _ _ _ _; rw [hW0]; exact Blk.new w _ _
  have HK0 := Lib.hid (HK.out.below b0)
  have HR0 := Lib.hid (HR.out.below b0)
  have HA0 : Hid (Al rb w W0) := Al.of b0
  have hsz0 : w.heap.size < W0.heap.size := RES0.out.lt
  obtain ⟨q0, qf0⟩ := one_cell HK0.out.kf
  clear hW0 b0
  go_upto_region 2 with fail
  refine wp_letW ?_
  intro W1 hW1
  have F1 : Fr (fun k => k = fb) W0 W1 := by rw [hW1]; exact Fr.set_at W0 fb 0 _
  have HK1 : Hid (VrC W1 rb xb fb false) := ⟨F1.blk' HK0.out.k0 (by omega), by rw [hW1]; exact HK0.out.kf.set1 _, HK0.out.ne⟩
  have HF1 : Hid (Fr (fun k => k = rb ∨ k = fb) w W1) := Fr.trans HA0.out.two F1 (fun _ _ q => Or.inr q)
  have RES1 : Hid (Blk W1 w.heap.size #[.string ⟨#[]⟩, .int .i64 0] 39) := F1.blk' RES0.out (by omega)
  have HR1 : Hid (Rp L a cc rb W1 s) := HR0.out.fr F1 (by omega)
  have HB1 : Hid (Al rb w0 W1) := HB.out.al_of HF1.out (Or.inr hfb)
  have hp := pparam_any EV s W1 HB1.out HR1.out
  rw [← HN.out, ← HTY.out, ← HS1.out] at hp
  have p0 := (one_cell HK1.out.k0).1
  have hsz1 : w.heap.size < W1.heap.size := RES1.out.lt
  clear hW1 F1 q0 qf0
  go_wp2_with fail
  refine hp.mono ?_
  rintro e w2 ⟨rfl, hR2, hA2⟩
  have HK2 := Lib.hid (HK1.out.al hA2)
  have HR2 := Lib.hid hR2
  have HA2 := Lib.hid hA2
  have RES2 : Hid (Blk w2 w.heap.size #[.string ⟨#[]⟩, .int .i64 0] 39) := hA2.blk RES1.out (by omega)
  clear hp hR2 hA2 p0
  go_upto_region 3 with fail
  refine wp_letW ?_
  intro W3 hW3
  have b3 : Below w2.heap.size w2 W3 := by rw [hW3]; exact (Below.refl _ _).alloc (Nat.le_refl _) _
  have P3 : Hid (Blk W3 w2.heap.size #[.string n, .int .i64 ty] 39) := by show Blk _ _ _ _; rw [hW3]; exact Blk.new w2 _ _
  have HK3 := Lib.hid (HK2.out.below b3)
  have HR3 := HR2.out.below b3
  have RES3 := Lib.hid (RES2.out.below b3)
  have HF3 : Hid (Fr (fun k => k = rb ∨ k = fb) w W3) := Fr.trans (Fr.trans HF1.out HA2.out (fun _ _ q => Or.inl q)) (Fr.of_below b3 (fun _ => False)) (fun _ _ q => q.elim)
  have hsz2 : w.heap.size < w2.heap.size := RES2.out.lt
  have hb4 : Below W3.heap.size W3 (W3.alloc (.cells #[.string ⟨#[59]⟩] 9)) := (Below.refl _ _).alloc (Nat.le_refl _) _
  have hnd := pneed_any EV W3.heap.size [⟨#[59]⟩] (by decide) (by decide) s1 (W3.alloc (.cells #[.string ⟨#[59]⟩] 9)) ((HB.out.al_of HF3.out (Or.inr hfb)).then hb4) (HR3.below hb4) (Blk.new W3 _ _) (by have := HR3.lt; omega)
  have e2 : needL L [⟨#[59]⟩] s1 = s2 := HS2.out.symm
  rw [e2] at hnd
  have HB4 := Lib.hid hb4
  have p0 := (one_cell HK3.out.k0).1
  clear hW3 b3 HR3 e2 hb4
  go_wp2_with fail
  refine hnd.mono ?_
  rintro e w4 ⟨rfl, hR4, hA4⟩
  obtain ⟨WL, hWL⟩ : ∃ WL, WL = w4 := ⟨_, rfl⟩
  have HRL : Hid (Rp L a cc rb WL s2) := by rw [hWL]; exact hR4
  have FL : Hid (Fr (fun k => k = rb ∨ k = fb) w WL) := by rw [hWL]; exact (HF3.out.trans (Fr.of_below HB4.out _) (fun _ _ q => q)).trans hA4 (fun _ _ q => Or.inl q)
  have HKL : Hid (VrC WL rb xb fb false) := by rw [hWL]; exact (HK3.out.below HB4.out).al hA4
  have HRES : Hid (Blk WL w.heap.size #[.string ⟨#[]⟩, .int .i64 0] 39) := by rw [hWL]; exact hA4.blk (RES3.out.below HB4.out) (by omega)
  have hP4 := hA4.blk (P3.out.below HB4.out) (by omega)
  rw [← hWL] at hP4
  obtain ⟨k0, k1, -, -⟩ := two_c hP4
  obtain ⟨r0, r1, rf0, rf1⟩ := two_c HRES.out
  clear hnd hR4 hA4 hP4
  rw [← hWL]
  clear hWL
  go_wp2_with fail
  obtain ⟨W8, hW8⟩ : ∃ W8, W8 = (WL.setCell ⟨w.heap.size, 0, none⟩ (.string n)).setCell ⟨w.heap.size, 1, none⟩ (.int .i64 ty) := ⟨_, rfl⟩
  have K8 : Blk W8 w.heap.size #[.string n, .int .i64 ty] 39 := by
    rw [hW8]; have h1 := Blk.setAt (Blk.setAt HRES.out 0 (.string n)) 1 (.int .i64 ty); simpa using h1
  have F8 : Fr (fun k => k = w.heap.size) WL W8 := by rw [hW8]; exact Fr.trans (Fr.set_at WL _ 0 _) (Fr.set_at _ _ 1 _) (fun _ _ q => q)
  obtain ⟨z0, z1, -, -⟩ := two_c K8
  rw [← hW8]
  refine bodyPost_ret (v := .agg #[.string n, .int .i64 ty]) (by simp [results, Tryz.results69, go_sem, z0, z1]) rfl ?_
  exact ⟨n, ty, rfl, by rw [HF.out.1]; rfl, by rw [HF.out.2]; exact HRL.out.fr F8 (fun e => by omega), HKL.out.fr F8 (fun e => by omega) (fun e => by omega), Fr.trans FL.out F8 (fun i hi e => by omega)⟩
set_option maxRecDepth 100000 in
theorem von_any (EV : Hid (EnvOk w0 rb a cc L)) (xb fb : Nat) (f : Bool) (s : Rs) (w : World) (hB : Al rb w0 w) (hR : Rp L a cc rb w s) (hK : VrC w rb xb fb f) :
    Calls Tryz.prog 70 #[.pointer (some ⟨fb, 0, none⟩), .pointer (some ⟨xb, 0, none⟩)] w fun e w' => e = .returned (.bool (f || namedR L s)) ∧ Below w.heap.size w w' := by
  have hnm := isNamed_any EV s w hB hR
  have q0 := (one_cell hK.kf).1
  have q1 := (one_cell hK.k0).1
  clear hB hR hK EV
  go_enter Tryz.func70, Tryz.ntmps70
  cases f
  · go_wp2_with fail
    refine hnm.mono ?_
    rintro e w1 ⟨rfl, hb1⟩
    have HB1 := Lib.hid hb1
    clear hnm hb1 q0 q1
    go_wp2_with fail
    go_ret
    exact ⟨ret_bool (by simp), HB1.out⟩
  · clear hnm
    go_wp2_with fail
    go_ret
    exact ⟨ret_bool (by simp), Below.refl _ _⟩
set_option maxRecDepth 100000 in
set_option maxHeartbeats 4000000 in
theorem pvars_any (EV : Hid (EnvOk w0 rb a cc L)) (s : Rs) (w : World) (hB : Al rb w0 w) (hR : Rp L a cc rb w s) :
    Calls Tryz.prog 39 #[.pointer (some ⟨rb, 0, none⟩)] w fun e w' => ∃ v, e = .returned v ∧ RwPm w.heap.size w' v (varsR L s).1 ∧ Rp L a cc rb w' (varsR L s).2 ∧ Al rb w w' := by
  have hlt := hR.lt
  obtain ⟨W0, hW0⟩ : ∃ W0, W0 = (w.alloc (.cells #[.pointer (some ⟨rb, 0, none⟩)] 55)).alloc (.cells #[.bool true] 4) := ⟨_, rfl⟩
  have b0 : Below w.heap.size w W0 := by rw [hW0]; exact ((Below.refl _ _).alloc (Nat.le_refl _) _).alloc (by simp) _
  have k0 : Blk W0 w.heap.size #[.pointer (some ⟨rb, 0, none⟩)] 55 := by
    rw [hW0]; exact (Blk.new w _ _).below ((Below.refl _ _).alloc (Nat.le_refl _) _)
  have kf : Blk W0 (w.heap.size + 1) #[.bool true] 4 := by
    rw [hW0]; have h := Blk.new (w.alloc (.cells #[.pointer (some ⟨rb, 0, none⟩)] 55)) #[.bool true] 4; simpa using h
  have hw0 : w0.heap.size ≤ w.heap.size + 1 := by have := hB.size; omega
  have hB0 : Al rb w0 W0 := hB.then b0
  have hK0 : VrC W0 rb w.heap.size (w.heap.size + 1) true := ⟨k0, kf, hlt, by omega⟩
  have hmany := pmanyPm_any EV (w.heap.size + 1) 69 70 #[] #[.pointer (some ⟨w.heap.size + 1, 0, none⟩), .pointer (some ⟨w.heap.size, 0, none⟩)] #[] #[.pointer (some ⟨w.heap.size + 1, 0, none⟩), .pointer (some ⟨w.heap.size, 0, none⟩)]
    (fun W s b => ∃ f, VrC W rb w.heap.size (w.heap.size + 1) f ∧ b = (f || namedR L s)) (varR L) W0 (fun W h => hB0.al_of h (Or.inr hw0))
    (fun W W' s b ⟨f, h1, h2⟩ hk => ⟨f, ⟨(hk _ (by have := kf.lt; omega)).trans h1.k0, (hk _ kf.lt).trans h1.kf, h1.ne⟩, h2⟩)
    (fun s W hc hF hR ⟨f, h1, h2⟩ => (vone_any EV _ _ f s W (hB0.al_of hF (Or.inr hw0)) hR h1 hw0).mono fun e w' ⟨n, ty, h3, h4, h5, h6, h7⟩ => ⟨n, ty, h3, h4, h5, fun _ => ⟨false, h6, by simp [varR]⟩, h7⟩)
    (fun s b W hc hF hR ⟨f, h1, h2⟩ => by rw [h2]; exact von_any EV _ _ f s W (hB0.al_of hF (Or.inr hw0)) hR h1)
    (fun w => by kernel_rfl) (fun w => by kernel_rfl) s true kf.lt (hR.below b0) (fun _ => ⟨true, hK0, rfl⟩)
  have A0 : Hid (Al rb w W0) := Al.of b0
  have q0 := (one_cell k0).1
  have HW0 := Lib.hid hW0
  have HF : Hid (varsR L s = manyR L (varR L) 200 true [] s) := Lib.hid rfl
  clear b0 kf hw0 hB0 hK0 hW0 hB hR k0 EV
  go_enter Tryz.func39, Tryz.ntmps39
  go_upto_region 2 with fail
  rw [← HW0.out]
  go_wp2_with fail
  refine hmany.mono ?_
  rintro e w4 ⟨v, rfl, hv, hR4, hF4⟩
  have HV := Lib.hid (hv.lower A0.out.size PPm.lowers)
  have HR4 := Lib.hid hR4
  have A4 : Hid (Al rb w w4) := A0.out.trans hF4 (fun i hi q => by omega)
  clear hmany hv hR4 hF4
  go_wp2_with fail
  go_ret
  exact ⟨v, rfl, by rw [HF.out]; exact HV.out, by rw [HF.out]; exact HR4.out, A4.out⟩
end
end Go.Proofs.YtahalimekacliaaGreatDoor
