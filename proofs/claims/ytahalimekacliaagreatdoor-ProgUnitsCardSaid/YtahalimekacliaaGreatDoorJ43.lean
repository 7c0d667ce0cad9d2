/- The reader of programs: programs: the walk. (Printed by gen/straight.py.) -/
import Derived.Test.YtahalimekacliaaGreatDoorJ34
import Derived.Test.YtahalimekacliaaGreatDoorJ41
import Derived.Test.YtahalimekacliaaGreatDoorJ42
set_option linter.unusedVariables false
set_option linter.unusedSimpArgs false
namespace Go.Proofs.YtahalimekacliaaGreatDoor
open Go.RowKit Go.Shelf Tx Px Mx Gx
section
variable {L : List Tok} {a : Option Addr} {cc rb : Nat} {w0 : World} {X : XO}
def PgS (s : ByteArray) (r : Except (Int × Int) Pg) : Prop := match (Lx.lexS s.data.toList).2 with
  | some (c, m) => r = .error ((c : Int), ((s.size - m : Nat) : Int))
  | none => ∃ X, XAll (toks s.size (Lx.lexS s.data.toList).1) X ∧ r = progS (toks s.size (Lx.lexS s.data.toList).1) X
theorem PgS.all (s : ByteArray) : ∃ r, PgS s r := by
  unfold PgS
  split
  · exact ⟨_, rfl⟩
  · obtain ⟨X, hX⟩ := XAll.ex (toks_is s)
    exact ⟨_, X, hX, rfl⟩
def PgPost (w : World) (r : Except (Int × Int) Pg) (e : Ending) (w' : World) : Prop :=
  Below w.heap.size w w' ∧ match r with
  | .error (c, p) => c ≠ 0 ∧ e = .returned (.tuple #[.agg #[.slice none 0 0, .string ⟨#[]⟩, .string ⟨#[]⟩], .agg #[.int .i64 c, .int .i64 p]])
  | .ok p => ∃ va n vc, e = .returned (.tuple #[.agg #[.slice va n vc, .string p.main, .string p.back], .agg #[.int .i64 0, .int .i64 0]]) ∧ RwUn w.heap.size w' (.slice va n vc) p.units
theorem prog_cases {L : List Tok} {X : XO} {us : List Un} {m b : ByteArray} {sE : Rs} (hL : ∀ t ∈ L, TokOk t) (hX : XOk L X) (h : progR L X = (⟨us, m, b⟩, sE)) {r : Except (Int × Int) Pg} (hr : r = progS L X) : (sE.c = 0 → r = .ok ⟨us, m, b⟩) ∧ (sE.c ≠ 0 → r = .error (sE.c, sE.p)) := by
  have h1 := prog_is hL hX
  rw [← hr, h] at h1
  cases r with
  | ok p => exact ⟨fun _ => by rw [← h1.1], fun hc => absurd h1.2 hc⟩
  | error e =>
    obtain ⟨c, q⟩ := e
    obtain ⟨hc, h2, h3⟩ := h1
    have h2' : sE.c = c := h2
    have h3' : sE.p = q := h3
    exact ⟨fun h0 => absurd (h2'.symm.trans h0) hc, fun _ => by rw [h2', h3']⟩
theorem fail_not {L : List Tok} {s : Rs} : (failR L 5 s).c ≠ 0 := by
  unfold failR
  split
  · show (5 : Int) ≠ 0; decide
  · assumption
set_option maxRecDepth 100000 in
set_option maxHeartbeats 16000000 in
theorem pProg_any (s : ByteArray) (hs : s.size ≤ 100000) (r : Except (Int × Int) Pg) (hr : PgS s r) (wS : World) (G : Gl wS) :
    Calls Tryz.prog 10 #[.string s] wS (PgPost wS r) := by
  obtain ⟨WA, hWA⟩ : ∃ W, W = (wS.alloc (.cells #[.slice none 0 0, .string ⟨#[]⟩, .string ⟨#[]⟩] 31)).alloc (.cells #[.int .i64 0, .int .i64 0] 25) := ⟨_, rfl⟩
  have bA : Below wS.heap.size wS WA := by rw [hWA]; exact ((Below.refl _ _).alloc (Nat.le_refl _) _).alloc (by simp) _
  have kp0 : Blk WA wS.heap.size #[.slice none 0 0, .string ⟨#[]⟩, .string ⟨#[]⟩] 31 := by rw [hWA]; exact (Blk.new wS _ _).below ((Below.refl _ _).alloc (Nat.le_refl _) _)
  have kf0 : Blk WA (wS.heap.size + 1) #[.int .i64 0, .int .i64 0] 25 := by rw [hWA]; have h := Blk.new (wS.alloc (.cells #[.slice none 0 0, .string ⟨#[]⟩, .string ⟨#[]⟩] 31)) #[.int .i64 0, .int .i64 0] 25; simpa using h
  have hlex := Lex_any s hs WA (G.below bA)
  have HWA := Lib.hid hWA
  have HBA := Lib.hid bA
  have HKP0 := Lib.hid kp0
  have HKF0 := Lib.hid kf0
  have HRS := Lib.hid hr
  obtain ⟨pb, hpb⟩ : ∃ b, b = wS.heap.size := ⟨_, rfl⟩
  obtain ⟨fb, hfb⟩ : ∃ b, b = wS.heap.size + 1 := ⟨_, rfl⟩
  have hpf : pb < fb := by omega
  have hpl : Hid (wS.heap.size ≤ pb) := by show _ ≤ _; omega
  have hfl : Hid (wS.heap.size ≤ fb) := by show _ ≤ _; omega
  rw [← hpb] at HKP0
  rw [← hfb] at HKF0
  have HPB := Lib.hid hpb
  have HFB := Lib.hid hfb
  clear hWA bA kp0 kf0 hr G hpb hfb
  go_enter Tryz.func10, Tryz.ntmps10
  go_upto_region 1 with fail
  rw [← HWA.out, ← HFB.out, ← HPB.out]
  go_wp2_with fail
  refine hlex.mono ?_
  rintro e w1 ⟨v, er, at_, rfl, hb1, hcase⟩
  have HB1 := Lib.hid hb1
  have HKP1 := Lib.hid (HKP0.out.below hb1)
  have HKF1 := Lib.hid (HKF0.out.below hb1)
  have HBL1 : Hid (Below wS.heap.size wS w1) := below_next HBA.out hb1
  clear hlex hb1
  rcases hcase with ⟨rfl, rfl, hl, hown⟩ | ⟨c, m, hc, rfl, rfl, hl, rfl⟩
  · obtain ⟨L, hL⟩ : ∃ L, L = toks s.size (Lx.lexS s.data.toList).1 := ⟨_, rfl⟩
    have hLl := toks_len s
    have hLk := toks_is s
    obtain ⟨X, hX, hrX⟩ : ∃ X, XAll L X ∧ r = progS L X := by have h := HRS.out; unfold PgS at h; rw [hl] at h; rw [hL]; exact h
    rw [← hL] at hown hLl hLk
    have hLlen : (Lx.lexS s.data.toList).1.length = L.length := by rw [hL]; simp [toks]
    rw [hLlen] at hown
    have hsl : Sl tokC 3 w1 v L := Sl.own tokC_len hown rfl
    obtain ⟨ta, tc, rfl, htc, -⟩ := hsl.form
    have HSL := Lib.hid hsl
    have HLL := Lib.hid hLl
    have HLK := Lib.hid hLk
    have hXk : Hid (XOk L X) := hX.ok
    have HRX := Lib.hid hrX
    clear hL hown hLlen hsl hLl hLk hl hX hrX
    go_upto_region 4 with fail
    refine wp_letW ?_
    intro W1 hW1
    have b1 : Below w1.heap.size w1 W1 := by rw [hW1]; exact (Below.refl _ _).alloc (Nat.le_refl _) _
    have HBL2 : Hid (Below wS.heap.size wS W1) := below_next HBL1.out b1
    have HKP2 := Lib.hid (HKP1.out.below b1)
    have HKF2 := Lib.hid (HKF1.out.below b1)
    have HSL2 : Hid (Sl tokC 3 W1 (.slice ta L.length tc) L) := Sl.below HSL.out b1
    clear hW1 b1
    go_upto_region 5 with fail
    refine wp_letW ?_
    intro w hw
    obtain ⟨rb, hrb0⟩ : ∃ b, b = W1.heap.size := ⟨_, rfl⟩
    have b2 : Below W1.heap.size W1 w := by rw [hw]; exact (Below.refl _ _).alloc (Nat.le_refl _) _
    have HBL : Hid (Below wS.heap.size wS w) := below_next HBL2.out b2
    have K_pr := Lib.hid (HKP2.out.below b2)
    have K_ft := Lib.hid (HKF2.out.below b2)
    have hprb : fb < rb := by rw [hrb0]; exact HKF2.out.lt
    have EV : Hid (EnvOk w rb ta tc L) := Lib.hid (tok_at HSL2.out (by have := HLL.out; omega) HLK.out b2 (by omega))
    obtain ⟨s0, hs0⟩ : ∃ x : Rs, x = ⟨0, 0, 0⟩ := ⟨_, rfl⟩
    have R : Hid (Rp L ta tc rb w s0) := ⟨by rw [hw, hs0, hrb0]; exact Blk.new W1 _ _, by rw [hs0]; exact Nat.zero_le _⟩
    obtain ⟨nb, hnb⟩ : ∃ nb, nb = w.heap.size := ⟨_, rfl⟩
    have hrb : rb < nb := by rw [hnb]; exact R.out.lt
    have HNB := Lib.hid hnb
    have hwsn : Hid (wS.heap.size ≤ nb ∧ wS.heap.size ≤ rb) := ⟨by rw [hnb]; exact HBL.out.size, by rw [hrb0]; exact HBL2.out.size⟩
    have A : Hid (Al rb w w) := Al.refl rb w
    have HB : Hid (Al rb w w) := Al.refl rb w
    have HS0 := Lib.hid hs0
    rw [← hrb0]
    clear hw hrb0 b2 hnb hs0
    obtain ⟨us, h_us⟩ : ∃ x, x = (unitsR L X s0).1 := ⟨_, rfl⟩
    obtain ⟨s1, h_s1⟩ : ∃ x, x = (unitsR L X s0).2 := ⟨_, rfl⟩
    obtain ⟨s2, h_s2⟩ : ∃ x, x = needR L tMain s1 := ⟨_, rfl⟩
    obtain ⟨m, h_m⟩ : ∃ x, x = (nameR L s2).1 := ⟨_, rfl⟩
    obtain ⟨s3, h_s3⟩ : ∃ x, x = (nameR L s2).2 := ⟨_, rfl⟩
    obtain ⟨s4, h_s4⟩ : ∃ x, x = needR L tSemi s3 := ⟨_, rfl⟩
    obtain ⟨b, h_b⟩ : ∃ x, x = (backR L s4).1 := ⟨_, rfl⟩
    obtain ⟨s7, h_s7⟩ : ∃ x, x = (backR L s4).2 := ⟨_, rfl⟩
    obtain ⟨sE, h_sE⟩ : ∃ x, x = if s7.i < L.length then failR L 5 s7 else s7 := ⟨_, rfl⟩
    have HF : Hid (progR L X = (⟨us, m, b⟩, sE)) := by show _ = _; rw [h_sE, h_s7, h_b, h_s4, h_s3, h_m, h_s2, h_s1, h_us, HS0.out]; rfl
    have S_us := Lib.hid h_us
    have S_s1 := Lib.hid h_s1
    have S_s2 := Lib.hid h_s2
    have S_m := Lib.hid h_m
    have S_s3 := Lib.hid h_s3
    have S_s4 := Lib.hid h_s4
    have S_b := Lib.hid h_b
    have S_s7 := Lib.hid h_s7
    have S_sE := Lib.hid h_sE
    clear h_us h_s1 h_s2 h_m h_s3 h_s4 h_b h_s7 h_sE
    have HPC := Lib.hid (prog_cases HLK.out hXk.out HF.out HRX.out)
    have hX := hXk
    have hc_ := units_many EV hX s0 w HB.out R.out
    rw [← S_us.out, ← S_s1.out] at hc_
    have hl_ : nb ≤ w.heap.size := by have := A.out.size; have := HNB.out; omega
    go_wp2_with fail
    refine hc_.mono ?_
    rintro e w1 ⟨v_, rfl, hV_, hR_, hA_⟩
    obtain ⟨ea_us, ec_us, rfl, -⟩ := hV_.form
    obtain ⟨en_us, hen_⟩ : ∃ n, n = us.length := ⟨_, rfl⟩
    rw [← hen_] at hV_ ⊢
    have hV2_ := Lib.hid (hV_.lower hl_ PUn.lowers)
    clear hV_ hen_ hl_
    have F_ : Al rb w w1 := hA_
    have K_pr : Hid (Blk w1 pb #[.slice none 0 0, .string ⟨#[]⟩, .string ⟨#[]⟩] 31) := F_.blk K_pr.out (by omega)
    have K_ft : Hid (Blk w1 fb #[.int .i64 0, .int .i64 0] 25) := F_.blk K_ft.out (by omega)
    have A : Hid (Al rb w w1) := A.out.next F_
    have R := Lib.hid hR_
    clear hc_ hR_ hA_ F_
    have V_us : Hid (RwUn nb w1 (.slice ea_us en_us ec_us) us) := hV2_
    clear hV2_
    go_upto_region 6 with fail
    refine wp_letW ?_
    intro W2 hW2
    have hb_ : Below w1.heap.size w1 W2 := by rw [hW2]; exact (Below.refl _ _).alloc (Nat.le_refl _) _
    have F_ : Fr (fun _ => False) w1 W2 := Fr.of_below hb_ _
    obtain ⟨b_p, hb_p⟩ : ∃ b, b = w1.heap.size := ⟨_, rfl⟩
    have l_pr_p : pb < b_p := by have := K_pr.out.lt; omega
    have K_pr : Hid (Blk W2 pb #[.slice none 0 0, .string ⟨#[]⟩, .string ⟨#[]⟩] 31) := K_pr.out.below hb_
    have l_ft_p : fb < b_p := by have := K_ft.out.lt; omega
    have K_ft : Hid (Blk W2 fb #[.int .i64 0, .int .i64 0] 25) := K_ft.out.below hb_
    have V_us : Hid (RwUn nb W2 (.slice ea_us en_us ec_us) us) := V_us.out.stays (KpT.below (T := noT) hb_) (by decide) (PUn.stays (by decide) (by decide) (by decide) (by decide) (by decide))
    have hA_ : w.heap.size ≤ w1.heap.size := A.out.size
    have n_p : nb ≤ b_p := by have := HNB.out; omega
    have K_p : Hid (Blk W2 b_p #[.slice ea_us en_us ec_us, .string ⟨#[]⟩, .string ⟨#[]⟩] 31) := by show Blk _ _ _ _; rw [hW2, hb_p]; exact Blk.new w1 _ _
    have A : Hid (Al rb w W2) := A.out.then hb_
    have R : Hid (Rp L ta tc rb W2 s1) := R.out.below hb_
    rw [← hb_p]
    clear hW2 hb_ F_ hA_ hb_p
    have hb_ : Below W2.heap.size W2 (W2.alloc (.cells #[.string ⟨#[109, 97, 105, 110]⟩] 9)) := (Below.refl _ _).alloc (Nat.le_refl _) _
    have hc_ := pneed_any EV W2.heap.size [⟨#[109, 97, 105, 110]⟩] (by decide) (by decide) s1 (W2.alloc (.cells #[.string ⟨#[109, 97, 105, 110]⟩] 9)) ((HB.out.next A.out).then hb_) (R.out.below hb_) (Blk.new W2 _ _) (by have := A.out.size; have := HNB.out; omega)
    have e_ : needL L [⟨#[109, 97, 105, 110]⟩] s1 = s2 := S_s2.out.symm
    rw [e_] at hc_
    have HBA := Lib.hid hb_
    clear hb_ e_
    go_wp2_with fail
    refine hc_.mono ?_
    rintro e w3 ⟨rfl, hR_, hA_⟩
    have F_ : Al rb W2 w3 := (Al.of (rb := rb) HBA.out).next hA_
    have K_pr : Hid (Blk w3 pb #[.slice none 0 0, .string ⟨#[]⟩, .string ⟨#[]⟩] 31) := F_.blk K_pr.out (by omega)
    have K_ft : Hid (Blk w3 fb #[.int .i64 0, .int .i64 0] 25) := F_.blk K_ft.out (by omega)
    have K_p : Hid (Blk w3 b_p #[.slice ea_us en_us ec_us, .string ⟨#[]⟩, .string ⟨#[]⟩] 31) := F_.blk K_p.out (by omega)
    have V_us : Hid (RwUn nb w3 (.slice ea_us en_us ec_us) us) := V_us.out.stays (Al.kpT (T := noT) F_ hrb) (by decide) (PUn.stays (by decide) (by decide) (by decide) (by decide) (by decide))
    have A : Hid (Al rb w w3) := A.out.next F_
    have R := Lib.hid hR_
    clear hc_ hR_ hA_ F_ HBA
    go_upto_region 7 with fail
    have hc_ := pname_any EV s2 w3 (HB.out.next A.out) R.out
    rw [← S_m.out, ← S_s3.out] at hc_
    go_wp2_with fail
    refine hc_.mono ?_
    rintro e w4 ⟨rfl, hR_, hA_⟩
    have F_ : Al rb w3 w4 := hA_
    have K_pr : Hid (Blk w4 pb #[.slice none 0 0, .string ⟨#[]⟩, .string ⟨#[]⟩] 31) := F_.blk K_pr.out (by omega)
    have K_ft : Hid (Blk w4 fb #[.int .i64 0, .int .i64 0] 25) := F_.blk K_ft.out (by omega)
    have K_p : Hid (Blk w4 b_p #[.slice ea_us en_us ec_us, .string ⟨#[]⟩, .string ⟨#[]⟩] 31) := F_.blk K_p.out (by omega)
    have V_us : Hid (RwUn nb w4 (.slice ea_us en_us ec_us) us) := V_us.out.stays (Al.kpT (T := noT) F_ hrb) (by decide) (PUn.stays (by decide) (by decide) (by decide) (by decide) (by decide))
    have A : Hid (Al rb w w4) := A.out.next F_
    have R := Lib.hid hR_
    clear hc_ hR_ hA_ F_
    have k_p_0 : w4.cell? ⟨b_p, 0, none⟩ = some (.slice ea_us en_us ec_us) := Blk.c K_p.out rfl
    have f_p_0 : w4.frozen? ⟨b_p, 0, none⟩ = false := Blk.z K_p.out rfl
    have k_p_1 : w4.cell? ⟨b_p, 1, none⟩ = some (.string ⟨#[]⟩) := Blk.c K_p.out rfl
    have f_p_1 : w4.frozen? ⟨b_p, 1, none⟩ = false := Blk.z K_p.out rfl
    have k_p_2 : w4.cell? ⟨b_p, 2, none⟩ = some (.string ⟨#[]⟩) := Blk.c K_p.out rfl
    have f_p_2 : w4.frozen? ⟨b_p, 2, none⟩ = false := Blk.z K_p.out rfl
    go_upto_region 8 with fail
    refine wp_letW ?_
    intro W5 hW5
    have F_ : Fr (fun k => k = b_p) w4 W5 := by rw [hW5]; exact (Fr.set_at w4 b_p 1 _)
    have kp_ : KpT 31 nb w4 W5 := KpT.one K_p.out F_
    have K2_ : Blk W5 b_p #[.slice ea_us en_us ec_us, .string m, .string ⟨#[]⟩] 31 := by rw [hW5]; have h := (Blk.setAt K_p.out 1 (.string m)); simpa using h
    have K_pr : Hid (Blk W5 pb #[.slice none 0 0, .string ⟨#[]⟩, .string ⟨#[]⟩] 31) := F_.blk' K_pr.out (by omega)
    have K_ft : Hid (Blk W5 fb #[.int .i64 0, .int .i64 0] 25) := F_.blk' K_ft.out (by omega)
    have V_us : Hid (RwUn nb W5 (.slice ea_us en_us ec_us) us) := V_us.out.stays kp_ (by decide) (PUn.stays (by decide) (by decide) (by decide) (by decide) (by decide))
    have K_p := Lib.hid K2_
    have A : Hid (Al rb w W5) := Fr.trans A.out F_ (fun i hi q => by have := HNB.out; omega)
    have R : Hid (Rp L ta tc rb W5 s3) := R.out.fr F_ (fun q => by omega)
    clear k_p_0 f_p_0 k_p_1 f_p_1 k_p_2 f_p_2
    clear hW5 F_ kp_ K2_
    have hb_ : Below W5.heap.size W5 (W5.alloc (.cells #[.string ⟨#[59]⟩] 9)) := (Below.refl _ _).alloc (Nat.le_refl _) _
    have hc_ := pneed_any EV W5.heap.size [⟨#[59]⟩] (by decide) (by decide) s3 (W5.alloc (.cells #[.string ⟨#[59]⟩] 9)) ((HB.out.next A.out).then hb_) (R.out.below hb_) (Blk.new W5 _ _) (by have := A.out.size; have := HNB.out; omega)
    have e_ : needL L [⟨#[59]⟩] s3 = s4 := S_s4.out.symm
    rw [e_] at hc_
    have HBA := Lib.hid hb_
    clear hb_ e_
    go_wp2_with fail
    refine hc_.mono ?_
    rintro e w6 ⟨rfl, hR_, hA_⟩
    have F_ : Al rb W5 w6 := (Al.of (rb := rb) HBA.out).next hA_
    have K_pr : Hid (Blk w6 pb #[.slice none 0 0, .string ⟨#[]⟩, .string ⟨#[]⟩] 31) := F_.blk K_pr.out (by omega)
    have K_ft : Hid (Blk w6 fb #[.int .i64 0, .int .i64 0] 25) := F_.blk K_ft.out (by omega)
    have K_p : Hid (Blk w6 b_p #[.slice ea_us en_us ec_us, .string m, .string ⟨#[]⟩] 31) := F_.blk K_p.out (by omega)
    have V_us : Hid (RwUn nb w6 (.slice ea_us en_us ec_us) us) := V_us.out.stays (Al.kpT (T := noT) F_ hrb) (by decide) (PUn.stays (by decide) (by decide) (by decide) (by decide) (by decide))
    have A : Hid (Al rb w w6) := A.out.next F_
    have R := Lib.hid hR_
    clear hc_ hR_ hA_ F_ HBA
    go_upto_region 9 with fail
    by_cases hv_ : markR L s4 = tFallback
    · have HV := Lib.hid hv_
      obtain ⟨s5, h_s5⟩ : ∃ x, x = nextR s4 := ⟨_, rfl⟩
      obtain ⟨s6, h_s6⟩ : ∃ x, x = (nameR L s5).2 := ⟨_, rfl⟩
      have e_ : backR L s4 = ((nameR L (nextR s4)).1, needR L tSemi (nameR L (nextR s4)).2) := by unfold backR; rw [if_pos HV.out]
      have S_b2 : Hid (b = (nameR L s5).1) := by show _ = _; rw [S_b.out, e_, h_s5]
      have S_s72 : Hid (s7 = needR L tSemi s6) := by show _ = _; rw [S_s7.out, e_, h_s6, h_s5]
      have S_s5 := Lib.hid h_s5
      have S_s6 := Lib.hid h_s6
      clear hv_ h_s5 h_s6 e_ S_b S_s7
      have S_b := S_b2
      have S_s7 := S_s72
      have hc_ := ptake_any EV ⟨#[102, 97, 108, 108, 98, 97, 99, 107]⟩ (by decide) s4 w6 (HB.out.next A.out) R.out
      have e1_ : takeB L ⟨#[102, 97, 108, 108, 98, 97, 99, 107]⟩ s4 = true := by unfold takeB; exact decide_eq_true HV.out
      have e2_ : takeR L ⟨#[102, 97, 108, 108, 98, 97, 99, 107]⟩ s4 = s5 := by rw [S_s5.out]; unfold takeR; exact if_pos HV.out
      rw [e1_, e2_] at hc_
      clear e1_ e2_
      go_wp2_with fail
      refine hc_.mono ?_
      rintro e w7 ⟨rfl, hR_, hA_⟩
      have F_ : Al rb w6 w7 := hA_
      have K_pr : Hid (Blk w7 pb #[.slice none 0 0, .string ⟨#[]⟩, .string ⟨#[]⟩] 31) := F_.blk K_pr.out (by omega)
      have K_ft : Hid (Blk w7 fb #[.int .i64 0, .int .i64 0] 25) := F_.blk K_ft.out (by omega)
      have K_p : Hid (Blk w7 b_p #[.slice ea_us en_us ec_us, .string m, .string ⟨#[]⟩] 31) := F_.blk K_p.out (by omega)
      have V_us : Hid (RwUn nb w7 (.slice ea_us en_us ec_us) us) := V_us.out.stays (Al.kpT (T := noT) F_ hrb) (by decide) (PUn.stays (by decide) (by decide) (by decide) (by decide) (by decide))
      have A : Hid (Al rb w w7) := A.out.next F_
      have R := Lib.hid hR_
      clear hc_ hR_ hA_ F_
      go_upto_region 10 with fail
      have hc_ := pname_any EV s5 w7 (HB.out.next A.out) R.out
      rw [← S_b.out, ← S_s6.out] at hc_
      go_wp2_with fail
      refine hc_.mono ?_
      rintro e w8 ⟨rfl, hR_, hA_⟩
      have F_ : Al rb w7 w8 := hA_
      have K_pr : Hid (Blk w8 pb #[.slice none 0 0, .string ⟨#[]⟩, .string ⟨#[]⟩] 31) := F_.blk K_pr.out (by omega)
      have K_ft : Hid (Blk w8 fb #[.int .i64 0, .int .i64 0] 25) := F_.blk K_ft.out (by omega)
      have K_p : Hid (Blk w8 b_p #[.slice ea_us en_us ec_us, .string m, .string ⟨#[]⟩] 31) := F_.blk K_p.out (by omega)
      have V_us : Hid (RwUn nb w8 (.slice ea_us en_us ec_us) us) := V_us.out.stays (Al.kpT (T := noT) F_ hrb) (by decide) (PUn.stays (by decide) (by decide) (by decide) (by decide) (by decide))
      have A : Hid (Al rb w w8) := A.out.next F_
      have R := Lib.hid hR_
      clear hc_ hR_ hA_ F_
      have k_p_0 : w8.cell? ⟨b_p, 0, none⟩ = some (.slice ea_us en_us ec_us) := Blk.c K_p.out rfl
      have f_p_0 : w8.frozen? ⟨b_p, 0, none⟩ = false := Blk.z K_p.out rfl
      have k_p_1 : w8.cell? ⟨b_p, 1, none⟩ = some (.string m) := Blk.c K_p.out rfl
      have f_p_1 : w8.frozen? ⟨b_p, 1, none⟩ = false := Blk.z K_p.out rfl
      have k_p_2 : w8.cell? ⟨b_p, 2, none⟩ = some (.string ⟨#[]⟩) := Blk.c K_p.out rfl
      have f_p_2 : w8.frozen? ⟨b_p, 2, none⟩ = false := Blk.z K_p.out rfl
      go_upto_region 11 with fail
      refine wp_letW ?_
      intro W9 hW9
      have F_ : Fr (fun k => k = b_p) w8 W9 := by rw [hW9]; exact (Fr.set_at w8 b_p 2 _)
      have kp_ : KpT 31 nb w8 W9 := KpT.one K_p.out F_
      have K2_ : Blk W9 b_p #[.slice ea_us en_us ec_us, .string m, .string b] 31 := by rw [hW9]; have h := (Blk.setAt K_p.out 2 (.string b)); simpa using h
      have K_pr : Hid (Blk W9 pb #[.slice none 0 0, .string ⟨#[]⟩, .string ⟨#[]⟩] 31) := F_.blk' K_pr.out (by omega)
      have K_ft : Hid (Blk W9 fb #[.int .i64 0, .int .i64 0] 25) := F_.blk' K_ft.out (by omega)
      have V_us : Hid (RwUn nb W9 (.slice ea_us en_us ec_us) us) := V_us.out.stays kp_ (by decide) (PUn.stays (by decide) (by decide) (by decide) (by decide) (by decide))
      have K_p := Lib.hid K2_
      have A : Hid (Al rb w W9) := Fr.trans A.out F_ (fun i hi q => by have := HNB.out; omega)
      have R : Hid (Rp L ta tc rb W9 s6) := R.out.fr F_ (fun q => by omega)
      clear k_p_0 f_p_0 k_p_1 f_p_1 k_p_2 f_p_2
      clear hW9 F_ kp_ K2_
      have hb_ : Below W9.heap.size W9 (W9.alloc (.cells #[.string ⟨#[59]⟩] 9)) := (Below.refl _ _).alloc (Nat.le_refl _) _
      have hc_ := pneed_any EV W9.heap.size [⟨#[59]⟩] (by decide) (by decide) s6 (W9.alloc (.cells #[.string ⟨#[59]⟩] 9)) ((HB.out.next A.out).then hb_) (R.out.below hb_) (Blk.new W9 _ _) (by have := A.out.size; have := HNB.out; omega)
      have e_ : needL L [⟨#[59]⟩] s6 = s7 := S_s7.out.symm
      rw [e_] at hc_
      have HBA := Lib.hid hb_
      clear hb_ e_
      go_wp2_with fail
      refine hc_.mono ?_
      rintro e w10 ⟨rfl, hR_, hA_⟩
      have F_ : Al rb W9 w10 := (Al.of (rb := rb) HBA.out).next hA_
      have K_pr : Hid (Blk w10 pb #[.slice none 0 0, .string ⟨#[]⟩, .string ⟨#[]⟩] 31) := F_.blk K_pr.out (by omega)
      have K_ft : Hid (Blk w10 fb #[.int .i64 0, .int .i64 0] 25) := F_.blk K_ft.out (by omega)
      have K_p : Hid (Blk w10 b_p #[.slice ea_us en_us ec_us, .string m, .string b] 31) := F_.blk K_p.out (by omega)
      have V_us : Hid (RwUn nb w10 (.slice ea_us en_us ec_us) us) := V_us.out.stays (Al.kpT (T := noT) F_ hrb) (by decide) (PUn.stays (by decide) (by decide) (by decide) (by decide) (by decide))
      have A : Hid (Al rb w w10) := A.out.next F_
      have R := Lib.hid hR_
      clear hc_ hR_ hA_ F_ HBA
      go_upto_region 12 with fail
      obtain ⟨c0, c1, c2, c3⟩ := R.out.cells
      have hle7 := R.out.le
      have HLN := EV.out.len
      by_cases hil : s7.i < L.length
      · have S_sE2 : sE = failR L 5 s7 := by rw [S_sE.out, if_pos hil]
        have hi1 : (s7.i : Int) < (L.length : Int) := by omega
        have hi2 : decide (s7.i < L.length) = true := decide_eq_true hil
        have hc_ := pfail_any EV 5 s7 w10 (HB.out.next A.out) R.out
        rw [← S_sE2] at hc_
        have S_sE3 := Lib.hid S_sE2
        clear S_sE2
        go_wp2_with fail
        refine hc_.mono ?_
        rintro e w11 ⟨rfl, hR_, hA_⟩
        have F_ : Al rb w10 w11 := hA_
        have K_pr : Hid (Blk w11 pb #[.slice none 0 0, .string ⟨#[]⟩, .string ⟨#[]⟩] 31) := F_.blk K_pr.out (by omega)
        have K_ft : Hid (Blk w11 fb #[.int .i64 0, .int .i64 0] 25) := F_.blk K_ft.out (by omega)
        have K_p : Hid (Blk w11 b_p #[.slice ea_us en_us ec_us, .string m, .string b] 31) := F_.blk K_p.out (by omega)
        have V_us : Hid (RwUn nb w11 (.slice ea_us en_us ec_us) us) := V_us.out.stays (Al.kpT (T := noT) F_ hrb) (by decide) (PUn.stays (by decide) (by decide) (by decide) (by decide) (by decide))
        have A : Hid (Al rb w w11) := A.out.next F_
        have R := Lib.hid hR_
        clear hc_ hR_ hA_ F_
        clear c0 c1 c2 c3
        have S_sE2 : sE = failR L 5 s7 := S_sE3.out
        have hce : sE.c ≠ 0 := by rw [S_sE2]; exact fail_not
        have HRE : Hid (r = .error (sE.c, sE.p)) := HPC.out.2 hce
        have HCE := Lib.hid hce
        clear S_sE2
        have hok_ := pok_any sE w11 R.out
        rw [decide_eq_false hce] at hok_
        clear hce
        go_wp2_with fail
        refine hok_.mono ?_
        rintro e w_ ⟨rfl, rfl⟩
        clear hok_
        obtain ⟨d0, d1, d2, d3⟩ := R.out.cells
        have p0 : w_.cell? ⟨pb, 0, none⟩ = some (.slice none 0 0) := Blk.c K_pr.out rfl
        have pf0 : w_.frozen? ⟨pb, 0, none⟩ = false := Blk.z K_pr.out rfl
        have p1 : w_.cell? ⟨pb, 1, none⟩ = some (.string ⟨#[]⟩) := Blk.c K_pr.out rfl
        have pf1 : w_.frozen? ⟨pb, 1, none⟩ = false := Blk.z K_pr.out rfl
        have p2 : w_.cell? ⟨pb, 2, none⟩ = some (.string ⟨#[]⟩) := Blk.c K_pr.out rfl
        have pf2 : w_.frozen? ⟨pb, 2, none⟩ = false := Blk.z K_pr.out rfl
        have t0 : w_.cell? ⟨fb, 0, none⟩ = some (.int .i64 0) := Blk.c K_ft.out rfl
        have tf0 : w_.frozen? ⟨fb, 0, none⟩ = false := Blk.z K_ft.out rfl
        have t1 : w_.cell? ⟨fb, 1, none⟩ = some (.int .i64 0) := Blk.c K_ft.out rfl
        have tf1 : w_.frozen? ⟨fb, 1, none⟩ = false := Blk.z K_ft.out rfl
        have hnpr : pb ≠ rb := by omega
        have hnfr : fb ≠ rb := by omega
        have hnpf : pb ≠ fb := by omega
        have hnfp : fb ≠ pb := by omega
        have hnrp : rb ≠ pb := by omega
        have hnrf : rb ≠ fb := by omega
        have HBE : Hid (Below wS.heap.size wS w_) := A.out.keeps HBL.out HBL.out.size hwsn.out.2
        go_wp2_with fail
        go_region
        all_goals
          go_wp2_with fail
          refine bodyPost_ret (v := .tuple #[.agg #[.slice none 0 0, .string ⟨#[]⟩, .string ⟨#[]⟩], .agg #[.int .i64 (sE.c), .int .i64 (sE.p)]]) (by simp [results, Tryz.results10, go_sem, p0, p1, p2, t0, t1]) rfl ?_
          refine ⟨?_, ?_⟩
          · repeat (first | (refine Below.drew ?_) | (refine Below.setCell ?_ (by first | exact hpl.out | exact hfl.out) _))
            exact (by first | exact HBE.out.drew | exact HBE.out)
          · rw [HRE.out]; exact ⟨HCE.out, rfl⟩
      · have S_sE2 : sE = s7 := by rw [S_sE.out, if_neg hil]
        have hi1 : ¬ (s7.i : Int) < (L.length : Int) := by omega
        have hi2 : decide (s7.i < L.length) = false := decide_eq_false hil
        by_cases hc0 : s7.c = 0
        · have HRO : Hid (r = .ok ⟨us, m, b⟩) := HPC.out.1 (by rw [S_sE2]; exact hc0)
          have hok_ := pok_any s7 w10 R.out
          rw [decide_eq_true hc0] at hok_
          clear hc0 hil S_sE2
          go_wp2_with fail
          refine hok_.mono ?_
          rintro e w_ ⟨rfl, rfl⟩
          clear hok_ c0 c1 c2 c3
          have k_p_0 : w_.cell? ⟨b_p, 0, none⟩ = some (.slice ea_us en_us ec_us) := Blk.c K_p.out rfl
          have k_p_1 : w_.cell? ⟨b_p, 1, none⟩ = some (.string m) := Blk.c K_p.out rfl
          have k_p_2 : w_.cell? ⟨b_p, 2, none⟩ = some (.string b) := Blk.c K_p.out rfl
          have k_pr_0 : w_.cell? ⟨pb, 0, none⟩ = some (.slice none 0 0) := Blk.c K_pr.out rfl
          have f_pr_0 : w_.frozen? ⟨pb, 0, none⟩ = false := Blk.z K_pr.out rfl
          have k_pr_1 : w_.cell? ⟨pb, 1, none⟩ = some (.string ⟨#[]⟩) := Blk.c K_pr.out rfl
          have f_pr_1 : w_.frozen? ⟨pb, 1, none⟩ = false := Blk.z K_pr.out rfl
          have k_pr_2 : w_.cell? ⟨pb, 2, none⟩ = some (.string ⟨#[]⟩) := Blk.c K_pr.out rfl
          have f_pr_2 : w_.frozen? ⟨pb, 2, none⟩ = false := Blk.z K_pr.out rfl
          have k_ft_0 : w_.cell? ⟨fb, 0, none⟩ = some (.int .i64 0) := Blk.c K_ft.out rfl
          have f_ft_0 : w_.frozen? ⟨fb, 0, none⟩ = false := Blk.z K_ft.out rfl
          have k_ft_1 : w_.cell? ⟨fb, 1, none⟩ = some (.int .i64 0) := Blk.c K_ft.out rfl
          have f_ft_1 : w_.frozen? ⟨fb, 1, none⟩ = false := Blk.z K_ft.out rfl
          have hnpf : pb ≠ fb := by omega
          have hnfp : fb ≠ pb := by omega
          go_wp2_with fail
          obtain ⟨WE, hWE⟩ : ∃ WE, WE = (((((w_.setCell ⟨pb, 0, none⟩ (.slice ea_us en_us ec_us)).setCell ⟨pb, 1, none⟩ (.string m)).setCell ⟨pb, 2, none⟩ (.string b)).setCell ⟨fb, 0, none⟩ (.int .i64 0)).setCell ⟨fb, 1, none⟩ (.int .i64 0)) := ⟨_, rfl⟩
          have FE : Fr (fun k => k = pb ∨ k = fb) w_ WE := by rw [hWE]; exact Fr.trans (Fr.trans (Fr.trans (Fr.trans (Fr.mono (Fr.set_at w_ pb 0 _) (fun _ _ q => Or.inl q)) (Fr.set_at _ pb 1 _) (fun _ _ q => Or.inl q)) (Fr.set_at _ pb 2 _) (fun _ _ q => Or.inl q)) (Fr.set_at _ fb 0 _) (fun _ _ q => Or.inr q)) (Fr.set_at _ fb 1 _) (fun _ _ q => Or.inr q)
          have kpE : KpT noT nb w_ WE := KpT.fr FE (fun g hg => by omega)
          have BE : Below wS.heap.size wS WE := by
            rw [hWE]
            repeat (refine Below.setCell ?_ (by first | exact hpl.out | exact hfl.out) _)
            exact A.out.keeps HBL.out HBL.out.size hwsn.out.2
          have KPE : Blk WE pb #[.slice ea_us en_us ec_us, .string m, .string b] 31 := by rw [hWE]; have h := ((((Blk.setAt (Blk.setAt (Blk.setAt K_pr.out 0 (.slice ea_us en_us ec_us)) 1 (.string m)) 2 (.string b)).other 0 hnpf (.int .i64 0)).other 1 hnpf (.int .i64 0))); simpa using h
          have KFE : Blk WE fb #[.int .i64 0, .int .i64 0] 25 := by rw [hWE]; have h := Blk.setAt (Blk.setAt (((K_ft.out.other 0 hnfp (.slice ea_us en_us ec_us)).other 1 hnfp (.string m)).other 2 hnfp (.string b)) 0 (.int .i64 0)) 1 (.int .i64 0); simpa using h
          have z0 : WE.cell? ⟨pb, 0, none⟩ = some (.slice ea_us en_us ec_us) := Blk.c KPE rfl
          have z1 : WE.cell? ⟨pb, 1, none⟩ = some (.string m) := Blk.c KPE rfl
          have z2 : WE.cell? ⟨pb, 2, none⟩ = some (.string b) := Blk.c KPE rfl
          have y0 : WE.cell? ⟨fb, 0, none⟩ = some (.int .i64 0) := Blk.c KFE rfl
          have y1 : WE.cell? ⟨fb, 1, none⟩ = some (.int .i64 0) := Blk.c KFE rfl
          rw [← hWE]
          refine bodyPost_ret (v := .tuple #[.agg #[.slice ea_us en_us ec_us, .string m, .string b], .agg #[.int .i64 0, .int .i64 0]]) (by simp [results, Tryz.results10, go_sem, z0, z1, z2, y0, y1]) rfl ?_
          rw [HRO.out]
          exact ⟨BE, _, _, _, rfl, (V_us.out.stays kpE (by decide) (PUn.stays (by decide) (by decide) (by decide) (by decide) (by decide))).lower hwsn.out.1 PUn.lowers⟩
        · have hce : s7.c ≠ 0 := hc0
          have HRE : Hid (r = .error (s7.c, s7.p)) := by have h := HPC.out.2 (by rw [S_sE2]; exact hce); rw [S_sE2] at h; exact h
          have HCE := Lib.hid hce
          clear S_sE2
          have hok_ := pok_any s7 w10 R.out
          rw [decide_eq_false hce] at hok_
          clear hce
          go_wp2_with fail
          refine hok_.mono ?_
          rintro e w_ ⟨rfl, rfl⟩
          clear hok_
          obtain ⟨d0, d1, d2, d3⟩ := R.out.cells
          have p0 : w_.cell? ⟨pb, 0, none⟩ = some (.slice none 0 0) := Blk.c K_pr.out rfl
          have pf0 : w_.frozen? ⟨pb, 0, none⟩ = false := Blk.z K_pr.out rfl
          have p1 : w_.cell? ⟨pb, 1, none⟩ = some (.string ⟨#[]⟩) := Blk.c K_pr.out rfl
          have pf1 : w_.frozen? ⟨pb, 1, none⟩ = false := Blk.z K_pr.out rfl
          have p2 : w_.cell? ⟨pb, 2, none⟩ = some (.string ⟨#[]⟩) := Blk.c K_pr.out rfl
          have pf2 : w_.frozen? ⟨pb, 2, none⟩ = false := Blk.z K_pr.out rfl
          have t0 : w_.cell? ⟨fb, 0, none⟩ = some (.int .i64 0) := Blk.c K_ft.out rfl
          have tf0 : w_.frozen? ⟨fb, 0, none⟩ = false := Blk.z K_ft.out rfl
          have t1 : w_.cell? ⟨fb, 1, none⟩ = some (.int .i64 0) := Blk.c K_ft.out rfl
          have tf1 : w_.frozen? ⟨fb, 1, none⟩ = false := Blk.z K_ft.out rfl
          have hnpr : pb ≠ rb := by omega
          have hnfr : fb ≠ rb := by omega
          have hnpf : pb ≠ fb := by omega
          have hnfp : fb ≠ pb := by omega
          have hnrp : rb ≠ pb := by omega
          have hnrf : rb ≠ fb := by omega
          have HBE : Hid (Below wS.heap.size wS w_) := A.out.keeps HBL.out HBL.out.size hwsn.out.2
          go_wp2_with fail
          go_region
          all_goals
            go_wp2_with fail
            refine bodyPost_ret (v := .tuple #[.agg #[.slice none 0 0, .string ⟨#[]⟩, .string ⟨#[]⟩], .agg #[.int .i64 (s7.c), .int .i64 (s7.p)]]) (by simp [results, Tryz.results10, go_sem, p0, p1, p2, t0, t1]) rfl ?_
            refine ⟨?_, ?_⟩
            · repeat (first | (refine Below.drew ?_) | (refine Below.setCell ?_ (by first | exact hpl.out | exact hfl.out) _))
              exact (by first | exact HBE.out.drew | exact HBE.out)
            · rw [HRE.out]; exact ⟨HCE.out, rfl⟩
    · have HV := Lib.hid hv_
      have e_ : backR L s4 = (noS, s4) := by unfold backR; rw [if_neg HV.out]
      have hb2 : b = noS := by rw [S_b.out, e_]
      have hs2 : s4 = s7 := by rw [S_s7.out, e_]
      clear hv_ e_ S_b S_s7
      subst hb2
      have hc_ := ptake_any EV ⟨#[102, 97, 108, 108, 98, 97, 99, 107]⟩ (by decide) s4 w6 (HB.out.next A.out) R.out
      have e1_ : takeB L ⟨#[102, 97, 108, 108, 98, 97, 99, 107]⟩ s4 = false := by unfold takeB; exact decide_eq_false HV.out
      have e2_ : takeR L ⟨#[102, 97, 108, 108, 98, 97, 99, 107]⟩ s4 = s4 := by unfold takeR; exact if_neg HV.out
      rw [e1_, e2_] at hc_
      clear e1_ e2_
      go_wp2_with fail
      refine hc_.mono ?_
      rintro e w7 ⟨rfl, hR_, hA_⟩
      have F_ : Al rb w6 w7 := hA_
      have K_pr : Hid (Blk w7 pb #[.slice none 0 0, .string ⟨#[]⟩, .string ⟨#[]⟩] 31) := F_.blk K_pr.out (by omega)
      have K_ft : Hid (Blk w7 fb #[.int .i64 0, .int .i64 0] 25) := F_.blk K_ft.out (by omega)
      have K_p : Hid (Blk w7 b_p #[.slice ea_us en_us ec_us, .string m, .string ⟨#[]⟩] 31) := F_.blk K_p.out (by omega)
      have V_us : Hid (RwUn nb w7 (.slice ea_us en_us ec_us) us) := V_us.out.stays (Al.kpT (T := noT) F_ hrb) (by decide) (PUn.stays (by decide) (by decide) (by decide) (by decide) (by decide))
      have A : Hid (Al rb w w7) := A.out.next F_
      have R := Lib.hid hR_
      clear hc_ hR_ hA_ F_
      go_upto_region 12 with fail
      rw [hs2] at R
      clear hs2
      obtain ⟨c0, c1, c2, c3⟩ := R.out.cells
      have hle7 := R.out.le
      have HLN := EV.out.len
      by_cases hil : s7.i < L.length
      · have S_sE2 : sE = failR L 5 s7 := by rw [S_sE.out, if_pos hil]
        have hi1 : (s7.i : Int) < (L.length : Int) := by omega
        have hi2 : decide (s7.i < L.length) = true := decide_eq_true hil
        have hc_ := pfail_any EV 5 s7 w7 (HB.out.next A.out) R.out
        rw [← S_sE2] at hc_
        have S_sE3 := Lib.hid S_sE2
        clear S_sE2
        go_wp2_with fail
        refine hc_.mono ?_
        rintro e w8 ⟨rfl, hR_, hA_⟩
        have F_ : Al rb w7 w8 := hA_
        have K_pr : Hid (Blk w8 pb #[.slice none 0 0, .string ⟨#[]⟩, .string ⟨#[]⟩] 31) := F_.blk K_pr.out (by omega)
        have K_ft : Hid (Blk w8 fb #[.int .i64 0, .int .i64 0] 25) := F_.blk K_ft.out (by omega)
        have K_p : Hid (Blk w8 b_p #[.slice ea_us en_us ec_us, .string m, .string ⟨#[]⟩] 31) := F_.blk K_p.out (by omega)
        have V_us : Hid (RwUn nb w8 (.slice ea_us en_us ec_us) us) := V_us.out.stays (Al.kpT (T := noT) F_ hrb) (by decide) (PUn.stays (by decide) (by decide) (by decide) (by decide) (by decide))
        have A : Hid (Al rb w w8) := A.out.next F_
        have R := Lib.hid hR_
        clear hc_ hR_ hA_ F_
        clear c0 c1 c2 c3
        have S_sE2 : sE = failR L 5 s7 := S_sE3.out
        have hce : sE.c ≠ 0 := by rw [S_sE2]; exact fail_not
        have HRE : Hid (r = .error (sE.c, sE.p)) := HPC.out.2 hce
        have HCE := Lib.hid hce
        clear S_sE2
        have hok_ := pok_any sE w8 R.out
        rw [decide_eq_false hce] at hok_
        clear hce
        go_wp2_with fail
        refine hok_.mono ?_
        rintro e w_ ⟨rfl, rfl⟩
        clear hok_
        obtain ⟨d0, d1, d2, d3⟩ := R.out.cells
        have p0 : w_.cell? ⟨pb, 0, none⟩ = some (.slice none 0 0) := Blk.c K_pr.out rfl
        have pf0 : w_.frozen? ⟨pb, 0, none⟩ = false := Blk.z K_pr.out rfl
        have p1 : w_.cell? ⟨pb, 1, none⟩ = some (.string ⟨#[]⟩) := Blk.c K_pr.out rfl
        have pf1 : w_.frozen? ⟨pb, 1, none⟩ = false := Blk.z K_pr.out rfl
        have p2 : w_.cell? ⟨pb, 2, none⟩ = some (.string ⟨#[]⟩) := Blk.c K_pr.out rfl
        have pf2 : w_.frozen? ⟨pb, 2, none⟩ = false := Blk.z K_pr.out rfl
        have t0 : w_.cell? ⟨fb, 0, none⟩ = some (.int .i64 0) := Blk.c K_ft.out rfl
        have tf0 : w_.frozen? ⟨fb, 0, none⟩ = false := Blk.z K_ft.out rfl
        have t1 : w_.cell? ⟨fb, 1, none⟩ = some (.int .i64 0) := Blk.c K_ft.out rfl
        have tf1 : w_.frozen? ⟨fb, 1, none⟩ = false := Blk.z K_ft.out rfl
        have hnpr : pb ≠ rb := by omega
        have hnfr : fb ≠ rb := by omega
        have hnpf : pb ≠ fb := by omega
        have hnfp : fb ≠ pb := by omega
        have hnrp : rb ≠ pb := by omega
        have hnrf : rb ≠ fb := by omega
        have HBE : Hid (Below wS.heap.size wS w_) := A.out.keeps HBL.out HBL.out.size hwsn.out.2
        go_wp2_with fail
        go_region
        all_goals
          go_wp2_with fail
          refine bodyPost_ret (v := .tuple #[.agg #[.slice none 0 0, .string ⟨#[]⟩, .string ⟨#[]⟩], .agg #[.int .i64 (sE.c), .int .i64 (sE.p)]]) (by simp [results, Tryz.results10, go_sem, p0, p1, p2, t0, t1]) rfl ?_
          refine ⟨?_, ?_⟩
          · repeat (first | (refine Below.drew ?_) | (refine Below.setCell ?_ (by first | exact hpl.out | exact hfl.out) _))
            exact (by first | exact HBE.out.drew | exact HBE.out)
          · rw [HRE.out]; exact ⟨HCE.out, rfl⟩
      · have S_sE2 : sE = s7 := by rw [S_sE.out, if_neg hil]
        have hi1 : ¬ (s7.i : Int) < (L.length : Int) := by omega
        have hi2 : decide (s7.i < L.length) = false := decide_eq_false hil
        by_cases hc0 : s7.c = 0
        · have HRO : Hid (r = .ok ⟨us, m, noS⟩) := HPC.out.1 (by rw [S_sE2]; exact hc0)
          have hok_ := pok_any s7 w7 R.out
          rw [decide_eq_true hc0] at hok_
          clear hc0 hil S_sE2
          go_wp2_with fail
          refine hok_.mono ?_
          rintro e w_ ⟨rfl, rfl⟩
          clear hok_ c0 c1 c2 c3
          have k_p_0 : w_.cell? ⟨b_p, 0, none⟩ = some (.slice ea_us en_us ec_us) := Blk.c K_p.out rfl
          have k_p_1 : w_.cell? ⟨b_p, 1, none⟩ = some (.string m) := Blk.c K_p.out rfl
          have k_p_2 : w_.cell? ⟨b_p, 2, none⟩ = some (.string ⟨#[]⟩) := Blk.c K_p.out rfl
          have k_pr_0 : w_.cell? ⟨pb, 0, none⟩ = some (.slice none 0 0) := Blk.c K_pr.out rfl
          have f_pr_0 : w_.frozen? ⟨pb, 0, none⟩ = false := Blk.z K_pr.out rfl
          have k_pr_1 : w_.cell? ⟨pb, 1, none⟩ = some (.string ⟨#[]⟩) := Blk.c K_pr.out rfl
          have f_pr_1 : w_.frozen? ⟨pb, 1, none⟩ = false := Blk.z K_pr.out rfl
          have k_pr_2 : w_.cell? ⟨pb, 2, none⟩ = some (.string ⟨#[]⟩) := Blk.c K_pr.out rfl
          have f_pr_2 : w_.frozen? ⟨pb, 2, none⟩ = false := Blk.z K_pr.out rfl
          have k_ft_0 : w_.cell? ⟨fb, 0, none⟩ = some (.int .i64 0) := Blk.c K_ft.out rfl
          have f_ft_0 : w_.frozen? ⟨fb, 0, none⟩ = false := Blk.z K_ft.out rfl
          have k_ft_1 : w_.cell? ⟨fb, 1, none⟩ = some (.int .i64 0) := Blk.c K_ft.out rfl
          have f_ft_1 : w_.frozen? ⟨fb, 1, none⟩ = false := Blk.z K_ft.out rfl
          have hnpf : pb ≠ fb := by omega
          have hnfp : fb ≠ pb := by omega
          go_wp2_with fail
          obtain ⟨WE, hWE⟩ : ∃ WE, WE = (((((w_.setCell ⟨pb, 0, none⟩ (.slice ea_us en_us ec_us)).setCell ⟨pb, 1, none⟩ (.string m)).setCell ⟨pb, 2, none⟩ (.string ⟨#[]⟩)).setCell ⟨fb, 0, none⟩ (.int .i64 0)).setCell ⟨fb, 1, none⟩ (.int .i64 0)) := ⟨_, rfl⟩
          have FE : Fr (fun k => k = pb ∨ k = fb) w_ WE := by rw [hWE]; exact Fr.trans (Fr.trans (Fr.trans (Fr.trans (Fr.mono (Fr.set_at w_ pb 0 _) (fun _ _ q => Or.inl q)) (Fr.set_at _ pb 1 _) (fun _ _ q => Or.inl q)) (Fr.set_at _ pb 2 _) (fun _ _ q => Or.inl q)) (Fr.set_at _ fb 0 _) (fun _ _ q => Or.inr q)) (Fr.set_at _ fb 1 _) (fun _ _ q => Or.inr q)
          have kpE : KpT noT nb w_ WE := KpT.fr FE (fun g hg => by omega)
          have BE : Below wS.heap.size wS WE := by
            rw [hWE]
            repeat (refine Below.setCell ?_ (by first | exact hpl.out | exact hfl.out) _)
            exact A.out.keeps HBL.out HBL.out.size hwsn.out.2
          have KPE : Blk WE pb #[.slice ea_us en_us ec_us, .string m, .string ⟨#[]⟩] 31 := by rw [hWE]; have h := ((((Blk.setAt (Blk.setAt (Blk.setAt K_pr.out 0 (.slice ea_us en_us ec_us)) 1 (.string m)) 2 (.string ⟨#[]⟩)).other 0 hnpf (.int .i64 0)).other 1 hnpf (.int .i64 0))); simpa using h
          have KFE : Blk WE fb #[.int .i64 0, .int .i64 0] 25 := by rw [hWE]; have h := Blk.setAt (Blk.setAt (((K_ft.out.other 0 hnfp (.slice ea_us en_us ec_us)).other 1 hnfp (.string m)).other 2 hnfp (.string ⟨#[]⟩)) 0 (.int .i64 0)) 1 (.int .i64 0); simpa using h
          have z0 : WE.cell? ⟨pb, 0, none⟩ = some (.slice ea_us en_us ec_us) := Blk.c KPE rfl
          have z1 : WE.cell? ⟨pb, 1, none⟩ = some (.string m) := Blk.c KPE rfl
          have z2 : WE.cell? ⟨pb, 2, none⟩ = some (.string ⟨#[]⟩) := Blk.c KPE rfl
          have y0 : WE.cell? ⟨fb, 0, none⟩ = some (.int .i64 0) := Blk.c KFE rfl
          have y1 : WE.cell? ⟨fb, 1, none⟩ = some (.int .i64 0) := Blk.c KFE rfl
          rw [← hWE]
          refine bodyPost_ret (v := .tuple #[.agg #[.slice ea_us en_us ec_us, .string m, .string ⟨#[]⟩], .agg #[.int .i64 0, .int .i64 0]]) (by simp [results, Tryz.results10, go_sem, z0, z1, z2, y0, y1]) rfl ?_
          rw [HRO.out]
          exact ⟨BE, _, _, _, rfl, (V_us.out.stays kpE (by decide) (PUn.stays (by decide) (by decide) (by decide) (by decide) (by decide))).lower hwsn.out.1 PUn.lowers⟩
        · have hce : s7.c ≠ 0 := hc0
          have HRE : Hid (r = .error (s7.c, s7.p)) := by have h := HPC.out.2 (by rw [S_sE2]; exact hce); rw [S_sE2] at h; exact h
          have HCE := Lib.hid hce
          clear S_sE2
          have hok_ := pok_any s7 w7 R.out
          rw [decide_eq_false hce] at hok_
          clear hce
          go_wp2_with fail
          refine hok_.mono ?_
          rintro e w_ ⟨rfl, rfl⟩
          clear hok_
          obtain ⟨d0, d1, d2, d3⟩ := R.out.cells
          have p0 : w_.cell? ⟨pb, 0, none⟩ = some (.slice none 0 0) := Blk.c K_pr.out rfl
          have pf0 : w_.frozen? ⟨pb, 0, none⟩ = false := Blk.z K_pr.out rfl
          have p1 : w_.cell? ⟨pb, 1, none⟩ = some (.string ⟨#[]⟩) := Blk.c K_pr.out rfl
          have pf1 : w_.frozen? ⟨pb, 1, none⟩ = false := Blk.z K_pr.out rfl
          have p2 : w_.cell? ⟨pb, 2, none⟩ = some (.string ⟨#[]⟩) := Blk.c K_pr.out rfl
          have pf2 : w_.frozen? ⟨pb, 2, none⟩ = false := Blk.z K_pr.out rfl
          have t0 : w_.cell? ⟨fb, 0, none⟩ = some (.int .i64 0) := Blk.c K_ft.out rfl
          have tf0 : w_.frozen? ⟨fb, 0, none⟩ = false := Blk.z K_ft.out rfl
          have t1 : w_.cell? ⟨fb, 1, none⟩ = some (.int .i64 0) := Blk.c K_ft.out rfl
          have tf1 : w_.frozen? ⟨fb, 1, none⟩ = false := Blk.z K_ft.out rfl
          have hnpr : pb ≠ rb := by omega
          have hnfr : fb ≠ rb := by omega
          have hnpf : pb ≠ fb := by omega
          have hnfp : fb ≠ pb := by omega
          have hnrp : rb ≠ pb := by omega
          have hnrf : rb ≠ fb := by omega
          have HBE : Hid (Below wS.heap.size wS w_) := A.out.keeps HBL.out HBL.out.size hwsn.out.2
          go_wp2_with fail
          go_region
          all_goals
            go_wp2_with fail
            refine bodyPost_ret (v := .tuple #[.agg #[.slice none 0 0, .string ⟨#[]⟩, .string ⟨#[]⟩], .agg #[.int .i64 (s7.c), .int .i64 (s7.p)]]) (by simp [results, Tryz.results10, go_sem, p0, p1, p2, t0, t1]) rfl ?_
            refine ⟨?_, ?_⟩
            · repeat (first | (refine Below.drew ?_) | (refine Below.setCell ?_ (by first | exact hpl.out | exact hfl.out) _))
              exact (by first | exact HBE.out.drew | exact HBE.out)
            · rw [HRE.out]; exact ⟨HCE.out, rfl⟩
  · have HRE : Hid (r = .error ((c : Int), ((s.size - m : Nat) : Int))) := by show _ = _; have h := HRS.out; unfold PgS at h; rw [hl] at h; exact h
    have hc' : (c : Int) ≠ 0 := by omega
    have e0 : ((c : Int) != 0) = true := by simp [hc]
    obtain ⟨pm, hpm⟩ : ∃ pm, pm = s.size - m := ⟨_, rfl⟩
    rw [← hpm] at HRE ⊢
    have HC' := Lib.hid hc'
    clear hpm hl hc hc'
    go_upto_region 2 with fail
    refine wp_letW ?_
    intro V hV
    have bv : Below w1.heap.size w1 V := by rw [hV]; exact (Below.refl _ _).alloc (Nat.le_refl _) _
    have KL : Blk V w1.heap.size #[.int .i64 c, .int .i64 pm] 25 := by rw [hV]; exact Blk.new w1 _ _
    have HBV : Hid (Below wS.heap.size wS V) := below_next HBL1.out bv
    obtain ⟨l0, l1, -, -⟩ := two_c KL
    have K_pr := HKP1.out.below bv
    have K_ft := HKF1.out.below bv
    have hnl : fb < w1.heap.size := HKF1.out.lt
    have p0 : V.cell? ⟨pb, 0, none⟩ = some (.slice none 0 0) := Blk.c K_pr rfl
    have pf0 : V.frozen? ⟨pb, 0, none⟩ = false := Blk.z K_pr rfl
    have p1 : V.cell? ⟨pb, 1, none⟩ = some (.string ⟨#[]⟩) := Blk.c K_pr rfl
    have pf1 : V.frozen? ⟨pb, 1, none⟩ = false := Blk.z K_pr rfl
    have p2 : V.cell? ⟨pb, 2, none⟩ = some (.string ⟨#[]⟩) := Blk.c K_pr rfl
    have pf2 : V.frozen? ⟨pb, 2, none⟩ = false := Blk.z K_pr rfl
    have t0 : V.cell? ⟨fb, 0, none⟩ = some (.int .i64 0) := Blk.c K_ft rfl
    have tf0 : V.frozen? ⟨fb, 0, none⟩ = false := Blk.z K_ft rfl
    have t1 : V.cell? ⟨fb, 1, none⟩ = some (.int .i64 0) := Blk.c K_ft rfl
    have tf1 : V.frozen? ⟨fb, 1, none⟩ = false := Blk.z K_ft rfl
    have hnpf : pb ≠ fb := by omega
    have hnfp : fb ≠ pb := by omega
    have hnpl : pb ≠ w1.heap.size := by omega
    have hnfl : fb ≠ w1.heap.size := by omega
    have hnlp : w1.heap.size ≠ pb := by omega
    have hnlf : w1.heap.size ≠ fb := by omega
    clear hV bv KL K_pr K_ft
    go_wp2_with fail
    go_region
    all_goals
      go_wp2_with fail
      refine bodyPost_ret (v := .tuple #[.agg #[.slice none 0 0, .string ⟨#[]⟩, .string ⟨#[]⟩], .agg #[.int .i64 (c), .int .i64 (pm)]]) (by simp [results, Tryz.results10, go_sem, p0, p1, p2, t0, t1]) rfl ?_
      refine ⟨?_, ?_⟩
      · repeat (first | (refine Below.drew ?_) | (refine Below.setCell ?_ (by first | exact hpl.out | exact hfl.out) _))
        exact (by first | exact HBV.out.drew | exact HBV.out)
      · rw [HRE.out]; exact ⟨HC'.out, rfl⟩
end
end Go.Proofs.YtahalimekacliaaGreatDoor
