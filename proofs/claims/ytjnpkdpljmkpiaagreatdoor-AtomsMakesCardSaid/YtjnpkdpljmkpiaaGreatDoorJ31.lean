/- The reference's reader of expressions: the level of or: the walk. The reference's reader of expressions: the level of sum: the walk. The reference's reader of expressions: an operand, each level: the walk. The value of an expression over atoms, as the program finds it: the walk. How an expression over atoms is reckoned of functions: what a round keeps. -/
import Derived.Test.YtjnpkdpljmkpiaaGreatDoorJ19
import Derived.Test.YtjnpkdpljmkpiaaGreatDoorJ22
import Derived.Test.YtjnpkdpljmkpiaaGreatDoorJ24
import Derived.Test.YtjnpkdpljmkpiaaGreatDoorJ29
import Derived.Test.YtjnpkdpljmkpiaaGreatDoorJ30
namespace Go.Proofs.YtjnpkdpljmkpiaaGreatDoor
open Go.RowKit Go.Shelf Tx Px
section
variable {L : List Tok} {a : Option Addr} {cc rb : Nat} {w0 : World}
set_option maxRecDepth 100000 in
set_option maxHeartbeats 4000000 in
theorem r4or_any (EV : Hid (EnvOk w0 rb a cc L)) (f : Nat) (IH : Hid (∀ g, g < f → LvOk w0 rb a cc L g)) (I o : Nat) (r : Res) (w : World) (hI : I ≤ L.length) (hP : P L f (.bin 3) I o = some r) (hB : Al rb w0 w) (hR : Rd rb (.slice a L.length cc) w I o 0 0) :
    Calls Tryz.prog 143 #[.pointer (some ⟨rb, 0, none⟩)] w (RPost (Rd rb (.slice a L.length cc)) rb o w r) := by
  obtain ⟨g, rfl, hcs⟩ := bin_cases (by omega) hP
  have hL := EV.out.len
  have hlt := hR.lt
  obtain ⟨nb, hnb⟩ : ∃ nb, nb = w.heap.size := ⟨_, rfl⟩
  have HNB := Lib.hid hnb
  have HB := Lib.hid hB
  rw [← hnb] at hlt
  have h1 : ∀ r1, P L g (.bin 4) I o = some r1 → _ := fun r1 h => IH.out g (by omega) 4 I o r1 w (by omega) hI h hB hR
  have H1 : Hid (∀ r1, P L g (.bin 4) I o = some r1 → _) := h1
  have HC := Lib.hid hcs
  clear hP hcs h1 hB hR hnb
  obtain ⟨r1, hr1⟩ : ∃ r1, P L g (.bin 4) I o = some r1 := by
    rcases HC.out with ⟨e, h, _⟩ | ⟨a, i, h, _⟩
    · exact ⟨_, h⟩
    · exact ⟨_, h⟩
  have HR1 := Lib.hid hr1
  clear hr1
  go_enter Tryz.func143, Tryz.ntmps143
  go_wp2_with fail
  refine (H1.out r1 HR1.out).mono ?_
  rintro e w1 ⟨hA, hpost⟩
  have HLP : Hid (∃ av, e = .returned av ∧ (∃ x n k, av = .slice x n k) ∧ LpR (Rd rb (.slice a L.length cc)) L rb nb o w 3 (g + 1) r av w1) := by
    rcases HC.out with ⟨⟨c, p⟩, h, h2⟩ | ⟨F, i, h, h2⟩
    · have h3 := HR1.out.symm.trans h
      cases h3
      obtain ⟨x, n, k, i, h4, h5, h6, h7⟩ := hpost
      exact ⟨_, h4, ⟨_, _, _, rfl⟩, hA, Or.inr ⟨c, p, x, n, k, i, h2, h5, h6, h7, rfl⟩⟩
    · have h3 := HR1.out.symm.trans h
      cases h3
      obtain ⟨F', v, h4, h5, h6, h7⟩ := hpost
      cases h4
      obtain ⟨g1, g2, g3, g4⟩ := (P_ok EV.out.ok g).bin hI h
      obtain ⟨va, vc, hv, -⟩ := h6.form
      exact ⟨v, h5, ⟨_, _, _, hv⟩, hA, Or.inl ⟨F, i, g, by omega, by rw [HNB.out]; exact h6, g1, by omega, g3, h7, h2⟩⟩
  obtain ⟨av, rfl, ⟨ax, an, ak, rfl⟩, hlp⟩ := HLP.out
  have HLP2 := Lib.hid hlp
  clear HLP hlp hpost hA H1 HR1 HC
  go_wp2_with fail
  go_loopw [3] (fun av wr => LpR (Rd rb (.slice a L.length cc)) L rb nb o w 3 (g + 1) r av wr) (fun _ wr => mR rb 1 3 L.length wr)
  case atStart => exact HLP2.out
  case round =>
    obtain ⟨hA, ⟨F, i, g2, hg2, hO, hG, hF, hi, hR, hP⟩ | ⟨c, p, x, n, k, i, hr, hc, hi, hR, rfl⟩⟩ := hrel
    · have hBr : Al rb w0 wr := HB.out.next hA
      obtain ⟨va, vc, rfl, -⟩ := hO.form
      have hfr := mR_ok (N := L.length) hR.cells.2.1 hR.cells.2.2.2.1
      have HM := Lib.hid hfr
      rcases loop_cases hP with ⟨hn, rfl⟩ | ⟨g3, s, op, sw, rfl, hs, hop, hrest⟩
      · have HE : Hid (∀ w2, Below wr.heap.size wr w2 → RPost (Rd rb (.slice a L.length cc)) rb o w (.ok ([F], i)) (.returned (.slice va (F.flat 0).length vc)) w2) := fun w2 hb => rpost_ok (hA.then hb) (by rw [← HNB.out]; exact hO.below hb) (hR.below hb)
        have HR0 := Lib.hid hR
        have HB0 : Hid (Al rb w0 wr) := hBr
        have HBL0 : Hid (Below wr.heap.size wr wr) := Below.refl _ _
        have hno0 : Hid (isT L i ⟨#[111, 114]⟩ = false ∨ (0 : Int) ≠ 0) := Or.inl (isT_none hn (by decide))
        have hno1 : Hid (isT L i ⟨#[120, 111, 114]⟩ = false ∨ (0 : Int) ≠ 0) := Or.inl (isT_none hn (by decide))
        clear hP hn hBr hA hO hG hF hR hfr
        have hc0 := r4is_no EV i (by omega) o 0 0 ⟨#[111, 114]⟩ hno0.out wr HB0.out HR0.out
        go_wp2_with fail
        refine hc0.mono ?_
        rintro r2 w2 ⟨rfl, hb⟩
        have HR1 := Lib.hid (HR0.out.below hb)
        have HB1 := Lib.hid (HB0.out.then hb)
        have HBL1 := Lib.hid (below_next HBL0.out hb)
        clear hc0 hb HR0 HB0 HBL0
        have hc1 := r4is_no EV i (by omega) o 0 0 ⟨#[120, 111, 114]⟩ hno1.out w2 HB1.out HR1.out
        go_wp2_with fail
        refine hc1.mono ?_
        rintro r2 w3 ⟨rfl, hb⟩
        have HR2 := Lib.hid (HR1.out.below hb)
        have HB2 := Lib.hid (HB1.out.then hb)
        have HBL2 := Lib.hid (below_next HBL1.out hb)
        clear hc1 hb HR1 HB1 HBL1
        go_wp2_with fail
        go_ret
        exact HE.out w3 HBL2.out
      · have hil : i < L.length := hereT_lt hs
        have hso : (s = ⟨#[111, 114]⟩ ∧ op = 7 ∧ sw = false) ∨ (s = ⟨#[120, 111, 114]⟩ ∧ op = 8 ∧ sw = false) := by
          unfold Px.opAt at hop
          simp only at hop
          repeat' (split at hop)
          all_goals first | (cases hop; done) | (rename_i e; cases hop; rw [e]; simp [bs])
        have HO := Lib.hid hO
        have HG := Lib.hid hG
        have HA := Lib.hid hA
        have HR0 := Lib.hid hR
        have HBR := Lib.hid hBr
        have HBL0 : Hid (Below wr.heap.size wr wr) := Below.refl _ _
        have HRS := Lib.hid hrest
        have hrw : nb ≤ wr.heap.size := by rw [HNB.out]; exact hA.size
        clear hP hop hBr hA hO hG hR hfr hrest
        rcases hso with ⟨rfl, rfl, rfl⟩ | ⟨rfl, rfl, rfl⟩
        · have HS := Lib.hid hs
          clear hs
          have hc := r4is_yes EV i (by omega) o 0 ⟨#[111, 114]⟩ (by rw [isT_some HS.out]; simp) wr (HBR.out.then HBL0.out) (HR0.out.below HBL0.out)
          go_wp2_with fail
          refine hc.mono ?_
          rintro r2 v1 ⟨rfl, hb⟩
          have HBL1 := Lib.hid (below_next HBL0.out hb)
          clear hc hb HBL0
          have hc := r4is_no EV i (by omega) o 0 0 ⟨#[120, 111, 114]⟩ (Or.inl (by rw [isT_some HS.out]; decide)) v1 (HBR.out.then HBL1.out) (HR0.out.below HBL1.out)
          go_wp2_with fail
          refine hc.mono ?_
          rintro r2 v2 ⟨rfl, hb⟩
          have HBL2 := Lib.hid (below_next HBL1.out hb)
          clear hc hb HBL1
          have hR9 := HR0.out.below HBL2.out
          obtain ⟨c0, c1, c2, c3, c4⟩ := hR9.cells
          obtain ⟨f0, f1, f2, f3, f4⟩ := hR9.free
          have HR9 := Lib.hid (hR9.setI ((i : Int) + 1))
          have HA9 : Hid (Al rb wr (v2.setCell ⟨rb, 1, none⟩ (.int .i64 ((i : Int) + 1)))) := (Al.of HBL2.out).set _ _
          clear hR9 HBL2
          obtain ⟨r3, hr3⟩ : ∃ r3, P L g3 (.bin 4) (i + 1) o = some r3 := by
            rcases HRS.out with ⟨e, h, _⟩ | ⟨a, i, h, _⟩
            · exact ⟨_, h⟩
            · exact ⟨_, h⟩
          have HR3 := Lib.hid hr3
          clear hr3
          go_wp2_with fail
          generalize v2.setCell ⟨rb, 1, none⟩ (.int .i64 ((i : Int) + 1)) = w2 at *
          have hA2 := HA9.out
          have hcall := IH.out g3 (by omega) 4 (i + 1) o r3 w2 (by omega) (by omega) HR3.out (HBR.out.next hA2) (by simpa using HR9.out)
          have HA2 : Hid (Al rb w w2) := HA.out.next hA2
          have HO2 : Hid (OwnE nb w2 (.slice va (F.flat 0).length vc) (F.flat 0)) := hA2.ownE HO.out hlt
          have hrw2 : nb ≤ w2.heap.size := by have := hA2.size; omega
          clear hA2 HA9 HR9 HA HO HBR hrw c0 c1 c2 c3 c4 f0 f1 f2 f3 f4
          refine hcall.mono ?_
          rintro e w3 ⟨hA3, hpost⟩
          have HA3 : Hid (Al rb w w3) := HA2.out.next hA3
          have HO3 := Lib.hid (hA3.ownE HO2.out hlt)
          have hrw3 : nb ≤ w3.heap.size := by have := hA3.size; omega
          clear hcall hA3
          match r3, hpost with
          | .error (c, p), ⟨y, yn, yk, i3, he, hc, hi3, hR3⟩ =>
            subst he
            have hj := r4join_no i3 o c p 7 hc _ (.slice va (F.flat 0).length vc) (.slice y yn yk) w3 hR3
            have HRE : Hid (r = .error (c, p)) := by
              rcases HRS.out with ⟨e, h, h2⟩ | ⟨a, i, h, _⟩
              · have h3 := HR3.out.symm.trans h; cases h3; exact h2
              · have h3 := HR3.out.symm.trans h; cases h3
            have HR4 := Lib.hid hR3
            clear hR3
            go_wp2_with fail
            refine hj.mono ?_
            rintro r4 w4 ⟨rfl, rfl⟩
            clear hj
            go_wp2_with fail
            go_roundw
            case rel => exact ⟨HA3.out, Or.inr ⟨c, p, none, 0, 0, i3, HRE.out, hc, hi3, HR4.out, rfl⟩⟩
            case measure => rw [HM.out, mR_err HR4.out.cells.2.2.2.1 hc]; omega
          | .ok (l, j), ⟨G, v, hl, he, hO4, hR4⟩ =>
            subst hl he
            obtain ⟨g1, g2, g3', g4⟩ := (P_ok EV.out.ok g3).bin (by omega) HR3.out
            obtain ⟨ya, yc, rfl, -⟩ := hO4.form
            have hj := r4join_ok j o 0 _ 7 F G (.slice va (F.flat 0).length vc) (.slice ya (G.flat 0).length yc) w3 hR4 HO3.out.isE hO4.isE HG.out.one g1.one (by omega) (by omega)
            have HRE : Hid (P L g3 (.loop 3 (both 7 false F G)) j o = some r) := by
              rcases HRS.out with ⟨e, h, h2⟩ | ⟨a, i, h, h2⟩
              · have h3 := HR3.out.symm.trans h; cases h3
              · have h3 := HR3.out.symm.trans h; cases h3
                rcases h2 with ⟨h2, _⟩ | ⟨_, h2⟩
                · omega
                · exact h2
            have HR5 := Lib.hid hR4
            have HGG := Lib.hid g1
            clear hR4 hO4 g1
            go_wp2_with fail
            refine hj.mono ?_
            rintro r4 w4 ⟨v4, rfl, ho, hb⟩
            have HR6 := Lib.hid (HR5.out.below hb)
            have HA6 := Lib.hid (HA3.out.then hb)
            have HO6 := Lib.hid (ho.mono hrw3)
            have hv := both_size 7 false F G
            have HV := Lib.hid hv
            clear hj ho hb hv
            go_wp2_with fail
            go_roundw
            case rel => exact ⟨HA6.out, Or.inl ⟨both 7 false F G, j, g3, by omega, HO6.out, both_good (by omega) HG.out HGG.out, by rw [HV.out]; omega, g3', HR6.out, HRE.out⟩⟩
            case measure => rw [HM.out, mR_ok HR6.out.cells.2.1 HR6.out.cells.2.2.2.1]; omega
        · have HS := Lib.hid hs
          clear hs
          have hc := r4is_no EV i (by omega) o 0 0 ⟨#[111, 114]⟩ (Or.inl (by rw [isT_some HS.out]; decide)) wr (HBR.out.then HBL0.out) (HR0.out.below HBL0.out)
          go_wp2_with fail
          refine hc.mono ?_
          rintro r2 v1 ⟨rfl, hb⟩
          have HBL1 := Lib.hid (below_next HBL0.out hb)
          clear hc hb HBL0
          have hc := r4is_yes EV i (by omega) o 0 ⟨#[120, 111, 114]⟩ (by rw [isT_some HS.out]; simp) v1 (HBR.out.then HBL1.out) (HR0.out.below HBL1.out)
          go_wp2_with fail
          refine hc.mono ?_
          rintro r2 v2 ⟨rfl, hb⟩
          have HBL2 := Lib.hid (below_next HBL1.out hb)
          clear hc hb HBL1
          have hc := r4is_yes EV i (by omega) o 0 ⟨#[120, 111, 114]⟩ (by rw [isT_some HS.out]; simp) v2 (HBR.out.then HBL2.out) (HR0.out.below HBL2.out)
          go_wp2_with fail
          refine hc.mono ?_
          rintro r2 v3 ⟨rfl, hb⟩
          have HBL3 := Lib.hid (below_next HBL2.out hb)
          clear hc hb HBL2
          have hR9 := HR0.out.below HBL3.out
          obtain ⟨c0, c1, c2, c3, c4⟩ := hR9.cells
          obtain ⟨f0, f1, f2, f3, f4⟩ := hR9.free
          have HR9 := Lib.hid (hR9.setI ((i : Int) + 1))
          have HA9 : Hid (Al rb wr (v3.setCell ⟨rb, 1, none⟩ (.int .i64 ((i : Int) + 1)))) := (Al.of HBL3.out).set _ _
          clear hR9 HBL3
          obtain ⟨r3, hr3⟩ : ∃ r3, P L g3 (.bin 4) (i + 1) o = some r3 := by
            rcases HRS.out with ⟨e, h, _⟩ | ⟨a, i, h, _⟩
            · exact ⟨_, h⟩
            · exact ⟨_, h⟩
          have HR3 := Lib.hid hr3
          clear hr3
          go_wp2_with fail
          generalize v3.setCell ⟨rb, 1, none⟩ (.int .i64 ((i : Int) + 1)) = w2 at *
          have hA2 := HA9.out
          have hcall := IH.out g3 (by omega) 4 (i + 1) o r3 w2 (by omega) (by omega) HR3.out (HBR.out.next hA2) (by simpa using HR9.out)
          have HA2 : Hid (Al rb w w2) := HA.out.next hA2
          have HO2 : Hid (OwnE nb w2 (.slice va (F.flat 0).length vc) (F.flat 0)) := hA2.ownE HO.out hlt
          have hrw2 : nb ≤ w2.heap.size := by have := hA2.size; omega
          clear hA2 HA9 HR9 HA HO HBR hrw c0 c1 c2 c3 c4 f0 f1 f2 f3 f4
          refine hcall.mono ?_
          rintro e w3 ⟨hA3, hpost⟩
          have HA3 : Hid (Al rb w w3) := HA2.out.next hA3
          have HO3 := Lib.hid (hA3.ownE HO2.out hlt)
          have hrw3 : nb ≤ w3.heap.size := by have := hA3.size; omega
          clear hcall hA3
          match r3, hpost with
          | .error (c, p), ⟨y, yn, yk, i3, he, hc, hi3, hR3⟩ =>
            subst he
            have hj := r4join_no i3 o c p 8 hc _ (.slice va (F.flat 0).length vc) (.slice y yn yk) w3 hR3
            have HRE : Hid (r = .error (c, p)) := by
              rcases HRS.out with ⟨e, h, h2⟩ | ⟨a, i, h, _⟩
              · have h3 := HR3.out.symm.trans h; cases h3; exact h2
              · have h3 := HR3.out.symm.trans h; cases h3
            have HR4 := Lib.hid hR3
            clear hR3
            go_wp2_with fail
            refine hj.mono ?_
            rintro r4 w4 ⟨rfl, rfl⟩
            clear hj
            go_wp2_with fail
            go_roundw
            case rel => exact ⟨HA3.out, Or.inr ⟨c, p, none, 0, 0, i3, HRE.out, hc, hi3, HR4.out, rfl⟩⟩
            case measure => rw [HM.out, mR_err HR4.out.cells.2.2.2.1 hc]; omega
          | .ok (l, j), ⟨G, v, hl, he, hO4, hR4⟩ =>
            subst hl he
            obtain ⟨g1, g2, g3', g4⟩ := (P_ok EV.out.ok g3).bin (by omega) HR3.out
            obtain ⟨ya, yc, rfl, -⟩ := hO4.form
            have hj := r4join_ok j o 0 _ 8 F G (.slice va (F.flat 0).length vc) (.slice ya (G.flat 0).length yc) w3 hR4 HO3.out.isE hO4.isE HG.out.one g1.one (by omega) (by omega)
            have HRE : Hid (P L g3 (.loop 3 (both 8 false F G)) j o = some r) := by
              rcases HRS.out with ⟨e, h, h2⟩ | ⟨a, i, h, h2⟩
              · have h3 := HR3.out.symm.trans h; cases h3
              · have h3 := HR3.out.symm.trans h; cases h3
                rcases h2 with ⟨h2, _⟩ | ⟨_, h2⟩
                · omega
                · exact h2
            have HR5 := Lib.hid hR4
            have HGG := Lib.hid g1
            clear hR4 hO4 g1
            go_wp2_with fail
            refine hj.mono ?_
            rintro r4 w4 ⟨v4, rfl, ho, hb⟩
            have HR6 := Lib.hid (HR5.out.below hb)
            have HA6 := Lib.hid (HA3.out.then hb)
            have HO6 := Lib.hid (ho.mono hrw3)
            have hv := both_size 8 false F G
            have HV := Lib.hid hv
            clear hj ho hb hv
            go_wp2_with fail
            go_roundw
            case rel => exact ⟨HA6.out, Or.inl ⟨both 8 false F G, j, g3, by omega, HO6.out, both_good (by omega) HG.out HGG.out, by rw [HV.out]; omega, g3', HR6.out, HRE.out⟩⟩
            case measure => rw [HM.out, mR_ok HR6.out.cells.2.1 HR6.out.cells.2.2.2.1]; omega
    · have HE : Hid (∀ w2, Below wr.heap.size wr w2 → RPost (Rd rb (.slice a L.length cc)) rb o w r (.returned (.slice x n k)) w2) := fun w2 hb => by rw [hr]; exact rpost_err (hA.then hb) hc hi (hR.below hb)
      have HR0 := Lib.hid hR
      have HB0 : Hid (Al rb w0 wr) := HB.out.next hA
      have HBL0 : Hid (Below wr.heap.size wr wr) := Below.refl _ _
      have hno0 : Hid (isT L i ⟨#[111, 114]⟩ = false ∨ c ≠ 0) := Or.inr hc
      have hno1 : Hid (isT L i ⟨#[120, 111, 114]⟩ = false ∨ c ≠ 0) := Or.inr hc
      clear hA hR hr hc
      have hc0 := r4is_no EV i (by omega) o c p ⟨#[111, 114]⟩ hno0.out wr HB0.out HR0.out
      go_wp2_with fail
      refine hc0.mono ?_
      rintro r2 w2 ⟨rfl, hb⟩
      have HR1 := Lib.hid (HR0.out.below hb)
      have HB1 := Lib.hid (HB0.out.then hb)
      have HBL1 := Lib.hid (below_next HBL0.out hb)
      clear hc0 hb HR0 HB0 HBL0
      have hc1 := r4is_no EV i (by omega) o c p ⟨#[120, 111, 114]⟩ hno1.out w2 HB1.out HR1.out
      go_wp2_with fail
      refine hc1.mono ?_
      rintro r2 w3 ⟨rfl, hb⟩
      have HR2 := Lib.hid (HR1.out.below hb)
      have HB2 := Lib.hid (HB1.out.then hb)
      have HBL2 := Lib.hid (below_next HBL1.out hb)
      clear hc1 hb HR1 HB1 HBL1
      go_wp2_with fail
      go_ret
      exact HE.out w3 HBL2.out
end
end Go.Proofs.YtjnpkdpljmkpiaaGreatDoor
namespace Go.Proofs.YtjnpkdpljmkpiaaGreatDoor
open Go.RowKit Go.Shelf Tx Px
section
variable {L : List Tok} {a : Option Addr} {cc rb : Nat} {w0 : World}
set_option maxRecDepth 100000 in
set_option maxHeartbeats 4000000 in
theorem r4sum_any (EV : Hid (EnvOk w0 rb a cc L)) (f : Nat) (IH : Hid (∀ g, g < f → LvOk w0 rb a cc L g)) (I o : Nat) (r : Res) (w : World) (hI : I ≤ L.length) (hP : P L f (.bin 6) I o = some r) (hB : Al rb w0 w) (hR : Rd rb (.slice a L.length cc) w I o 0 0) :
    Calls Tryz.prog 155 #[.pointer (some ⟨rb, 0, none⟩)] w (RPost (Rd rb (.slice a L.length cc)) rb o w r) := by
  obtain ⟨g, rfl, hcs⟩ := bin_cases (by omega) hP
  have hL := EV.out.len
  have hlt := hR.lt
  obtain ⟨nb, hnb⟩ : ∃ nb, nb = w.heap.size := ⟨_, rfl⟩
  have HNB := Lib.hid hnb
  have HB := Lib.hid hB
  rw [← hnb] at hlt
  have h1 : ∀ r1, P L g (.bin 7) I o = some r1 → _ := fun r1 h => IH.out g (by omega) 7 I o r1 w (by omega) hI h hB hR
  have H1 : Hid (∀ r1, P L g (.bin 7) I o = some r1 → _) := h1
  have HC := Lib.hid hcs
  clear hP hcs h1 hB hR hnb
  obtain ⟨r1, hr1⟩ : ∃ r1, P L g (.bin 7) I o = some r1 := by
    rcases HC.out with ⟨e, h, _⟩ | ⟨a, i, h, _⟩
    · exact ⟨_, h⟩
    · exact ⟨_, h⟩
  have HR1 := Lib.hid hr1
  clear hr1
  go_enter Tryz.func155, Tryz.ntmps155
  go_wp2_with fail
  refine (H1.out r1 HR1.out).mono ?_
  rintro e w1 ⟨hA, hpost⟩
  have HLP : Hid (∃ av, e = .returned av ∧ (∃ x n k, av = .slice x n k) ∧ LpR (Rd rb (.slice a L.length cc)) L rb nb o w 6 (g + 1) r av w1) := by
    rcases HC.out with ⟨⟨c, p⟩, h, h2⟩ | ⟨F, i, h, h2⟩
    · have h3 := HR1.out.symm.trans h
      cases h3
      obtain ⟨x, n, k, i, h4, h5, h6, h7⟩ := hpost
      exact ⟨_, h4, ⟨_, _, _, rfl⟩, hA, Or.inr ⟨c, p, x, n, k, i, h2, h5, h6, h7, rfl⟩⟩
    · have h3 := HR1.out.symm.trans h
      cases h3
      obtain ⟨F', v, h4, h5, h6, h7⟩ := hpost
      cases h4
      obtain ⟨g1, g2, g3, g4⟩ := (P_ok EV.out.ok g).bin hI h
      obtain ⟨va, vc, hv, -⟩ := h6.form
      exact ⟨v, h5, ⟨_, _, _, hv⟩, hA, Or.inl ⟨F, i, g, by omega, by rw [HNB.out]; exact h6, g1, by omega, g3, h7, h2⟩⟩
  obtain ⟨av, rfl, ⟨ax, an, ak, rfl⟩, hlp⟩ := HLP.out
  have HLP2 := Lib.hid hlp
  clear HLP hlp hpost hA H1 HR1 HC
  go_wp2_with fail
  go_loopw [3] (fun av wr => LpR (Rd rb (.slice a L.length cc)) L rb nb o w 6 (g + 1) r av wr) (fun _ wr => mR rb 1 3 L.length wr)
  case atStart => exact HLP2.out
  case round =>
    obtain ⟨hA, ⟨F, i, g2, hg2, hO, hG, hF, hi, hR, hP⟩ | ⟨c, p, x, n, k, i, hr, hc, hi, hR, rfl⟩⟩ := hrel
    · have hBr : Al rb w0 wr := HB.out.next hA
      obtain ⟨va, vc, rfl, -⟩ := hO.form
      have hfr := mR_ok (N := L.length) hR.cells.2.1 hR.cells.2.2.2.1
      have HM := Lib.hid hfr
      rcases loop_cases hP with ⟨hn, rfl⟩ | ⟨g3, s, op, sw, rfl, hs, hop, hrest⟩
      · have HE : Hid (∀ w2, Below wr.heap.size wr w2 → RPost (Rd rb (.slice a L.length cc)) rb o w (.ok ([F], i)) (.returned (.slice va (F.flat 0).length vc)) w2) := fun w2 hb => rpost_ok (hA.then hb) (by rw [← HNB.out]; exact hO.below hb) (hR.below hb)
        have HR0 := Lib.hid hR
        have HB0 : Hid (Al rb w0 wr) := hBr
        have HBL0 : Hid (Below wr.heap.size wr wr) := Below.refl _ _
        have hno0 : Hid (isT L i ⟨#[43]⟩ = false ∨ (0 : Int) ≠ 0) := Or.inl (isT_none hn (by decide))
        have hno1 : Hid (isT L i ⟨#[45]⟩ = false ∨ (0 : Int) ≠ 0) := Or.inl (isT_none hn (by decide))
        clear hP hn hBr hA hO hG hF hR hfr
        have hc0 := r4is_no EV i (by omega) o 0 0 ⟨#[43]⟩ hno0.out wr HB0.out HR0.out
        go_wp2_with fail
        refine hc0.mono ?_
        rintro r2 w2 ⟨rfl, hb⟩
        have HR1 := Lib.hid (HR0.out.below hb)
        have HB1 := Lib.hid (HB0.out.then hb)
        have HBL1 := Lib.hid (below_next HBL0.out hb)
        clear hc0 hb HR0 HB0 HBL0
        have hc1 := r4is_no EV i (by omega) o 0 0 ⟨#[45]⟩ hno1.out w2 HB1.out HR1.out
        go_wp2_with fail
        refine hc1.mono ?_
        rintro r2 w3 ⟨rfl, hb⟩
        have HR2 := Lib.hid (HR1.out.below hb)
        have HB2 := Lib.hid (HB1.out.then hb)
        have HBL2 := Lib.hid (below_next HBL1.out hb)
        clear hc1 hb HR1 HB1 HBL1
        go_wp2_with fail
        go_ret
        exact HE.out w3 HBL2.out
      · have hil : i < L.length := hereT_lt hs
        have hso : (s = ⟨#[43]⟩ ∧ op = 14 ∧ sw = false) ∨ (s = ⟨#[45]⟩ ∧ op = 15 ∧ sw = false) := by
          unfold Px.opAt at hop
          simp only at hop
          repeat' (split at hop)
          all_goals first | (cases hop; done) | (rename_i e; cases hop; rw [e]; simp [bs])
        have HO := Lib.hid hO
        have HG := Lib.hid hG
        have HA := Lib.hid hA
        have HR0 := Lib.hid hR
        have HBR := Lib.hid hBr
        have HBL0 : Hid (Below wr.heap.size wr wr) := Below.refl _ _
        have HRS := Lib.hid hrest
        have hrw : nb ≤ wr.heap.size := by rw [HNB.out]; exact hA.size
        clear hP hop hBr hA hO hG hR hfr hrest
        rcases hso with ⟨rfl, rfl, rfl⟩ | ⟨rfl, rfl, rfl⟩
        · have HS := Lib.hid hs
          clear hs
          have hc := r4is_yes EV i (by omega) o 0 ⟨#[43]⟩ (by rw [isT_some HS.out]; simp) wr (HBR.out.then HBL0.out) (HR0.out.below HBL0.out)
          go_wp2_with fail
          refine hc.mono ?_
          rintro r2 v1 ⟨rfl, hb⟩
          have HBL1 := Lib.hid (below_next HBL0.out hb)
          clear hc hb HBL0
          have hc := r4is_no EV i (by omega) o 0 0 ⟨#[45]⟩ (Or.inl (by rw [isT_some HS.out]; decide)) v1 (HBR.out.then HBL1.out) (HR0.out.below HBL1.out)
          go_wp2_with fail
          refine hc.mono ?_
          rintro r2 v2 ⟨rfl, hb⟩
          have HBL2 := Lib.hid (below_next HBL1.out hb)
          clear hc hb HBL1
          have hR9 := HR0.out.below HBL2.out
          obtain ⟨c0, c1, c2, c3, c4⟩ := hR9.cells
          obtain ⟨f0, f1, f2, f3, f4⟩ := hR9.free
          have HR9 := Lib.hid (hR9.setI ((i : Int) + 1))
          have HA9 : Hid (Al rb wr (v2.setCell ⟨rb, 1, none⟩ (.int .i64 ((i : Int) + 1)))) := (Al.of HBL2.out).set _ _
          clear hR9 HBL2
          obtain ⟨r3, hr3⟩ : ∃ r3, P L g3 (.bin 7) (i + 1) o = some r3 := by
            rcases HRS.out with ⟨e, h, _⟩ | ⟨a, i, h, _⟩
            · exact ⟨_, h⟩
            · exact ⟨_, h⟩
          have HR3 := Lib.hid hr3
          clear hr3
          go_wp2_with fail
          generalize v2.setCell ⟨rb, 1, none⟩ (.int .i64 ((i : Int) + 1)) = w2 at *
          have hA2 := HA9.out
          have hcall := IH.out g3 (by omega) 7 (i + 1) o r3 w2 (by omega) (by omega) HR3.out (HBR.out.next hA2) (by simpa using HR9.out)
          have HA2 : Hid (Al rb w w2) := HA.out.next hA2
          have HO2 : Hid (OwnE nb w2 (.slice va (F.flat 0).length vc) (F.flat 0)) := hA2.ownE HO.out hlt
          have hrw2 : nb ≤ w2.heap.size := by have := hA2.size; omega
          clear hA2 HA9 HR9 HA HO HBR hrw c0 c1 c2 c3 c4 f0 f1 f2 f3 f4
          refine hcall.mono ?_
          rintro e w3 ⟨hA3, hpost⟩
          have HA3 : Hid (Al rb w w3) := HA2.out.next hA3
          have HO3 := Lib.hid (hA3.ownE HO2.out hlt)
          have hrw3 : nb ≤ w3.heap.size := by have := hA3.size; omega
          clear hcall hA3
          match r3, hpost with
          | .error (c, p), ⟨y, yn, yk, i3, he, hc, hi3, hR3⟩ =>
            subst he
            have hj := r4join_no i3 o c p 14 hc _ (.slice va (F.flat 0).length vc) (.slice y yn yk) w3 hR3
            have HRE : Hid (r = .error (c, p)) := by
              rcases HRS.out with ⟨e, h, h2⟩ | ⟨a, i, h, _⟩
              · have h3 := HR3.out.symm.trans h; cases h3; exact h2
              · have h3 := HR3.out.symm.trans h; cases h3
            have HR4 := Lib.hid hR3
            clear hR3
            go_wp2_with fail
            refine hj.mono ?_
            rintro r4 w4 ⟨rfl, rfl⟩
            clear hj
            go_wp2_with fail
            go_roundw
            case rel => exact ⟨HA3.out, Or.inr ⟨c, p, none, 0, 0, i3, HRE.out, hc, hi3, HR4.out, rfl⟩⟩
            case measure => rw [HM.out, mR_err HR4.out.cells.2.2.2.1 hc]; omega
          | .ok (l, j), ⟨G, v, hl, he, hO4, hR4⟩ =>
            subst hl he
            obtain ⟨g1, g2, g3', g4⟩ := (P_ok EV.out.ok g3).bin (by omega) HR3.out
            obtain ⟨ya, yc, rfl, -⟩ := hO4.form
            have hj := r4join_ok j o 0 _ 14 F G (.slice va (F.flat 0).length vc) (.slice ya (G.flat 0).length yc) w3 hR4 HO3.out.isE hO4.isE HG.out.one g1.one (by omega) (by omega)
            have HRE : Hid (P L g3 (.loop 6 (both 14 false F G)) j o = some r) := by
              rcases HRS.out with ⟨e, h, h2⟩ | ⟨a, i, h, h2⟩
              · have h3 := HR3.out.symm.trans h; cases h3
              · have h3 := HR3.out.symm.trans h; cases h3
                rcases h2 with ⟨h2, _⟩ | ⟨_, h2⟩
                · omega
                · exact h2
            have HR5 := Lib.hid hR4
            have HGG := Lib.hid g1
            clear hR4 hO4 g1
            go_wp2_with fail
            refine hj.mono ?_
            rintro r4 w4 ⟨v4, rfl, ho, hb⟩
            have HR6 := Lib.hid (HR5.out.below hb)
            have HA6 := Lib.hid (HA3.out.then hb)
            have HO6 := Lib.hid (ho.mono hrw3)
            have hv := both_size 14 false F G
            have HV := Lib.hid hv
            clear hj ho hb hv
            go_wp2_with fail
            go_roundw
            case rel => exact ⟨HA6.out, Or.inl ⟨both 14 false F G, j, g3, by omega, HO6.out, both_good (by omega) HG.out HGG.out, by rw [HV.out]; omega, g3', HR6.out, HRE.out⟩⟩
            case measure => rw [HM.out, mR_ok HR6.out.cells.2.1 HR6.out.cells.2.2.2.1]; omega
        · have HS := Lib.hid hs
          clear hs
          have hc := r4is_no EV i (by omega) o 0 0 ⟨#[43]⟩ (Or.inl (by rw [isT_some HS.out]; decide)) wr (HBR.out.then HBL0.out) (HR0.out.below HBL0.out)
          go_wp2_with fail
          refine hc.mono ?_
          rintro r2 v1 ⟨rfl, hb⟩
          have HBL1 := Lib.hid (below_next HBL0.out hb)
          clear hc hb HBL0
          have hc := r4is_yes EV i (by omega) o 0 ⟨#[45]⟩ (by rw [isT_some HS.out]; simp) v1 (HBR.out.then HBL1.out) (HR0.out.below HBL1.out)
          go_wp2_with fail
          refine hc.mono ?_
          rintro r2 v2 ⟨rfl, hb⟩
          have HBL2 := Lib.hid (below_next HBL1.out hb)
          clear hc hb HBL1
          have hc := r4is_yes EV i (by omega) o 0 ⟨#[45]⟩ (by rw [isT_some HS.out]; simp) v2 (HBR.out.then HBL2.out) (HR0.out.below HBL2.out)
          go_wp2_with fail
          refine hc.mono ?_
          rintro r2 v3 ⟨rfl, hb⟩
          have HBL3 := Lib.hid (below_next HBL2.out hb)
          clear hc hb HBL2
          have hR9 := HR0.out.below HBL3.out
          obtain ⟨c0, c1, c2, c3, c4⟩ := hR9.cells
          obtain ⟨f0, f1, f2, f3, f4⟩ := hR9.free
          have HR9 := Lib.hid (hR9.setI ((i : Int) + 1))
          have HA9 : Hid (Al rb wr (v3.setCell ⟨rb, 1, none⟩ (.int .i64 ((i : Int) + 1)))) := (Al.of HBL3.out).set _ _
          clear hR9 HBL3
          obtain ⟨r3, hr3⟩ : ∃ r3, P L g3 (.bin 7) (i + 1) o = some r3 := by
            rcases HRS.out with ⟨e, h, _⟩ | ⟨a, i, h, _⟩
            · exact ⟨_, h⟩
            · exact ⟨_, h⟩
          have HR3 := Lib.hid hr3
          clear hr3
          go_wp2_with fail
          generalize v3.setCell ⟨rb, 1, none⟩ (.int .i64 ((i : Int) + 1)) = w2 at *
          have hA2 := HA9.out
          have hcall := IH.out g3 (by omega) 7 (i + 1) o r3 w2 (by omega) (by omega) HR3.out (HBR.out.next hA2) (by simpa using HR9.out)
          have HA2 : Hid (Al rb w w2) := HA.out.next hA2
          have HO2 : Hid (OwnE nb w2 (.slice va (F.flat 0).length vc) (F.flat 0)) := hA2.ownE HO.out hlt
          have hrw2 : nb ≤ w2.heap.size := by have := hA2.size; omega
          clear hA2 HA9 HR9 HA HO HBR hrw c0 c1 c2 c3 c4 f0 f1 f2 f3 f4
          refine hcall.mono ?_
          rintro e w3 ⟨hA3, hpost⟩
          have HA3 : Hid (Al rb w w3) := HA2.out.next hA3
          have HO3 := Lib.hid (hA3.ownE HO2.out hlt)
          have hrw3 : nb ≤ w3.heap.size := by have := hA3.size; omega
          clear hcall hA3
          match r3, hpost with
          | .error (c, p), ⟨y, yn, yk, i3, he, hc, hi3, hR3⟩ =>
            subst he
            have hj := r4join_no i3 o c p 15 hc _ (.slice va (F.flat 0).length vc) (.slice y yn yk) w3 hR3
            have HRE : Hid (r = .error (c, p)) := by
              rcases HRS.out with ⟨e, h, h2⟩ | ⟨a, i, h, _⟩
              · have h3 := HR3.out.symm.trans h; cases h3; exact h2
              · have h3 := HR3.out.symm.trans h; cases h3
            have HR4 := Lib.hid hR3
            clear hR3
            go_wp2_with fail
            refine hj.mono ?_
            rintro r4 w4 ⟨rfl, rfl⟩
            clear hj
            go_wp2_with fail
            go_roundw
            case rel => exact ⟨HA3.out, Or.inr ⟨c, p, none, 0, 0, i3, HRE.out, hc, hi3, HR4.out, rfl⟩⟩
            case measure => rw [HM.out, mR_err HR4.out.cells.2.2.2.1 hc]; omega
          | .ok (l, j), ⟨G, v, hl, he, hO4, hR4⟩ =>
            subst hl he
            obtain ⟨g1, g2, g3', g4⟩ := (P_ok EV.out.ok g3).bin (by omega) HR3.out
            obtain ⟨ya, yc, rfl, -⟩ := hO4.form
            have hj := r4join_ok j o 0 _ 15 F G (.slice va (F.flat 0).length vc) (.slice ya (G.flat 0).length yc) w3 hR4 HO3.out.isE hO4.isE HG.out.one g1.one (by omega) (by omega)
            have HRE : Hid (P L g3 (.loop 6 (both 15 false F G)) j o = some r) := by
              rcases HRS.out with ⟨e, h, h2⟩ | ⟨a, i, h, h2⟩
              · have h3 := HR3.out.symm.trans h; cases h3
              · have h3 := HR3.out.symm.trans h; cases h3
                rcases h2 with ⟨h2, _⟩ | ⟨_, h2⟩
                · omega
                · exact h2
            have HR5 := Lib.hid hR4
            have HGG := Lib.hid g1
            clear hR4 hO4 g1
            go_wp2_with fail
            refine hj.mono ?_
            rintro r4 w4 ⟨v4, rfl, ho, hb⟩
            have HR6 := Lib.hid (HR5.out.below hb)
            have HA6 := Lib.hid (HA3.out.then hb)
            have HO6 := Lib.hid (ho.mono hrw3)
            have hv := both_size 15 false F G
            have HV := Lib.hid hv
            clear hj ho hb hv
            go_wp2_with fail
            go_roundw
            case rel => exact ⟨HA6.out, Or.inl ⟨both 15 false F G, j, g3, by omega, HO6.out, both_good (by omega) HG.out HGG.out, by rw [HV.out]; omega, g3', HR6.out, HRE.out⟩⟩
            case measure => rw [HM.out, mR_ok HR6.out.cells.2.1 HR6.out.cells.2.2.2.1]; omega
    · have HE : Hid (∀ w2, Below wr.heap.size wr w2 → RPost (Rd rb (.slice a L.length cc)) rb o w r (.returned (.slice x n k)) w2) := fun w2 hb => by rw [hr]; exact rpost_err (hA.then hb) hc hi (hR.below hb)
      have HR0 := Lib.hid hR
      have HB0 : Hid (Al rb w0 wr) := HB.out.next hA
      have HBL0 : Hid (Below wr.heap.size wr wr) := Below.refl _ _
      have hno0 : Hid (isT L i ⟨#[43]⟩ = false ∨ c ≠ 0) := Or.inr hc
      have hno1 : Hid (isT L i ⟨#[45]⟩ = false ∨ c ≠ 0) := Or.inr hc
      clear hA hR hr hc
      have hc0 := r4is_no EV i (by omega) o c p ⟨#[43]⟩ hno0.out wr HB0.out HR0.out
      go_wp2_with fail
      refine hc0.mono ?_
      rintro r2 w2 ⟨rfl, hb⟩
      have HR1 := Lib.hid (HR0.out.below hb)
      have HB1 := Lib.hid (HB0.out.then hb)
      have HBL1 := Lib.hid (below_next HBL0.out hb)
      clear hc0 hb HR0 HB0 HBL0
      have hc1 := r4is_no EV i (by omega) o c p ⟨#[45]⟩ hno1.out w2 HB1.out HR1.out
      go_wp2_with fail
      refine hc1.mono ?_
      rintro r2 w3 ⟨rfl, hb⟩
      have HR2 := Lib.hid (HR1.out.below hb)
      have HB2 := Lib.hid (HB1.out.then hb)
      have HBL2 := Lib.hid (below_next HBL1.out hb)
      clear hc1 hb HR1 HB1 HBL1
      go_wp2_with fail
      go_ret
      exact HE.out w3 HBL2.out
end
end Go.Proofs.YtjnpkdpljmkpiaaGreatDoor
namespace Go.Proofs.YtjnpkdpljmkpiaaGreatDoor
open Go.RowKit Go.Shelf Tx Px
section
variable {L : List Tok} {a : Option Addr} {cc rb : Nat} {w0 : World}
theorem operand_cases {p : Orc} {L : List Tok} {I o : Nat} {r : Res} (h : operandS p L I o = some r) :
    (200 ≤ o ∧ r = .error (6, atP L I)) ∨ (o < 200 ∧ L.length ≤ I ∧ r = .error (5, atP L I)) ∨ (o < 200 ∧ ∃ x, L[I]? = some x ∧
      ((x.k = 2 ∧ one (node 1 (Lx.val x.t.data.toList) noS .no) (I + 1) = some r) ∨ (x.k = 1 ∧ namedS p L x.t I (o + 1) = some r) ∨ ((x.k = 3 ∨ x.k = 4) ∧ signS p L x.t I o = some r) ∨ ((x.k ≠ 1 ∧ x.k ≠ 2 ∧ x.k ≠ 3 ∧ x.k ≠ 4) ∧ errAt L 5 I = some r))) := by
  unfold operandS at h
  split at h
  · rename_i h1; exact Or.inl ⟨h1, (Option.some.inj h).symm⟩
  rename_i h1
  right
  split at h
  · rename_i h2; exact Or.inl ⟨by omega, List.getElem?_eq_none_iff.1 h2, (Option.some.inj h).symm⟩
  rename_i x hx
  refine Or.inr ⟨by omega, x, hx, ?_⟩
  split at h
  · rename_i h2; exact Or.inl ⟨h2, h⟩
  rename_i h2
  split at h
  · rename_i h3; exact Or.inr (Or.inl ⟨h3, by unfold namedS; exact h⟩)
  rename_i h3
  split at h
  · rename_i h4; exact Or.inr (Or.inr (Or.inl ⟨h4, h⟩))
  · rename_i h4; exact Or.inr (Or.inr (Or.inr ⟨by omega, h⟩))
theorem sign_cases {p : Orc} {L : List Tok} {s : ByteArray} {I o : Nat} {r : Res} (h : signS p L s I o = some r) :
    (preAt s = some 25 ∧ withinS p L I (o + 1) = some r) ∨ (∃ op, preAt s = some op ∧ op ≠ 25 ∧ (thenE (p (.bin 8) (I + 1) (o + 1)) fun a i => one (node op 0 noS a) i) = some r) ∨
    (s = ⟨#[116, 114, 117, 101]⟩ ∧ one (node 2 1 noS .no) (I + 1) = some r) ∨ (s = ⟨#[102, 97, 108, 115, 101]⟩ ∧ one (node 2 0 noS .no) (I + 1) = some r) ∨
    (s = ⟨#[40]⟩ ∧ (thenE (p (.bin 0) (I + 1) (o + 1)) fun a i => needT L tRpar i fun i => one a i) = some r) ∨ (s = ⟨#[105, 102]⟩ ∧ choiceS p L (I + 1) (o + 1) = some r) ∨
    (preAt s = none ∧ (s ≠ ⟨#[116, 114, 117, 101]⟩ ∧ s ≠ ⟨#[102, 97, 108, 115, 101]⟩ ∧ s ≠ ⟨#[40]⟩ ∧ s ≠ ⟨#[105, 102]⟩) ∧ errAt L 5 I = some r) := by
  unfold signS at h
  split at h
  · rename_i op hop
    split at h
    · rename_i h25; subst h25; exact Or.inl ⟨hop, by unfold withinS; exact h⟩
    · rename_i h25; exact Or.inr (Or.inl ⟨op, hop, h25, h⟩)
  · rename_i hop
    right; right
    split at h
    · rename_i h1; exact Or.inl ⟨h1, h⟩
    rename_i h1; right
    split at h
    · rename_i h2; exact Or.inl ⟨h2, h⟩
    rename_i h2; right
    split at h
    · rename_i h3; exact Or.inl ⟨h3, h⟩
    rename_i h3; right
    split at h
    · rename_i h4; exact Or.inl ⟨h4, by unfold choiceS; exact h⟩
    rename_i h4; right
    exact ⟨hop, ⟨h1, h2, h3, h4⟩, h⟩
theorem r4begun_any (EV : Hid (EnvOk w0 rb a cc L)) (f : Nat) (IH : Hid (∀ g, g ≤ f → LvOk w0 rb a cc L g)) (I o : Nat) (x : Tok) (r : Res) (w : World) (hx : L[I]? = some x)
    (hP : (x.k = 2 ∧ one (node 1 (Lx.val x.t.data.toList) noS .no) (I + 1) = some r) ∨ (x.k = 1 ∧ namedS (P L f) L x.t I (o + 1) = some r) ∨ ((x.k = 3 ∨ x.k = 4) ∧ signS (P L f) L x.t I o = some r) ∨ ((x.k ≠ 1 ∧ x.k ≠ 2 ∧ x.k ≠ 3 ∧ x.k ≠ 4) ∧ errAt L 5 I = some r))
    (hB : Al rb w0 w) (hR : Rd rb (.slice a L.length cc) w I ((o + 1 : Nat) : Int) 0 0) :
    Calls Tryz.prog 159 #[.pointer (some ⟨rb, 0, none⟩), .agg #[.int .i64 x.k, .string x.t, .int .i64 x.p]] w (RPost (Rd rb (.slice a L.length cc)) rb ((o + 1 : Nat) : Int) w r) := by
  rcases hP with ⟨hk, h⟩ | ⟨hk, h⟩ | ⟨hk, h⟩ | ⟨hk, h⟩
  · exact r4begun_num EV f IH I (o + 1) x r w hx hk h hB hR
  · exact r4begun_name EV f IH I (o + 1) x r w hx hk h hB hR
  · rcases sign_cases h with ⟨h1, h⟩ | ⟨op, h1, h2, h⟩ | ⟨h1, h⟩ | ⟨h1, h⟩ | ⟨h1, h⟩ | ⟨h1, h⟩ | ⟨h1, h2, h⟩
    · exact r4begun_within EV f IH I (o + 1) x r w hx hk h1 h hB hR
    · exact r4begun_pre EV f IH I (o + 1) x r w hx op hk h1 h2 h hB hR
    · exact r4begun_true EV f IH I (o + 1) x r w hx hk h1 h hB hR
    · exact r4begun_false EV f IH I (o + 1) x r w hx hk h1 h hB hR
    · exact r4begun_par EV f IH I (o + 1) x r w hx hk h1 h hB hR
    · exact r4begun_if EV f IH I (o + 1) x r w hx hk h1 h hB hR
    · exact r4begun_none EV f IH I (o + 1) x r w hx hk h1 h2 h hB hR
  · exact r4begun_other EV f IH I (o + 1) x r w hx hk h hB hR
set_option maxRecDepth 100000 in
set_option maxHeartbeats 2000000 in
theorem r4operand_any (EV : Hid (EnvOk w0 rb a cc L)) (f : Nat) (IH : Hid (∀ g, g < f → LvOk w0 rb a cc L g)) (I o : Nat) (r : Res) (w : World) (hI : I ≤ L.length) (hP : P L f (.bin 8) I o = some r) (hB : Al rb w0 w) (hR : Rd rb (.slice a L.length cc) w I o 0 0) :
    Calls Tryz.prog 157 #[.pointer (some ⟨rb, 0, none⟩)] w (RPost (Rd rb (.slice a L.length cc)) rb o w r) := by
  obtain ⟨g, rfl, hP⟩ := top_cases hP
  have hL := EV.out.len
  have hcap := EV.out.cap
  have hi1 : (0 : Int) ≤ (I : Int) := by omega
  obtain ⟨c0, c1, c2, c3, c4⟩ := hR.cells
  obtain ⟨f0, f1, f2, f3, f4⟩ := hR.free
  have hlt := hR.lt
  have HB := Lib.hid hB
  have HR := Lib.hid hR
  rcases operand_cases hP with ⟨h1, rfl⟩ | ⟨h1, h2, rfl⟩ | ⟨h1, x, hx, hrest⟩
  · have hf := r4fail_yes EV I (by omega) o 0 6 w hB hR
    have e1 : decide ((200 : Int) ≤ (o : Int)) = true := decide_eq_true (by omega)
    clear hB hR hP f0 f1 f2 f3 f4
    go_enter Tryz.func157, Tryz.ntmps157
    go_wp2_with fail
    refine hf.mono ?_
    rintro e w1 ⟨rfl, hR1, hA1⟩
    have HR1 := Lib.hid hR1
    have HA1 := Lib.hid hA1
    clear hf hR1 hA1 c0 c1 c2 c3 c4
    go_wp2_with fail
    go_ret
    exact rpost_err HA1.out (by decide) (by omega) HR1.out
  · have hf : ∀ q, _ := fun q => r4fail_yes EV I (by omega) o 0 5 (w.drewN q) (hB.drewN q) (show Rd rb (.slice a L.length cc) (w.drewN q) I o 0 0 from hR)
    have e1 : decide ((200 : Int) ≤ (o : Int)) = false := decide_eq_false (by omega)
    have e2 : decide ((L.length : Int) ≤ (I : Int)) = true := decide_eq_true (by omega)
    have HF := Lib.hid hf
    clear hB hR hP f0 f1 f2 f3 f4 hf
    go_enter Tryz.func157, Tryz.ntmps157
    go_wp2_with fail
    go_quiet (fail)
    go_wp2_with fail
    refine (HF.out _).mono ?_
    rintro e w1 ⟨rfl, hR1, hA1⟩
    have HR1 := Lib.hid hR1
    have HA1 : Hid (Al rb w w1) := ((Al.refl rb w).drewN _).next hA1
    clear hR1 hA1 c0 c1 c2 c3 c4
    go_wp2_with fail
    go_ret
    exact rpost_err HA1.out (by decide) (by omega) HR1.out
  · have hil := (List.getElem?_eq_some_iff.1 hx).1
    have e1 : decide ((200 : Int) ≤ (o : Int)) = false := decide_eq_false (by omega)
    have e2 : decide ((L.length : Int) ≤ (I : Int)) = false := decide_eq_false (by omega)
    have h2 : (I : Int) < (L.length : Int) := by omega
    have ho9 : (o : Int) ≤ 200 := by omega
    have HRS := Lib.hid hrest
    have HX := Lib.hid hx
    clear hB hR hP hrest hx
    go_enter Tryz.func157, Tryz.ntmps157
    go_wp2_with fail
    go_quiet (fail)
    go_wp2_with fail
    -- the reader has one operand more begun
    generalize hW : World.setCell _ ⟨rb, 2, none⟩ _ = W
    have hR1 : Rd rb (.slice a L.length cc) W I ((o + 1 : Nat) : Int) 0 0 := by
      rw [← hW]
      exact Rd.setO (W := w.drewN nq) HR.out ((o : Int) + 1)
    have HA1 : Hid (Al rb w W) := by show Al _ _ _; rw [← hW]; exact ((Al.refl rb w).drewN nq).set _ _
    have HR1 := Lib.hid hR1
    clear hW c0 c1 c2 c3 c4 f0 f1 f2 f3 f4
    obtain ⟨b, q, rfl, d0', d1', d2'⟩ := EV.out.tok W (HB.out.next HA1.out) I x HX.out
    obtain ⟨c0', c1', -, -, -⟩ := hR1.cells
    have hbn : Below W.heap.size W (W.alloc (.cells #[.int .i64 0, .string ⟨#[]⟩, .int .i64 0] 140)) := (Below.refl _ _).alloc (Nat.le_refl _) _
    have l1 := World.block_lt_of_cell? W _ c0'
    have l2 := World.block_lt_of_cell? W _ d0'
    have n0 := (hbn.cell (p := ⟨rb, 0, none⟩) l1).trans c0'
    have n1 := (hbn.cell (p := ⟨rb, 1, none⟩) l1).trans c1'
    have n2 := (hbn.cell (p := ⟨b, q + I * 3, none⟩) l2).trans d0'
    have n3 := (hbn.cell (p := ⟨b, q + I * 3 + 1, none⟩) l2).trans d1'
    have n4 := (hbn.cell (p := ⟨b, q + I * 3 + 2, none⟩) l2).trans d2'
    have hbt : Below W.heap.size W (W.alloc (.cells #[.int .i64 x.k, .string x.t, .int .i64 x.p] 140)).drew := ((Below.refl _ _).alloc (Nat.le_refl _) _).drew
    have HR2 := Lib.hid (hR1.below hbt)
    have HA2 := Lib.hid (HA1.out.then hbt)
    have HCALL := Lib.hid (r4begun_any EV g (Lib.hid (fun k hk => IH.out k (by omega))) I o x r _ HX.out HRS.out (HB.out.next HA2.out) HR2.out)
    clear hbn hbt hR1
    go_region
    all_goals
      clear c0' c1' d0' d1' d2' n0 n1 n2 n3 n4
      go_wp2_with fail
      refine HCALL.out.mono ?_
      rintro e w3 ⟨hA3, hpost⟩
      have HA3 := Lib.hid (HA2.out.next hA3)
      have HSZ := Lib.hid HA2.out.size
      clear hA3
      match r, hpost with
      | .error (c, p), ⟨y, yn, yk, i3, he, hc, hi3, hR4⟩ =>
        subst he
        have HR4 := Lib.hid hR4
        obtain ⟨c0, c1, c2, c3, c4⟩ := hR4.cells
        obtain ⟨f0, f1, f2, f3, f4⟩ := hR4.free
        clear hR4 HRS HCALL
        go_wp2_with fail
        go_ret
        have hR5 := HR4.out.setO (o : Int)
        refine rpost_err ?_ hc hi3 ?_
        · exact HA3.out.set _ _
        · exact hR5
      | .ok (l, j), ⟨G, v, hl, he, hO, hR4⟩ =>
        subst hl he
        obtain ⟨ya, yc, rfl, -⟩ := hO.form
        have HR4 := Lib.hid hR4
        have HO4 := Lib.hid (hO.mono HSZ.out)
        obtain ⟨c0, c1, c2, c3, c4⟩ := hR4.cells
        obtain ⟨f0, f1, f2, f3, f4⟩ := hR4.free
        clear hR4 hO HRS HCALL
        go_wp2_with fail
        go_ret
        refine rpost_ok ?_ ?_ ?_
        · exact HA3.out.set _ _
        · exact OwnE.set HO4.out (fun e => by have := (HO4.out.low rb e).1; omega) _ _
        · exact HR4.out.setO (o : Int)
end
end Go.Proofs.YtjnpkdpljmkpiaaGreatDoor
namespace Go.Proofs.YtjnpkdpljmkpiaaGreatDoor
open Go.RowKit Go.Shelf Tx
set_option maxRecDepth 100000 in
set_option maxHeartbeats 1000000 in
theorem pValue_any (e : List Nd) (v : Value) (l : List Bool) (lv : Value) (w : World) (he : e.length ≤ 1000000000) (hs : ∀ x ∈ e, x.s.size ≤ 281474976710656) (hl : l.length ≤ 1000000000) (hv : IsE w v e) (hb : SlBools w lv l) (G : Gl w) :
    Calls Tryz.prog 17 #[v, lv] w fun r w' => r = .returned (.tuple #[.bool (Ux.valA e l).1, .int .i64 (Ux.valA e l).2]) ∧ Below w.heap.size w w' := by
  have nb := (Below.refl w.heap.size w).alloc (Nat.le_refl _) (.cells #[lv] 31)
  have kb := Blk.new w #[lv] 31
  have hv2 : IsE (w.alloc (.cells #[lv] 31)) v e := Sl.below hv nb
  have hcall := runB_any e v l lv w.heap.size (w.alloc (.cells #[lv] 31)) he hs hl hv2 (one_cell kb).1 (hb.below nb) (G.below nb)
  obtain ⟨a, c, rfl, -, -⟩ := hv.form
  obtain ⟨la, lc, rfl, -⟩ := hb.form
  have HNB := Lib.hid nb
  clear nb kb hv2 hb hv G
  generalize (Ux.valA e l).1 = y at hcall ⊢
  generalize (Ux.valA e l).2 = z at hcall ⊢
  go_enter Tryz.func17, Tryz.ntmps17
  go_wp2_with fail
  refine hcall.mono ?_
  rintro r w1 ⟨rfl, hb1⟩
  clear hcall
  go_wp2_with fail
  go_ret2
  exact ⟨rfl, below_next HNB.out hb1⟩
end Go.Proofs.YtjnpkdpljmkpiaaGreatDoor
namespace Go.Proofs.YtjnpkdpljmkpiaaGreatDoor
open Go.RowKit Go.Shelf Tx
namespace Ux
section
variable {α : Type} {g : List α → Nd → α}
theorem pre_take (e : List Nd) : ∀ t, pre g (e.take t) = (pre g e).take t := by
  induction e using snoc_ind with
  | h0 => intro t; simp [pre]
  | h1 e x ih =>
    intro t
    rcases Nat.lt_or_ge e.length t with h | h
    · rw [List.take_of_length_le (by simp; omega), List.take_of_length_le (by rw [pre_len]; simp; omega)]
    · rw [List.take_append_of_le_length h, pre_snoc, List.take_append_of_le_length (by rw [pre_len]; exact h), ih t]
theorem pre_get {e : List Nd} {t : Nat} {x : Nd} (h : e[t]? = some x) : (pre g e)[t]? = some (g (pre g (e.take t)) x) := by
  have h1 := pre_one (g := g) h
  rw [pre_take] at h1
  have ht := (List.getElem?_eq_some_iff.1 h).1
  have h2 : ((pre g e).take (t + 1))[t]? = (pre g e)[t]? := by rw [List.getElem?_take, if_pos (by omega)]
  rw [← h2, h1, List.getElem?_append_right (by rw [pre_len, List.length_take]; omega), pre_len, List.length_take, Nat.min_eq_left (by omega), Nat.sub_self]; rfl
theorem pre_getD {e : List Nd} {t j : Nat} (hj : j < t) (d : α) : (pre g (e.take t)).getD j d = (pre g e).getD j d := by
  rw [pre_take, List.getD_eq_getElem?_getD, List.getD_eq_getElem?_getD, List.getElem?_take, if_pos hj]
end
theorem vals_get {l : List Bool} {e : List Nd} {t : Nat} {x : Nd} (h : e[t]? = some x) : (vals l e).getD t false = valN l (vals l (e.take t)) x := by
  rw [vals_pre, List.getD_eq_getElem?_getD, pre_get h]; rfl
theorem vals_old {l : List Bool} {e : List Nd} {t j : Nat} (hj : j < t) : (vals l (e.take t)).getD j false = (vals l e).getD j false := pre_getD hj false
theorem valL_get {l : List Bool} {e : List Nd} (h1 : 1 ≤ e.length) : (vals l e).getD (e.length - 1) false = valL l e := by
  have := valL_at (l := l) (e := e) rfl h1
  rw [vals_pre, List.getD_eq_getElem?_getD, this]; rfl
end Ux
def DenI (s : St) (r : Int) (φ : List Bool → Bool) : Prop := ∃ f : Nat, r = (f : Int) ∧ f < s.ns.length ∧ ∀ l : List Bool, l.length = s.vars → Dd.den s.ns (envOf l) f = φ l
theorem DenI.more {w w1 w2 : World} {s s' : St} {r : Int} {φ : List Bool → Bool} (h : DenI s r φ) (hm : More w s s') (h1 : StoreAt w1 s) (h2 : StoreAt w2 s') : DenI s' r φ := by
  obtain ⟨f, hr, hf, hd⟩ := h
  exact ⟨f, hr, Nat.lt_of_lt_of_le hf hm.len, fun l hl => by rw [hm.den h1 h2 _ hf]; exact hd l (by rw [hl, hm.vars])⟩
structure RowS (s : St) (e : List Nd) (U : List Int) (t : Nat) : Prop where
  len : U.length = e.length
  old : ∀ (j : Nat), j < t → ∃ r, U[j]? = some r ∧ DenI s r (fun l => (Ux.vals l e).getD j false)
  atom : ∀ (j : Nat) (x : Nd), e[j]? = some x → x.op = 3 → ∃ r, U[j]? = some r ∧ DenI s r (fun l => Ux.av l x)
structure RowA (s : St) (e : List Nd) (U : List Int) (t : Nat) : Prop where
  len : U.length = e.length
  atom : ∀ (j : Nat) (x : Nd), j < t → e[j]? = some x → x.op = 3 → ∃ r, U[j]? = some r ∧ DenI s r (fun l => Ux.av l x)
section
variable {s s' : St} {e : List Nd} {U : List Int} {t : Nat} {x : Nd} {w w1 w2 : World}
theorem RowS.more (h : RowS s e U t) (hm : More w s s') (h1 : StoreAt w1 s) (h2 : StoreAt w2 s') : RowS s' e U t :=
  ⟨h.len, fun j hj => by obtain ⟨r, a, b⟩ := h.old j hj; exact ⟨r, a, b.more hm h1 h2⟩, fun j x hx h3 => by obtain ⟨r, a, b⟩ := h.atom j x hx h3; exact ⟨r, a, b.more hm h1 h2⟩⟩
theorem RowA.more (h : RowA s e U t) (hm : More w s s') (h1 : StoreAt w1 s) (h2 : StoreAt w2 s') : RowA s' e U t :=
  ⟨h.len, fun j x hj hx h3 => by obtain ⟨r, a, b⟩ := h.atom j x hj hx h3; exact ⟨r, a, b.more hm h1 h2⟩⟩
theorem RowA.start (s : St) (e : List Nd) : RowA s e (List.replicate e.length 0) 0 := ⟨by simp, fun j x hj => by omega⟩
theorem RowA.skip (h : RowA s e U t) (hx : e[t]? = some x) (h3 : x.op ≠ 3) : RowA s e U (t + 1) :=
  ⟨h.len, fun j y hj hy q => by
    by_cases hjt : j = t
    · subst hjt; rw [hx] at hy; cases hy; exact absurd q h3
    · exact h.atom j y (by omega) hy q⟩
theorem RowA.put (h : RowA s e U t) (hx : e[t]? = some x) {r : Int} (hr : DenI s r (fun l => Ux.av l x)) : RowA s e (U.set t r) (t + 1) :=
  ⟨by rw [List.length_set]; exact h.len, fun j y hj hy q => by
    by_cases hjt : j = t
    · subst hjt; rw [hx] at hy; cases hy
      have := (List.getElem?_eq_some_iff.1 hx).1
      exact ⟨r, by rw [List.getElem?_set, if_pos rfl, if_pos (by rw [h.len]; exact this)], hr⟩
    · obtain ⟨r', a, b⟩ := h.atom j y (by omega) hy q
      exact ⟨r', by rw [List.getElem?_set, if_neg (fun q => hjt q.symm)]; exact a, b⟩⟩
theorem RowA.done (h : RowA s e U e.length) : RowS s e U 0 :=
  ⟨h.len, fun j hj => by omega, fun j x hx h3 => h.atom j x (List.getElem?_eq_some_iff.1 hx).1 hx h3⟩
theorem RowS.skip (h : RowS s e U t) (hx : e[t]? = some x) (h3 : x.op = 3) : RowS s e U (t + 1) :=
  ⟨h.len, fun j hj => by
    by_cases hjt : j = t
    · subst hjt
      obtain ⟨r, a, b⟩ := h.atom j x hx h3
      refine ⟨r, a, ?_⟩
      have : (fun l => (Ux.vals l e).getD j false) = fun l => Ux.av l x := by
        funext l; rw [Ux.vals_get hx, Ux.valN_atom h3]
      rw [this]; exact b
    · exact h.old j (by omega), h.atom⟩
theorem RowS.put (h : RowS s e U t) (hx : e[t]? = some x) (h3 : x.op ≠ 3) {r : Int} (hr : DenI s r (fun l => Ux.valN l (Ux.vals l (e.take t)) x)) : RowS s e (U.set t r) (t + 1) :=
  ⟨by rw [List.length_set]; exact h.len, fun j hj => by
    by_cases hjt : j = t
    · subst hjt
      have := (List.getElem?_eq_some_iff.1 hx).1
      refine ⟨r, by rw [List.getElem?_set, if_pos rfl, if_pos (by rw [h.len]; exact this)], ?_⟩
      have q : (fun l => (Ux.vals l e).getD j false) = fun l => Ux.valN l (Ux.vals l (e.take j)) x := by funext l; rw [Ux.vals_get hx]
      rw [q]; exact hr
    · obtain ⟨r', a, b⟩ := h.old j (by omega)
      exact ⟨r', by rw [List.getElem?_set, if_neg (fun q => hjt q.symm)]; exact a, b⟩,
   fun j y hy q => by
    by_cases hjt : j = t
    · subst hjt; rw [hx] at hy; cases hy; exact absurd q h3
    · obtain ⟨r', a, b⟩ := h.atom j y hy q
      exact ⟨r', by rw [List.getElem?_set, if_neg (fun q => hjt q.symm)]; exact a, b⟩⟩
theorem RowS.kid (h : RowS s e U t) {j : Nat} (hj : j < t) : ∃ f : Nat, U[j]? = some (f : Int) ∧ f < s.ns.length ∧ ∀ l : List Bool, l.length = s.vars → Dd.den s.ns (envOf l) f = (Ux.vals l (e.take t)).getD j false := by
  obtain ⟨r, a, f, rfl, hf, hd⟩ := h.old j hj
  exact ⟨f, a, hf, fun l hl => by rw [hd l hl, Ux.vals_old hj]⟩
end
structure RunI (B : Nat) (w0 : World) (s0 : St) (W : World) (s : St) : Prop where
  store : StoreAt W s
  more : More w0 s0 s
  below : Below B w0 W
  bl : ∀ k, s.bl k → B ≤ k
theorem RunI.pure {B : Nat} {w0 W W' : World} {s0 s : St} (h : RunI B w0 s0 W s) (hb : Below W.heap.size W W') (hB : B ≤ w0.heap.size) : RunI B w0 s0 W' s :=
  ⟨h.store.below hb, h.more, h.below.trans (hb.mono (Nat.le_trans hB h.below.size)), h.bl⟩
theorem RunI.next {B : Nat} {w0 W W' : World} {s0 s s' : St} (h : RunI B w0 s0 W s) (hS : StoreAt W' s') (hM : More W s s') (hF : Fr s.bl W W') (hB : B ≤ w0.heap.size) : RunI B w0 s0 W' s' := by
  have h0 : w0.heap.size ≤ W.heap.size := h.below.size
  refine ⟨hS, h.more.trans hM h0, hF.below h.below (by omega) h.bl, fun k hk => ?_⟩
  rcases Nat.lt_or_ge k W.heap.size with hlt | hge
  · exact h.bl k (hM.bl k hlt hk)
  · omega
theorem not_bl {W : World} {s s' : St} {k : Nat} (hM : More W s s') (hk : k < W.heap.size) (hn : ¬ s.bl k) : ¬ s'.bl k := fun h => hn (hM.bl k hk h)
theorem Fr.blk {S : Nat → Prop} {W W' : World} {b T : Nat} {cs : Array Value} (hF : Fr S W W') (h : Blk W b cs T) (hn : ¬ S b) : Blk W' b cs T := (hF.block b h.lt hn).trans h
theorem Fr.rowL {α : Type} {f : α → Value} {T base g n : Nat} {W W' : World} {L : List α} {S : Nat → Prop} (hF : Fr S W W') (h : RowL f T base W g n L) (hn : ¬ S g) : RowL f T base W' g n L :=
  hF.ownsRow h (fun k hk => by cases hk; exact hn)
theorem RunI.set {B : Nat} {w0 W : World} {s0 s : St} (h : RunI B w0 s0 W s) {g i : Nat} {v : Value} (hg : B ≤ g) (hn : ¬ s.bl g) : RunI B w0 s0 (W.setCell ⟨g, i, none⟩ v) s :=
  ⟨h.store.kept (fun k hk => by
      have : k ≠ g := fun e => hn (e ▸ hk)
      simp only [World.setCell, Array.getElem?_modify]
      rw [if_neg (fun e => this e.symm)]), h.more, h.below.setCell hg v, h.bl⟩
theorem RunI.drew {B : Nat} {w0 W : World} {s0 s : St} (h : RunI B w0 s0 W s) : RunI B w0 s0 W.drew s := ⟨h.store.below (Below.refl _ _).drew, h.more, h.below.drew, h.bl⟩
end Go.Proofs.YtjnpkdpljmkpiaaGreatDoor
