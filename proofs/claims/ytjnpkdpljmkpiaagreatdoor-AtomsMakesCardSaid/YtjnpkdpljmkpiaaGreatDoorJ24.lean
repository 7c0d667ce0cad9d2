/- The reference's reader of expressions: the level of prod: the walk. Walks: node whole; ite. Walks: ite. -/
import Derived.Test.YtjnpkdpljmkpiaaGreatDoorJ19
import Derived.Test.YtjnpkdpljmkpiaaGreatDoorJ23
namespace Go.Proofs.YtjnpkdpljmkpiaaGreatDoor
open Go.RowKit Go.Shelf Tx Px
section
variable {L : List Tok} {a : Option Addr} {cc rb : Nat} {w0 : World}
set_option maxRecDepth 100000 in
set_option maxHeartbeats 4000000 in
theorem r4prod_any (EV : Hid (EnvOk w0 rb a cc L)) (f : Nat) (IH : Hid (∀ g, g < f → LvOk w0 rb a cc L g)) (I o : Nat) (r : Res) (w : World) (hI : I ≤ L.length) (hP : P L f (.bin 7) I o = some r) (hB : Al rb w0 w) (hR : Rd rb (.slice a L.length cc) w I o 0 0) :
    Calls Tryz.prog 156 #[.pointer (some ⟨rb, 0, none⟩)] w (RPost (Rd rb (.slice a L.length cc)) rb o w r) := by
  obtain ⟨g, rfl, hcs⟩ := bin_cases (by omega) hP
  have hL := EV.out.len
  have hlt := hR.lt
  obtain ⟨nb, hnb⟩ : ∃ nb, nb = w.heap.size := ⟨_, rfl⟩
  have HNB := Lib.hid hnb
  have HB := Lib.hid hB
  rw [← hnb] at hlt
  have h1 : ∀ r1, P L g (.bin 8) I o = some r1 → _ := fun r1 h => IH.out g (by omega) 8 I o r1 w (by omega) hI h hB hR
  have H1 : Hid (∀ r1, P L g (.bin 8) I o = some r1 → _) := h1
  have HC := Lib.hid hcs
  clear hP hcs h1 hB hR hnb
  obtain ⟨r1, hr1⟩ : ∃ r1, P L g (.bin 8) I o = some r1 := by
    rcases HC.out with ⟨e, h, _⟩ | ⟨a, i, h, _⟩
    · exact ⟨_, h⟩
    · exact ⟨_, h⟩
  have HR1 := Lib.hid hr1
  clear hr1
  go_enter Tryz.func156, Tryz.ntmps156
  go_wp2_with fail
  refine (H1.out r1 HR1.out).mono ?_
  rintro e w1 ⟨hA, hpost⟩
  have HLP : Hid (∃ av, e = .returned av ∧ (∃ x n k, av = .slice x n k) ∧ LpR (Rd rb (.slice a L.length cc)) L rb nb o w 7 (g + 1) r av w1) := by
    rcases HC.out with ⟨⟨c, p⟩, h, h2⟩ | ⟨F, i, h, h2⟩
    · have h3 := HR1.out.symm.trans h
      cases h3
      obtain ⟨x, n, k, i, h4, h5, h6, h7⟩ := hpost
      exact ⟨_, h4, ⟨_, _, _, rfl⟩, hA, Or.inr ⟨c, p, x, n, k, i, h2, h5, h6, h7, rfl⟩⟩
    · have h3 := HR1.out.symm.trans h
      cases h3
      obtain ⟨F', v, h4, h5, h6, h7⟩ := hpost
      cases h4
      obtain ⟨g1, g2, g3, g4⟩ := (P_ok EV.out.ok g).bin hI h
      obtain ⟨va, vc, hv, -⟩ := h6.form
      exact ⟨v, h5, ⟨_, _, _, hv⟩, hA, Or.inl ⟨F, i, g, by omega, by rw [HNB.out]; exact h6, g1, by omega, g3, h7, h2⟩⟩
  obtain ⟨av, rfl, ⟨ax, an, ak, rfl⟩, hlp⟩ := HLP.out
  have HLP2 := Lib.hid hlp
  clear HLP hlp hpost hA H1 HR1 HC
  go_wp2_with fail
  go_loopw [3] (fun av wr => LpR (Rd rb (.slice a L.length cc)) L rb nb o w 7 (g + 1) r av wr) (fun _ wr => mR rb 1 3 L.length wr)
  case atStart => exact HLP2.out
  case round =>
    obtain ⟨hA, ⟨F, i, g2, hg2, hO, hG, hF, hi, hR, hP⟩ | ⟨c, p, x, n, k, i, hr, hc, hi, hR, rfl⟩⟩ := hrel
    · have hBr : Al rb w0 wr := HB.out.next hA
      obtain ⟨va, vc, rfl, -⟩ := hO.form
      have hfr := mR_ok (N := L.length) hR.cells.2.1 hR.cells.2.2.2.1
      have HM := Lib.hid hfr
      rcases loop_cases hP with ⟨hn, rfl⟩ | ⟨g3, s, op, sw, rfl, hs, hop, hrest⟩
      · have HE : Hid (∀ w2, Below wr.heap.size wr w2 → RPost (Rd rb (.slice a L.length cc)) rb o w (.ok ([F], i)) (.returned (.slice va (F.flat 0).length vc)) w2) := fun w2 hb => rpost_ok (hA.then hb) (by rw [← HNB.out]; exact hO.below hb) (hR.below hb)
        have HR0 := Lib.hid hR
        have HB0 : Hid (Al rb w0 wr) := hBr
        have HBL0 : Hid (Below wr.heap.size wr wr) := Below.refl _ _
        have hno0 : Hid (isT L i ⟨#[42]⟩ = false ∨ (0 : Int) ≠ 0) := Or.inl (isT_none hn (by decide))
        have hno1 : Hid (isT L i ⟨#[100, 105, 118]⟩ = false ∨ (0 : Int) ≠ 0) := Or.inl (isT_none hn (by decide))
        have hno2 : Hid (isT L i ⟨#[109, 111, 100]⟩ = false ∨ (0 : Int) ≠ 0) := Or.inl (isT_none hn (by decide))
        clear hP hn hBr hA hO hG hF hR hfr
        have hc0 := r4is_no EV i (by omega) o 0 0 ⟨#[42]⟩ hno0.out wr HB0.out HR0.out
        go_wp2_with fail
        refine hc0.mono ?_
        rintro r2 w2 ⟨rfl, hb⟩
        have HR1 := Lib.hid (HR0.out.below hb)
        have HB1 := Lib.hid (HB0.out.then hb)
        have HBL1 := Lib.hid (below_next HBL0.out hb)
        clear hc0 hb HR0 HB0 HBL0
        have hc1 := r4is_no EV i (by omega) o 0 0 ⟨#[100, 105, 118]⟩ hno1.out w2 HB1.out HR1.out
        go_wp2_with fail
        refine hc1.mono ?_
        rintro r2 w3 ⟨rfl, hb⟩
        have HR2 := Lib.hid (HR1.out.below hb)
        have HB2 := Lib.hid (HB1.out.then hb)
        have HBL2 := Lib.hid (below_next HBL1.out hb)
        clear hc1 hb HR1 HB1 HBL1
        have hc2 := r4is_no EV i (by omega) o 0 0 ⟨#[109, 111, 100]⟩ hno2.out w3 HB2.out HR2.out
        go_wp2_with fail
        refine hc2.mono ?_
        rintro r2 w4 ⟨rfl, hb⟩
        have HR3 := Lib.hid (HR2.out.below hb)
        have HB3 := Lib.hid (HB2.out.then hb)
        have HBL3 := Lib.hid (below_next HBL2.out hb)
        clear hc2 hb HR2 HB2 HBL2
        go_wp2_with fail
        go_ret
        exact HE.out w4 HBL3.out
      · have hil : i < L.length := hereT_lt hs
        have hso : (s = ⟨#[42]⟩ ∧ op = 16 ∧ sw = false) ∨ (s = ⟨#[100, 105, 118]⟩ ∧ op = 17 ∧ sw = false) ∨ (s = ⟨#[109, 111, 100]⟩ ∧ op = 18 ∧ sw = false) := by
          unfold Px.opAt at hop
          simp only at hop
          repeat' (split at hop)
          all_goals first | (cases hop; done) | (rename_i e; cases hop; rw [e]; simp [bs])
        have HO := Lib.hid hO
        have HG := Lib.hid hG
        have HA := Lib.hid hA
        have HR0 := Lib.hid hR
        have HBR := Lib.hid hBr
        have HBL0 : Hid (Below wr.heap.size wr wr) := Below.refl _ _
        have HRS := Lib.hid hrest
        have hrw : nb ≤ wr.heap.size := by rw [HNB.out]; exact hA.size
        clear hP hop hBr hA hO hG hR hfr hrest
        rcases hso with ⟨rfl, rfl, rfl⟩ | ⟨rfl, rfl, rfl⟩ | ⟨rfl, rfl, rfl⟩
        · have HS := Lib.hid hs
          clear hs
          have hc := r4is_yes EV i (by omega) o 0 ⟨#[42]⟩ (by rw [isT_some HS.out]; simp) wr (HBR.out.then HBL0.out) (HR0.out.below HBL0.out)
          go_wp2_with fail
          refine hc.mono ?_
          rintro r2 v1 ⟨rfl, hb⟩
          have HBL1 := Lib.hid (below_next HBL0.out hb)
          clear hc hb HBL0
          have hc := r4is_no EV i (by omega) o 0 0 ⟨#[100, 105, 118]⟩ (Or.inl (by rw [isT_some HS.out]; decide)) v1 (HBR.out.then HBL1.out) (HR0.out.below HBL1.out)
          go_wp2_with fail
          refine hc.mono ?_
          rintro r2 v2 ⟨rfl, hb⟩
          have HBL2 := Lib.hid (below_next HBL1.out hb)
          clear hc hb HBL1
          have hc := r4is_no EV i (by omega) o 0 0 ⟨#[109, 111, 100]⟩ (Or.inl (by rw [isT_some HS.out]; decide)) v2 (HBR.out.then HBL2.out) (HR0.out.below HBL2.out)
          go_wp2_with fail
          refine hc.mono ?_
          rintro r2 v3 ⟨rfl, hb⟩
          have HBL3 := Lib.hid (below_next HBL2.out hb)
          clear hc hb HBL2
          have hR9 := HR0.out.below HBL3.out
          obtain ⟨c0, c1, c2, c3, c4⟩ := hR9.cells
          obtain ⟨f0, f1, f2, f3, f4⟩ := hR9.free
          have HR9 := Lib.hid (hR9.setI ((i : Int) + 1))
          have HA9 : Hid (Al rb wr (v3.setCell ⟨rb, 1, none⟩ (.int .i64 ((i : Int) + 1)))) := (Al.of HBL3.out).set _ _
          clear hR9 HBL3
          obtain ⟨r3, hr3⟩ : ∃ r3, P L g3 (.bin 8) (i + 1) o = some r3 := by
            rcases HRS.out with ⟨e, h, _⟩ | ⟨a, i, h, _⟩
            · exact ⟨_, h⟩
            · exact ⟨_, h⟩
          have HR3 := Lib.hid hr3
          clear hr3
          go_wp2_with fail
          generalize v3.setCell ⟨rb, 1, none⟩ (.int .i64 ((i : Int) + 1)) = w2 at *
          have hA2 := HA9.out
          have hcall := IH.out g3 (by omega) 8 (i + 1) o r3 w2 (by omega) (by omega) HR3.out (HBR.out.next hA2) (by simpa using HR9.out)
          have HA2 : Hid (Al rb w w2) := HA.out.next hA2
          have HO2 : Hid (OwnE nb w2 (.slice va (F.flat 0).length vc) (F.flat 0)) := hA2.ownE HO.out hlt
          have hrw2 : nb ≤ w2.heap.size := by have := hA2.size; omega
          clear hA2 HA9 HR9 HA HO HBR hrw c0 c1 c2 c3 c4 f0 f1 f2 f3 f4
          refine hcall.mono ?_
          rintro e w3 ⟨hA3, hpost⟩
          have HA3 : Hid (Al rb w w3) := HA2.out.next hA3
          have HO3 := Lib.hid (hA3.ownE HO2.out hlt)
          have hrw3 : nb ≤ w3.heap.size := by have := hA3.size; omega
          clear hcall hA3
          match r3, hpost with
          | .error (c, p), ⟨y, yn, yk, i3, he, hc, hi3, hR3⟩ =>
            subst he
            have hj := r4join_no i3 o c p 16 hc _ (.slice va (F.flat 0).length vc) (.slice y yn yk) w3 hR3
            have HRE : Hid (r = .error (c, p)) := by
              rcases HRS.out with ⟨e, h, h2⟩ | ⟨a, i, h, _⟩
              · have h3 := HR3.out.symm.trans h; cases h3; exact h2
              · have h3 := HR3.out.symm.trans h; cases h3
            have HR4 := Lib.hid hR3
            clear hR3
            go_wp2_with fail
            refine hj.mono ?_
            rintro r4 w4 ⟨rfl, rfl⟩
            clear hj
            go_wp2_with fail
            go_roundw
            case rel => exact ⟨HA3.out, Or.inr ⟨c, p, none, 0, 0, i3, HRE.out, hc, hi3, HR4.out, rfl⟩⟩
            case measure => rw [HM.out, mR_err HR4.out.cells.2.2.2.1 hc]; omega
          | .ok (l, j), ⟨G, v, hl, he, hO4, hR4⟩ =>
            subst hl he
            obtain ⟨g1, g2, g3', g4⟩ := (P_ok EV.out.ok g3).bin (by omega) HR3.out
            obtain ⟨ya, yc, rfl, -⟩ := hO4.form
            have hj := r4join_ok j o 0 _ 16 F G (.slice va (F.flat 0).length vc) (.slice ya (G.flat 0).length yc) w3 hR4 HO3.out.isE hO4.isE HG.out.one g1.one (by omega) (by omega)
            have HRE : Hid (P L g3 (.loop 7 (both 16 false F G)) j o = some r) := by
              rcases HRS.out with ⟨e, h, h2⟩ | ⟨a, i, h, h2⟩
              · have h3 := HR3.out.symm.trans h; cases h3
              · have h3 := HR3.out.symm.trans h; cases h3
                rcases h2 with ⟨h2, _⟩ | ⟨_, h2⟩
                · omega
                · exact h2
            have HR5 := Lib.hid hR4
            have HGG := Lib.hid g1
            clear hR4 hO4 g1
            go_wp2_with fail
            refine hj.mono ?_
            rintro r4 w4 ⟨v4, rfl, ho, hb⟩
            have HR6 := Lib.hid (HR5.out.below hb)
            have HA6 := Lib.hid (HA3.out.then hb)
            have HO6 := Lib.hid (ho.mono hrw3)
            have hv := both_size 16 false F G
            have HV := Lib.hid hv
            clear hj ho hb hv
            go_wp2_with fail
            go_roundw
            case rel => exact ⟨HA6.out, Or.inl ⟨both 16 false F G, j, g3, by omega, HO6.out, both_good (by omega) HG.out HGG.out, by rw [HV.out]; omega, g3', HR6.out, HRE.out⟩⟩
            case measure => rw [HM.out, mR_ok HR6.out.cells.2.1 HR6.out.cells.2.2.2.1]; omega
        · have HS := Lib.hid hs
          clear hs
          have hc := r4is_no EV i (by omega) o 0 0 ⟨#[42]⟩ (Or.inl (by rw [isT_some HS.out]; decide)) wr (HBR.out.then HBL0.out) (HR0.out.below HBL0.out)
          go_wp2_with fail
          refine hc.mono ?_
          rintro r2 v1 ⟨rfl, hb⟩
          have HBL1 := Lib.hid (below_next HBL0.out hb)
          clear hc hb HBL0
          have hc := r4is_yes EV i (by omega) o 0 ⟨#[100, 105, 118]⟩ (by rw [isT_some HS.out]; simp) v1 (HBR.out.then HBL1.out) (HR0.out.below HBL1.out)
          go_wp2_with fail
          refine hc.mono ?_
          rintro r2 v2 ⟨rfl, hb⟩
          have HBL2 := Lib.hid (below_next HBL1.out hb)
          clear hc hb HBL1
          have hc := r4is_yes EV i (by omega) o 0 ⟨#[100, 105, 118]⟩ (by rw [isT_some HS.out]; simp) v2 (HBR.out.then HBL2.out) (HR0.out.below HBL2.out)
          go_wp2_with fail
          refine hc.mono ?_
          rintro r2 v3 ⟨rfl, hb⟩
          have HBL3 := Lib.hid (below_next HBL2.out hb)
          clear hc hb HBL2
          have hc := r4is_no EV i (by omega) o 0 0 ⟨#[109, 111, 100]⟩ (Or.inl (by rw [isT_some HS.out]; decide)) v3 (HBR.out.then HBL3.out) (HR0.out.below HBL3.out)
          go_wp2_with fail
          refine hc.mono ?_
          rintro r2 v4 ⟨rfl, hb⟩
          have HBL4 := Lib.hid (below_next HBL3.out hb)
          clear hc hb HBL3
          have hR9 := HR0.out.below HBL4.out
          obtain ⟨c0, c1, c2, c3, c4⟩ := hR9.cells
          obtain ⟨f0, f1, f2, f3, f4⟩ := hR9.free
          have HR9 := Lib.hid (hR9.setI ((i : Int) + 1))
          have HA9 : Hid (Al rb wr (v4.setCell ⟨rb, 1, none⟩ (.int .i64 ((i : Int) + 1)))) := (Al.of HBL4.out).set _ _
          clear hR9 HBL4
          obtain ⟨r3, hr3⟩ : ∃ r3, P L g3 (.bin 8) (i + 1) o = some r3 := by
            rcases HRS.out with ⟨e, h, _⟩ | ⟨a, i, h, _⟩
            · exact ⟨_, h⟩
            · exact ⟨_, h⟩
          have HR3 := Lib.hid hr3
          clear hr3
          go_wp2_with fail
          generalize v4.setCell ⟨rb, 1, none⟩ (.int .i64 ((i : Int) + 1)) = w2 at *
          have hA2 := HA9.out
          have hcall := IH.out g3 (by omega) 8 (i + 1) o r3 w2 (by omega) (by omega) HR3.out (HBR.out.next hA2) (by simpa using HR9.out)
          have HA2 : Hid (Al rb w w2) := HA.out.next hA2
          have HO2 : Hid (OwnE nb w2 (.slice va (F.flat 0).length vc) (F.flat 0)) := hA2.ownE HO.out hlt
          have hrw2 : nb ≤ w2.heap.size := by have := hA2.size; omega
          clear hA2 HA9 HR9 HA HO HBR hrw c0 c1 c2 c3 c4 f0 f1 f2 f3 f4
          refine hcall.mono ?_
          rintro e w3 ⟨hA3, hpost⟩
          have HA3 : Hid (Al rb w w3) := HA2.out.next hA3
          have HO3 := Lib.hid (hA3.ownE HO2.out hlt)
          have hrw3 : nb ≤ w3.heap.size := by have := hA3.size; omega
          clear hcall hA3
          match r3, hpost with
          | .error (c, p), ⟨y, yn, yk, i3, he, hc, hi3, hR3⟩ =>
            subst he
            have hj := r4join_no i3 o c p 17 hc _ (.slice va (F.flat 0).length vc) (.slice y yn yk) w3 hR3
            have HRE : Hid (r = .error (c, p)) := by
              rcases HRS.out with ⟨e, h, h2⟩ | ⟨a, i, h, _⟩
              · have h3 := HR3.out.symm.trans h; cases h3; exact h2
              · have h3 := HR3.out.symm.trans h; cases h3
            have HR4 := Lib.hid hR3
            clear hR3
            go_wp2_with fail
            refine hj.mono ?_
            rintro r4 w4 ⟨rfl, rfl⟩
            clear hj
            go_wp2_with fail
            go_roundw
            case rel => exact ⟨HA3.out, Or.inr ⟨c, p, none, 0, 0, i3, HRE.out, hc, hi3, HR4.out, rfl⟩⟩
            case measure => rw [HM.out, mR_err HR4.out.cells.2.2.2.1 hc]; omega
          | .ok (l, j), ⟨G, v, hl, he, hO4, hR4⟩ =>
            subst hl he
            obtain ⟨g1, g2, g3', g4⟩ := (P_ok EV.out.ok g3).bin (by omega) HR3.out
            obtain ⟨ya, yc, rfl, -⟩ := hO4.form
            have hj := r4join_ok j o 0 _ 17 F G (.slice va (F.flat 0).length vc) (.slice ya (G.flat 0).length yc) w3 hR4 HO3.out.isE hO4.isE HG.out.one g1.one (by omega) (by omega)
            have HRE : Hid (P L g3 (.loop 7 (both 17 false F G)) j o = some r) := by
              rcases HRS.out with ⟨e, h, h2⟩ | ⟨a, i, h, h2⟩
              · have h3 := HR3.out.symm.trans h; cases h3
              · have h3 := HR3.out.symm.trans h; cases h3
                rcases h2 with ⟨h2, _⟩ | ⟨_, h2⟩
                · omega
                · exact h2
            have HR5 := Lib.hid hR4
            have HGG := Lib.hid g1
            clear hR4 hO4 g1
            go_wp2_with fail
            refine hj.mono ?_
            rintro r4 w4 ⟨v4, rfl, ho, hb⟩
            have HR6 := Lib.hid (HR5.out.below hb)
            have HA6 := Lib.hid (HA3.out.then hb)
            have HO6 := Lib.hid (ho.mono hrw3)
            have hv := both_size 17 false F G
            have HV := Lib.hid hv
            clear hj ho hb hv
            go_wp2_with fail
            go_roundw
            case rel => exact ⟨HA6.out, Or.inl ⟨both 17 false F G, j, g3, by omega, HO6.out, both_good (by omega) HG.out HGG.out, by rw [HV.out]; omega, g3', HR6.out, HRE.out⟩⟩
            case measure => rw [HM.out, mR_ok HR6.out.cells.2.1 HR6.out.cells.2.2.2.1]; omega
        · have HS := Lib.hid hs
          clear hs
          have hc := r4is_no EV i (by omega) o 0 0 ⟨#[42]⟩ (Or.inl (by rw [isT_some HS.out]; decide)) wr (HBR.out.then HBL0.out) (HR0.out.below HBL0.out)
          go_wp2_with fail
          refine hc.mono ?_
          rintro r2 v1 ⟨rfl, hb⟩
          have HBL1 := Lib.hid (below_next HBL0.out hb)
          clear hc hb HBL0
          have hc := r4is_no EV i (by omega) o 0 0 ⟨#[100, 105, 118]⟩ (Or.inl (by rw [isT_some HS.out]; decide)) v1 (HBR.out.then HBL1.out) (HR0.out.below HBL1.out)
          go_wp2_with fail
          refine hc.mono ?_
          rintro r2 v2 ⟨rfl, hb⟩
          have HBL2 := Lib.hid (below_next HBL1.out hb)
          clear hc hb HBL1
          have hc := r4is_yes EV i (by omega) o 0 ⟨#[109, 111, 100]⟩ (by rw [isT_some HS.out]; simp) v2 (HBR.out.then HBL2.out) (HR0.out.below HBL2.out)
          go_wp2_with fail
          refine hc.mono ?_
          rintro r2 v3 ⟨rfl, hb⟩
          have HBL3 := Lib.hid (below_next HBL2.out hb)
          clear hc hb HBL2
          have hc := r4is_no EV i (by omega) o 0 0 ⟨#[100, 105, 118]⟩ (Or.inl (by rw [isT_some HS.out]; decide)) v3 (HBR.out.then HBL3.out) (HR0.out.below HBL3.out)
          go_wp2_with fail
          refine hc.mono ?_
          rintro r2 v4 ⟨rfl, hb⟩
          have HBL4 := Lib.hid (below_next HBL3.out hb)
          clear hc hb HBL3
          have hc := r4is_yes EV i (by omega) o 0 ⟨#[109, 111, 100]⟩ (by rw [isT_some HS.out]; simp) v4 (HBR.out.then HBL4.out) (HR0.out.below HBL4.out)
          go_wp2_with fail
          refine hc.mono ?_
          rintro r2 v5 ⟨rfl, hb⟩
          have HBL5 := Lib.hid (below_next HBL4.out hb)
          clear hc hb HBL4
          have hR9 := HR0.out.below HBL5.out
          obtain ⟨c0, c1, c2, c3, c4⟩ := hR9.cells
          obtain ⟨f0, f1, f2, f3, f4⟩ := hR9.free
          have HR9 := Lib.hid (hR9.setI ((i : Int) + 1))
          have HA9 : Hid (Al rb wr (v5.setCell ⟨rb, 1, none⟩ (.int .i64 ((i : Int) + 1)))) := (Al.of HBL5.out).set _ _
          clear hR9 HBL5
          obtain ⟨r3, hr3⟩ : ∃ r3, P L g3 (.bin 8) (i + 1) o = some r3 := by
            rcases HRS.out with ⟨e, h, _⟩ | ⟨a, i, h, _⟩
            · exact ⟨_, h⟩
            · exact ⟨_, h⟩
          have HR3 := Lib.hid hr3
          clear hr3
          go_wp2_with fail
          generalize v5.setCell ⟨rb, 1, none⟩ (.int .i64 ((i : Int) + 1)) = w2 at *
          have hA2 := HA9.out
          have hcall := IH.out g3 (by omega) 8 (i + 1) o r3 w2 (by omega) (by omega) HR3.out (HBR.out.next hA2) (by simpa using HR9.out)
          have HA2 : Hid (Al rb w w2) := HA.out.next hA2
          have HO2 : Hid (OwnE nb w2 (.slice va (F.flat 0).length vc) (F.flat 0)) := hA2.ownE HO.out hlt
          have hrw2 : nb ≤ w2.heap.size := by have := hA2.size; omega
          clear hA2 HA9 HR9 HA HO HBR hrw c0 c1 c2 c3 c4 f0 f1 f2 f3 f4
          refine hcall.mono ?_
          rintro e w3 ⟨hA3, hpost⟩
          have HA3 : Hid (Al rb w w3) := HA2.out.next hA3
          have HO3 := Lib.hid (hA3.ownE HO2.out hlt)
          have hrw3 : nb ≤ w3.heap.size := by have := hA3.size; omega
          clear hcall hA3
          match r3, hpost with
          | .error (c, p), ⟨y, yn, yk, i3, he, hc, hi3, hR3⟩ =>
            subst he
            have hj := r4join_no i3 o c p 18 hc _ (.slice va (F.flat 0).length vc) (.slice y yn yk) w3 hR3
            have HRE : Hid (r = .error (c, p)) := by
              rcases HRS.out with ⟨e, h, h2⟩ | ⟨a, i, h, _⟩
              · have h3 := HR3.out.symm.trans h; cases h3; exact h2
              · have h3 := HR3.out.symm.trans h; cases h3
            have HR4 := Lib.hid hR3
            clear hR3
            go_wp2_with fail
            refine hj.mono ?_
            rintro r4 w4 ⟨rfl, rfl⟩
            clear hj
            go_wp2_with fail
            go_roundw
            case rel => exact ⟨HA3.out, Or.inr ⟨c, p, none, 0, 0, i3, HRE.out, hc, hi3, HR4.out, rfl⟩⟩
            case measure => rw [HM.out, mR_err HR4.out.cells.2.2.2.1 hc]; omega
          | .ok (l, j), ⟨G, v, hl, he, hO4, hR4⟩ =>
            subst hl he
            obtain ⟨g1, g2, g3', g4⟩ := (P_ok EV.out.ok g3).bin (by omega) HR3.out
            obtain ⟨ya, yc, rfl, -⟩ := hO4.form
            have hj := r4join_ok j o 0 _ 18 F G (.slice va (F.flat 0).length vc) (.slice ya (G.flat 0).length yc) w3 hR4 HO3.out.isE hO4.isE HG.out.one g1.one (by omega) (by omega)
            have HRE : Hid (P L g3 (.loop 7 (both 18 false F G)) j o = some r) := by
              rcases HRS.out with ⟨e, h, h2⟩ | ⟨a, i, h, h2⟩
              · have h3 := HR3.out.symm.trans h; cases h3
              · have h3 := HR3.out.symm.trans h; cases h3
                rcases h2 with ⟨h2, _⟩ | ⟨_, h2⟩
                · omega
                · exact h2
            have HR5 := Lib.hid hR4
            have HGG := Lib.hid g1
            clear hR4 hO4 g1
            go_wp2_with fail
            refine hj.mono ?_
            rintro r4 w4 ⟨v4, rfl, ho, hb⟩
            have HR6 := Lib.hid (HR5.out.below hb)
            have HA6 := Lib.hid (HA3.out.then hb)
            have HO6 := Lib.hid (ho.mono hrw3)
            have hv := both_size 18 false F G
            have HV := Lib.hid hv
            clear hj ho hb hv
            go_wp2_with fail
            go_roundw
            case rel => exact ⟨HA6.out, Or.inl ⟨both 18 false F G, j, g3, by omega, HO6.out, both_good (by omega) HG.out HGG.out, by rw [HV.out]; omega, g3', HR6.out, HRE.out⟩⟩
            case measure => rw [HM.out, mR_ok HR6.out.cells.2.1 HR6.out.cells.2.2.2.1]; omega
    · have HE : Hid (∀ w2, Below wr.heap.size wr w2 → RPost (Rd rb (.slice a L.length cc)) rb o w r (.returned (.slice x n k)) w2) := fun w2 hb => by rw [hr]; exact rpost_err (hA.then hb) hc hi (hR.below hb)
      have HR0 := Lib.hid hR
      have HB0 : Hid (Al rb w0 wr) := HB.out.next hA
      have HBL0 : Hid (Below wr.heap.size wr wr) := Below.refl _ _
      have hno0 : Hid (isT L i ⟨#[42]⟩ = false ∨ c ≠ 0) := Or.inr hc
      have hno1 : Hid (isT L i ⟨#[100, 105, 118]⟩ = false ∨ c ≠ 0) := Or.inr hc
      have hno2 : Hid (isT L i ⟨#[109, 111, 100]⟩ = false ∨ c ≠ 0) := Or.inr hc
      clear hA hR hr hc
      have hc0 := r4is_no EV i (by omega) o c p ⟨#[42]⟩ hno0.out wr HB0.out HR0.out
      go_wp2_with fail
      refine hc0.mono ?_
      rintro r2 w2 ⟨rfl, hb⟩
      have HR1 := Lib.hid (HR0.out.below hb)
      have HB1 := Lib.hid (HB0.out.then hb)
      have HBL1 := Lib.hid (below_next HBL0.out hb)
      clear hc0 hb HR0 HB0 HBL0
      have hc1 := r4is_no EV i (by omega) o c p ⟨#[100, 105, 118]⟩ hno1.out w2 HB1.out HR1.out
      go_wp2_with fail
      refine hc1.mono ?_
      rintro r2 w3 ⟨rfl, hb⟩
      have HR2 := Lib.hid (HR1.out.below hb)
      have HB2 := Lib.hid (HB1.out.then hb)
      have HBL2 := Lib.hid (below_next HBL1.out hb)
      clear hc1 hb HR1 HB1 HBL1
      have hc2 := r4is_no EV i (by omega) o c p ⟨#[109, 111, 100]⟩ hno2.out w3 HB2.out HR2.out
      go_wp2_with fail
      refine hc2.mono ?_
      rintro r2 w4 ⟨rfl, hb⟩
      have HR3 := Lib.hid (HR2.out.below hb)
      have HB3 := Lib.hid (HB2.out.then hb)
      have HBL3 := Lib.hid (below_next HBL2.out hb)
      clear hc2 hb HR2 HB2 HBL2
      go_wp2_with fail
      go_ret
      exact HE.out w4 HBL3.out
end
end Go.Proofs.YtjnpkdpljmkpiaaGreatDoor
namespace Go.Proofs.YtjnpkdpljmkpiaaGreatDoor
open Go.RowKit
set_option maxRecDepth 20000
def NodePost (w : World) (s : St) (t l g : Nat) (e : Ending) (w' : World) : Prop :=
  ∃ (r er : Nat) (s' : St), e = .returned (.tuple #[.int .i64 r, .int .i64 er]) ∧ StoreAt w' s' ∧ More w s s' ∧ Fr s.bl w w' ∧ s'.ns.length ≤ s.ns.length + 1 ∧ r < s'.ns.length ∧
    ((er = 0 ∧ t ≤ Dd.T s'.ns r ∧ ∀ env, Dd.den s'.ns env r = if env t then Dd.den s.ns env g else Dd.den s.ns env l) ∨ (er = 18 ∧ r = 0 ∧ s.ns.length = s.budget))
set_option maxHeartbeats 400000 in
theorem node_same (w : World) (s : St) (_h : StoreAt w s) (t l : Nat) :
    Calls Tryz.prog 99 #[.pointer (some ⟨s.sb, 0, none⟩), .agg #[.int .i64 t, .int .i64 l, .int .i64 l]] w fun e w' => e = .returned (.tuple #[.int .i64 l, .int .i64 0]) ∧ Below w.heap.size w w' := by
  go_enter Tryz.func99, Tryz.ntmps99
  go_wp2
  go_ret2
  exact ⟨rfl, (Below.refl _ _).alloc (Nat.le_refl _) _⟩
set_option maxHeartbeats 400000 in
theorem node_hit (w : World) (s : St) (h : StoreAt w s) (t l g f : Nat) (e : l ≠ g) (hq : look (t, l, g) (numbering s.ns) = some f) :
    Calls Tryz.prog 99 #[.pointer (some ⟨s.sb, 0, none⟩), .agg #[.int .i64 t, .int .i64 l, .int .i64 g]] w fun e w' => e = .returned (.tuple #[.int .i64 f, .int .i64 0]) ∧ Below w.heap.size w w' := by
  have c3 := h.c3
  have hlt : s.sb < w.heap.size := h.lt (Or.inl rfl)
  have e' : ((l : Int) == (g : Int)) = false := by simp; omega
  have hlk : ∀ n, (Instr.lookup 110 (.map (some s.mb)) (.agg #[.int .i64 t, .int .i64 l, .int .i64 g]) true).run Tryz.prog ((w.alloc (.cells #[.int .i64 t, .int .i64 l, .int .i64 g] 108)).drewN n) = .ok (.tuple #[.int .i64 f, .bool true]) ((w.alloc (.cells #[.int .i64 t, .int .i64 l, .int .i64 g] 108)).drewN n) := by
    intro n
    have hm : MapIs tri vInt ((w.alloc (.cells #[.int .i64 t, .int .i64 l, .int .i64 g] 108)).drewN n) s.mb (numbering s.ns) := h.numbers.of_block (Below.heap_alloc _ _ _ h.numbers.lt)
    have := hm.lookup keyNode Tryz.underlying110 zeroInt (t, l, g)
    rw [hq] at this
    exact this
  go_enter Tryz.func99, Tryz.ntmps99
  go_wp2
  go_quiet (fail)
  go_wp2
  go_ret2
  exact ⟨rfl, below_drewN ((Below.refl _ _).alloc (Nat.le_refl _) _) _⟩
set_option maxHeartbeats 400000 in
theorem node_full (w : World) (s : St) (h : StoreAt w s) (t l g : Nat) (e : l ≠ g) (hq : look (t, l, g) (numbering s.ns) = none) (hroom : s.ns.length = s.budget) :
    Calls Tryz.prog 99 #[.pointer (some ⟨s.sb, 0, none⟩), .agg #[.int .i64 t, .int .i64 l, .int .i64 g]] w fun e w' => e = .returned (.tuple #[.int .i64 0, .int .i64 18]) ∧ Below w.heap.size w w' := by
  have c1 := h.c1
  have c2 := h.c2
  have c3 := h.c3
  have hlt : s.sb < w.heap.size := h.lt (Or.inl rfl)
  have e' : ((l : Int) == (g : Int)) = false := by simp; omega
  have e2 : ((s.ns.length : Int) == (s.budget : Int)) = true := by simp; omega
  have hlk : ∀ n, (Instr.lookup 110 (.map (some s.mb)) (.agg #[.int .i64 t, .int .i64 l, .int .i64 g]) true).run Tryz.prog ((w.alloc (.cells #[.int .i64 t, .int .i64 l, .int .i64 g] 108)).drewN n) = .ok (.tuple #[.int .i64 0, .bool false]) ((w.alloc (.cells #[.int .i64 t, .int .i64 l, .int .i64 g] 108)).drewN n) := by
    intro n
    have hm : MapIs tri vInt ((w.alloc (.cells #[.int .i64 t, .int .i64 l, .int .i64 g] 108)).drewN n) s.mb (numbering s.ns) := h.numbers.of_block (Below.heap_alloc _ _ _ h.numbers.lt)
    have := hm.lookup keyNode Tryz.underlying110 zeroInt (t, l, g)
    rw [hq] at this
    exact this
  clear hroom
  go_enter Tryz.func99, Tryz.ntmps99
  go_wp2
  go_quiet (fail)
  go_wp2
  go_quiet (fail)
  go_wp2
  go_ret2
  exact ⟨rfl, below_drewN (below_drewN ((Below.refl _ _).alloc (Nat.le_refl _) _) _) _⟩
theorem T_last (ns : List Dd.Nd) (x : Dd.Nd) : Dd.T (ns ++ [x]) ns.length = x.1 ∧ Dd.L (ns ++ [x]) ns.length = x.2.1 ∧ Dd.H (ns ++ [x]) ns.length = x.2.2 := by
  simp [Dd.T, Dd.L, Dd.H, List.getD]
theorem node_any (w : World) (s : St) (h : StoreAt w s) (t l g : Nat) (hl : l < s.ns.length) (hg : g < s.ns.length) (ht : t < s.vars) (htl : t < Dd.T s.ns l) (hth : t < Dd.T s.ns g) :
    Calls Tryz.prog 99 #[.pointer (some ⟨s.sb, 0, none⟩), .agg #[.int .i64 t, .int .i64 l, .int .i64 g]] w (NodePost w s t l g) := by
  by_cases e : l = g
  · subst e
    refine (node_same w s h t l).mono ?_
    rintro _ w' ⟨rfl, hb⟩
    exact ⟨l, 0, s, rfl, h.below hb, More.refl _ _, Fr.of_below hb _, by omega, hl, Or.inl ⟨rfl, by omega, fun env => by simp⟩⟩
  · rcases hq : look (t, l, g) (numbering s.ns) with _ | f
    · by_cases hroom : s.ns.length = s.budget
      · refine (node_full w s h t l g e hq hroom).mono ?_
        rintro _ w' ⟨rfl, hb⟩
        exact ⟨0, 18, s, rfl, h.below hb, More.refl _ _, Fr.of_below hb _, by omega, by omega, Or.inr ⟨rfl, rfl, hroom⟩⟩
      · refine (node_push w s h t l g hl hg ht htl hth e hq (by have := h.room; omega)).mono ?_
        rintro _ w' ⟨g', cap', rfl, hS, hM, hF⟩
        have hW := hS.wf
        have e1 := T_last s.ns (t, l, g)
        refine ⟨s.ns.length, 0, _, rfl, hS, hM, hF, by simp [St.pushed], by simp [St.pushed], Or.inl ⟨rfl, ?_, fun env => ?_⟩⟩
        · show t ≤ Dd.T (s.ns ++ [(t, l, g)]) s.ns.length
          rw [e1.1]; exact Nat.le_refl _
        · rw [Dd.den_step hW env h.wf.two (by simp [St.pushed])]
          rw [← hM.den h hS env hl, ← hM.den h hS env hg]
          show (if env (Dd.T (s.ns ++ [(t, l, g)]) s.ns.length) then _ else _) = _
          rw [e1.1]
          show (if env t then Dd.den _ env (Dd.H (s.ns ++ [(t, l, g)]) s.ns.length) else Dd.den _ env (Dd.L (s.ns ++ [(t, l, g)]) s.ns.length)) = _
          rw [e1.2.1, e1.2.2]
    · obtain ⟨h2, hf, hgd⟩ := numbering_some hq
      refine (node_hit w s h t l g f e hq).mono ?_
      rintro _ w' ⟨rfl, hb⟩
      have eT : Dd.T s.ns f = t := by unfold Dd.T; rw [hgd]
      have eL : Dd.L s.ns f = l := by unfold Dd.L; rw [hgd]
      have eH : Dd.H s.ns f = g := by unfold Dd.H; rw [hgd]
      exact ⟨f, 0, s, rfl, h.below hb, More.refl _ _, Fr.of_below hb _, by omega, hf, Or.inl ⟨rfl, by omega, fun env => by rw [Dd.den_step h.wf env h2 hf, eT, eL, eH]⟩⟩
end Go.Proofs.YtjnpkdpljmkpiaaGreatDoor
namespace Go.Proofs.YtjnpkdpljmkpiaaGreatDoor
open Go.RowKit
set_option maxRecDepth 20000
def ItePost (w : World) (s : St) (f g h : Nat) (e : Ending) (w' : World) : Prop :=
  ∃ (r er : Nat) (s' : St), e = .returned (.tuple #[.int .i64 r, .int .i64 er]) ∧ StoreAt w' s' ∧ More w s s' ∧ Fr s.bl w w' ∧ r < s'.ns.length ∧
    s'.ns.length + 1 ≤ s.ns.length + 2 ^ (s.vars - min (Dd.T s.ns f) (min (Dd.T s.ns g) (Dd.T s.ns h))) ∧
    ((er = 0 ∧ min (Dd.T s.ns f) (min (Dd.T s.ns g) (Dd.T s.ns h)) ≤ Dd.T s'.ns r ∧ ∀ env, Dd.den s'.ns env r = if Dd.den s.ns env f then Dd.den s.ns env g else Dd.den s.ns env h) ∨
      (er = 18 ∧ r = 0 ∧ s'.ns.length = s.budget))
set_option maxHeartbeats 400000 in
theorem ite_one (w : World) (s : St) (_h : StoreAt w s) (g k : Nat) :
    Calls Tryz.prog 100 #[.pointer (some ⟨s.sb, 0, none⟩), .int .i64 1, .int .i64 g, .int .i64 k] w fun e w' => e = .returned (.tuple #[.int .i64 g, .int .i64 0]) ∧ w' = w := by
  go_enter Tryz.func100, Tryz.ntmps100
  go_wp2_with fail
  go_ret2
  exact ⟨rfl, rfl⟩
set_option maxHeartbeats 400000 in
theorem ite_zero (w : World) (s : St) (_h : StoreAt w s) (g k : Nat) :
    Calls Tryz.prog 100 #[.pointer (some ⟨s.sb, 0, none⟩), .int .i64 0, .int .i64 g, .int .i64 k] w fun e w' => e = .returned (.tuple #[.int .i64 k, .int .i64 0]) ∧ w' = w := by
  go_enter Tryz.func100, Tryz.ntmps100
  go_wp2_with fail
  go_ret2
  exact ⟨rfl, rfl⟩
set_option maxHeartbeats 400000 in
theorem ite_same (w : World) (s : St) (_h : StoreAt w s) (f g : Nat) (hf : 2 ≤ f) :
    Calls Tryz.prog 100 #[.pointer (some ⟨s.sb, 0, none⟩), .int .i64 f, .int .i64 g, .int .i64 g] w fun e w' => e = .returned (.tuple #[.int .i64 g, .int .i64 0]) ∧ w' = w := by
  have h1 : ((f : Int) == 1) = false := by simp; omega
  have h0 : ((f : Int) == 0) = false := by simp; omega
  go_enter Tryz.func100, Tryz.ntmps100
  go_wp2_with fail
  go_ret2
  exact ⟨rfl, rfl⟩
set_option maxHeartbeats 400000 in
theorem ite_hit (w : World) (s : St) (h : StoreAt w s) (f g k n : Nat) (hf : 2 ≤ f) (hgk : g ≠ k) (hq : look (f, g, k) s.ites = some n) :
    Calls Tryz.prog 100 #[.pointer (some ⟨s.sb, 0, none⟩), .int .i64 f, .int .i64 g, .int .i64 k] w fun e w' => e = .returned (.tuple #[.int .i64 n, .int .i64 0]) ∧ Below w.heap.size w w' := by
  have h1 : ((f : Int) == 1) = false := by simp; omega
  have h0 : ((f : Int) == 0) = false := by simp; omega
  have h3 : ((g : Int) == (k : Int)) = false := by simp; omega
  have c4 := h.c4
  have hlt : s.sb < w.heap.size := h.lt (Or.inl rfl)
  have hlk : ∀ m, (Instr.lookup 111 (.map (some s.ib)) (.agg #[.int .i64 f, .int .i64 g, .int .i64 k]) true).run Tryz.prog ((w.alloc (.cells #[.int .i64 f, .int .i64 g, .int .i64 k] 172)).drewN m) = .ok (.tuple #[.int .i64 n, .bool true]) ((w.alloc (.cells #[.int .i64 f, .int .i64 g, .int .i64 k] 172)).drewN m) := by
    intro m
    have hm : MapIs tri vInt ((w.alloc (.cells #[.int .i64 f, .int .i64 g, .int .i64 k] 172)).drewN m) s.ib s.ites := h.ites.of_block (Below.heap_alloc _ _ _ h.ites.lt)
    have := hm.lookup keyTriple Tryz.underlying111 zeroInt (f, g, k)
    rw [hq] at this
    exact this
  go_enter Tryz.func100, Tryz.ntmps100
  go_wp2_with fail
  go_quiet (fail)
  go_wp2_with fail
  go_ret2
  exact ⟨rfl, below_drewN ((Below.refl _ _).alloc (Nat.le_refl _) _) _⟩
structure Key (w W : World) (s0 s : St) (f g k : Nat) : Prop where
  store : StoreAt W s
  more : More w s0 s
  fr : Fr s0.bl w W
  key : W.heap[w.heap.size]? = some (.cells #[.int .i64 f, .int .i64 g, .int .i64 k] 172 (0, 0))
theorem Key.not_bl {w W : World} {s0 s : St} {f g k : Nat} (h : Key w W s0 s f g k) : ¬ s.bl w.heap.size := by
  intro hb
  rcases hb with e | e | e | e
  · have := h.store.cells; rw [← e, h.key] at this; simp at this
  · obtain ⟨_, h2⟩ := h.store.own
    rcases h2 with ⟨h2, _⟩ | ⟨g', cap, cur, hv, _, hh, _⟩
    · simp at h2
    · have eg : g' = s.nb := by simp at hv; exact hv.1.symm
      rw [eg, ← e, h.key] at hh; simp at hh
  · obtain ⟨es, c, hh, _⟩ := h.store.numbers
    rw [← e, h.key] at hh; simp at hh
  · obtain ⟨es, c, hh, _⟩ := h.store.ites
    rw [← e, h.key] at hh; simp at hh
theorem Key.step {w W W' : World} {s0 s s' : St} {f g k : Nat} (h : Key w W s0 s f g k) (hS : StoreAt W' s') (hM : More W s s') (hF : Fr s.bl W W') : Key w W' s0 s' f g k :=
  ⟨hS, h.more.trans hM h.fr.size, h.fr.trans hF fun i hi q => h.more.bl i hi q, by
    rw [hF.block _ (Array.getElem?_eq_some_iff.1 h.key).1 h.not_bl]; exact h.key⟩
theorem Key.below {w W W' : World} {s0 s : St} {f g k : Nat} (h : Key w W s0 s f g k) (hb : Below W.heap.size W W') : Key w W' s0 s f g k :=
  h.step (h.store.below hb) (More.refl _ _) (Fr.of_below hb _)
theorem pow_half {a : Nat} (h : 0 < a) : 2 ^ a = 2 * 2 ^ (a - 1) := by
  obtain ⟨b, rfl⟩ : ∃ b, a = b + 1 := ⟨a - 1, by omega⟩
  rw [Nat.pow_succ, Nat.add_sub_cancel]; omega
theorem ite_sem {vars : Nat} {ns : List Dd.Nd} (W : Dd.WF vars ns) {f g k t : Nat} (hf : f < ns.length) (hg : g < ns.length) (hk : k < ns.length) (tf : t ≤ Dd.T ns f) (tg : t ≤ Dd.T ns g) (tk : t ≤ Dd.T ns k) (htv : t < vars) (env : Nat → Bool) :
    (if env t then (if Dd.den ns env (Dd.half ns f t true) then Dd.den ns env (Dd.half ns g t true) else Dd.den ns env (Dd.half ns k t true))
      else (if Dd.den ns env (Dd.half ns f t false) then Dd.den ns env (Dd.half ns g t false) else Dd.den ns env (Dd.half ns k t false))) =
    if Dd.den ns env f then Dd.den ns env g else Dd.den ns env k := by
  rw [Dd.half_den W env hf tf htv, Dd.half_den W env hg tg htv, Dd.half_den W env hk tk htv, Dd.half_den W env hf tf htv, Dd.half_den W env hg tg htv, Dd.half_den W env hk tk htv]
  cases e : env t
  · have : Dd.upd env t false = env := by rw [← e]; exact Dd.upd_same env t
    rw [this]; simp
  · have : Dd.upd env t true = env := by rw [← e]; exact Dd.upd_same env t
    rw [this]; simp
def St.knows (s : St) (x : Dd.Nd) (n : Nat) : St := { s with ites := putAt x n s.ites }
theorem StoreAt.knows {W W' : World} {s : St} (h : StoreAt W s) {x : Dd.Nd} {n : Nat} (hm : MapIs tri vInt W' s.ib (putAt x n s.ites)) (hg : W.grownBy W' (some s.ib))
    (h1 : x.1 < s.ns.length) (h2 : x.2.1 < s.ns.length) (h3 : x.2.2 < s.ns.length) (h4 : n < s.ns.length) (h5 : min (Dd.T s.ns x.1) (min (Dd.T s.ns x.2.1) (Dd.T s.ns x.2.2)) ≤ Dd.T s.ns n)
    (h6 : ∀ env, Dd.den s.ns env n = if Dd.den s.ns env x.1 then Dd.den s.ns env x.2.1 else Dd.den s.ns env x.2.2) :
    StoreAt W' (s.knows x n) ∧ More W s (s.knows x n) ∧ Fr s.bl W W' := by
  obtain ⟨a1, a2, a3, a4, a5, a6⟩ := h.apart
  have hk : ∀ k, k < W.heap.size → k ≠ s.ib → W'.heap[k]? = W.heap[k]? := fun k hk hn => hg.block k hk (by simpa using hn)
  refine ⟨⟨?_, ?_, ?_, hm, h.apart, h.wf, h.small, h.room, h.most, ?_⟩, ⟨rfl, rfl, rfl, Or.inl rfl, rfl, rfl, [], by simp [St.knows]⟩, ⟨hg.os, hg.tape, hg.output, hg.size, fun k hk' hn => hk k hk' (fun q => hn (Or.inr (Or.inr (Or.inr q))))⟩⟩
  · exact (hk s.sb (h.lt (Or.inl rfl)) a3).trans h.cells
  · exact h.own.kept hg (Or.inr (by simp [Value.ownBlock]; exact a5))
  · exact h.numbers.of_block (hk _ h.numbers.lt a6)
  · intro y m hy
    rcases mem_putAt hy with e | e
    · simp at e; obtain ⟨rfl, rfl⟩ := e; exact ⟨h1, h2, h3, h4, h5, h6⟩
    · exact h.memo y m e
set_option maxHeartbeats 1000000 in
theorem ite_rec (m : Nat) (ih : ∀ (f g k : Nat) (w : World) (s : St), StoreAt w s → f < s.ns.length → g < s.ns.length → k < s.ns.length → s.vars - min (Dd.T s.ns f) (min (Dd.T s.ns g) (Dd.T s.ns k)) ≤ m →
      Calls Tryz.prog 100 #[.pointer (some ⟨s.sb, 0, none⟩), .int .i64 f, .int .i64 g, .int .i64 k] w (ItePost w s f g k))
    (w : World) (s : St) (h : StoreAt w s) (f g k : Nat) (hf2 : 2 ≤ f) (hgk : g ≠ k) (hq : look (f, g, k) s.ites = none) (hf : f < s.ns.length) (hg : g < s.ns.length) (hk : k < s.ns.length)
    (hm : s.vars - min (Dd.T s.ns f) (min (Dd.T s.ns g) (Dd.T s.ns k)) ≤ m + 1) :
    Calls Tryz.prog 100 #[.pointer (some ⟨s.sb, 0, none⟩), .int .i64 f, .int .i64 g, .int .i64 k] w (ItePost w s f g k) := by
  have h1 : ((f : Int) == 1) = false := by simp; omega
  have h0 : ((f : Int) == 0) = false := by simp; omega
  have h3 : ((g : Int) == (k : Int)) = false := by simp; omega
  have hlen := h.len
  have c4 := h.c4
  have c2 := h.c2
  have nf := h.n0 hf
  have ng := h.n0 hg
  have nk := h.n0 hk
  have hlt : s.sb < w.heap.size := h.lt (Or.inl rfl)
  have hlt2 : s.nb < w.heap.size := h.lt (Or.inr (Or.inl rfl))
  have hlk : ∀ m, (Instr.lookup 111 (.map (some s.ib)) (.agg #[.int .i64 f, .int .i64 g, .int .i64 k]) true).run Tryz.prog ((w.alloc (.cells #[.int .i64 f, .int .i64 g, .int .i64 k] 172)).drewN m) = .ok (.tuple #[.int .i64 0, .bool false]) ((w.alloc (.cells #[.int .i64 f, .int .i64 g, .int .i64 k] 172)).drewN m) := by
    intro m
    have hm : MapIs tri vInt ((w.alloc (.cells #[.int .i64 f, .int .i64 g, .int .i64 k] 172)).drewN m) s.ib s.ites := h.ites.of_block (Below.heap_alloc _ _ _ h.ites.lt)
    have := hm.lookup keyTriple Tryz.underlying111 zeroInt (f, g, k)
    rw [hq] at this
    exact this
  obtain ⟨t, ht⟩ : ∃ t, t = min (Dd.T s.ns f) (min (Dd.T s.ns g) (Dd.T s.ns k)) := ⟨_, rfl⟩
  have hmin3 : ∀ (ts : Array TypeId) (t' : TypeId) (W : World), (Builtin.min_ ts t' #[.int .i64 (Dd.T s.ns f), .int .i64 (Dd.T s.ns g), .int .i64 (Dd.T s.ns k)]).run Tryz.prog W = .ok (.int .i64 t) W := by
    intro ts t' W
    have e : (t : Int) = (if (Dd.T s.ns k : Int) < (if (Dd.T s.ns g : Int) < (Dd.T s.ns f : Int) then (Dd.T s.ns g : Int) else (Dd.T s.ns f : Int)) then (Dd.T s.ns k : Int) else (if (Dd.T s.ns g : Int) < (Dd.T s.ns f : Int) then (Dd.T s.ns g : Int) else (Dd.T s.ns f : Int))) := by
      repeat' split
      all_goals omega
    rw [e]
    exact run_min_int3 _ _ _ _ _ _ _ _ _
  have HT : Hid (t = min (Dd.T s.ns f) (min (Dd.T s.ns g) (Dd.T s.ns k))) := ht
  clear ht
  go_enter Tryz.func100, Tryz.ntmps100
  go_wp2_with fail
  go_quiet (fail)
  go_wp2_with fail
  go_quiet (fail)
  go_wp2_with fail
  generalize hW : World.drewN (w.alloc (Obj.cells #[Value.int IntKind.i64 ↑f, Value.int IntKind.i64 ↑g, Value.int IntKind.i64 ↑k] 172)) _ = W
  have hBW : Below w.heap.size w W := by rw [← hW]; exact below_drewN ((Below.refl _ _).alloc (Nat.le_refl _) _) _
  have K0 : Key w W s s f g k := ⟨h.below hBW, More.refl _ _, Fr.of_below hBW _, by rw [← hW]; exact heap_alloc_new w _⟩
  have htf : t ≤ Dd.T s.ns f := by have := HT.out; omega
  have htg : t ≤ Dd.T s.ns g := by have := HT.out; omega
  have htk : t ≤ Dd.T s.ns k := by have := HT.out; omega
  have htv : t < s.vars := by have := h.wf.nd f hf2 hf; omega
  have hmt : s.vars - t ≤ m + 1 := by have := HT.out; omega
  clear hW hBW c4 c2 nf ng nk hlk hmin3 hq hm
  refine (half_any W s K0.store f t false hf).mono ?_
  rintro e W1 ⟨rfl, hb1⟩
  have K1 := K0.below hb1
  clear hb1 K0
  go_wp2_with fail
  refine (half_any W1 s K1.store g t false hg).mono ?_
  rintro e W2 ⟨rfl, hb1⟩
  have K2 := K1.below hb1
  clear hb1 K1
  go_wp2_with fail
  refine (half_any W2 s K2.store k t false hk).mono ?_
  rintro e W3 ⟨rfl, hb1⟩
  have K3 := K2.below hb1
  clear hb1 K2
  go_wp2_with fail
  have q1 := Dd.half_T (b := false) h.wf hf htf htv
  have q2 := Dd.half_T (b := false) h.wf hg htg htv
  have q3 := Dd.half_T (b := false) h.wf hk htk htv
  refine (ih _ _ _ W3 s K3.store (Dd.half_lt h.wf hf) (Dd.half_lt h.wf hg) (Dd.half_lt h.wf hk) (by omega)).mono ?_
  rintro e W4 ⟨r, er, s1, rfl, hS1, hM1, hF1, hr, hcnt, hor⟩
  have K4 := K3.step hS1 hM1 hF1
  have hv1 := hM1.vars
  have hbd1 := hM1.budget
  have hp1 : 2 ^ (s.vars - min (Dd.T s.ns (Dd.half s.ns f t false)) (min (Dd.T s.ns (Dd.half s.ns g t false)) (Dd.T s.ns (Dd.half s.ns k t false)))) ≤ 2 ^ (s.vars - t - 1) := Nat.pow_le_pow_right (by omega) (by omega)
  have hp : 2 ^ (s.vars - t) = 2 * 2 ^ (s.vars - t - 1) := pow_half (by omega)
  have HC : Hid (s1.ns.length + 1 ≤ s.ns.length + 2 ^ (s.vars - t - 1)) := by show _ ≤ _; omega
  have HP : Hid (2 ^ (s.vars - t) = 2 * 2 ^ (s.vars - t - 1)) := hp
  have HV : Hid (s1.vars = s.vars) := hv1
  have HB : Hid (s1.budget = s.budget) := hbd1
  clear hcnt hp1 hp K3 hv1 hbd1
  rcases hor with ⟨rfl, hT1, hd1⟩ | ⟨rfl, rfl, hfull⟩
  · go_wp2_with fail
    have l1 := hM1.len
    have HH := half_any W4 s1 K4.store f t true (by omega)
    rw [K4.more.sb] at HH
    refine HH.mono ?_
    clear HH
    rintro e W5 ⟨rfl, hb1⟩
    have K5 := K4.below hb1
    clear hb1 K4
    go_wp2_with fail
    have HH := half_any W5 s1 K5.store g t true (by omega)
    rw [K5.more.sb] at HH
    refine HH.mono ?_
    clear HH
    rintro e W6 ⟨rfl, hb1⟩
    have K6 := K5.below hb1
    clear hb1 K5
    go_wp2_with fail
    have HH := half_any W6 s1 K6.store k t true (by omega)
    rw [K6.more.sb] at HH
    refine HH.mono ?_
    clear HH
    rintro e W7 ⟨rfl, hb1⟩
    have K7 := K6.below hb1
    clear hb1 K6
    go_wp2_with fail
    have q4 := Dd.half_T (b := true) h.wf hf htf htv
    have q5 := Dd.half_T (b := true) h.wf hg htg htv
    have q6 := Dd.half_T (b := true) h.wf hk htk htv
    have p4 := Dd.half_lt (b := true) (t := t) h.wf hf
    have p5 := Dd.half_lt (b := true) (t := t) h.wf hg
    have p6 := Dd.half_lt (b := true) (t := t) h.wf hk
    have HH := ih (Dd.half s1.ns f t true) (Dd.half s1.ns g t true) (Dd.half s1.ns k t true) W7 s1 K7.store
      (by rw [hM1.half hf]; omega) (by rw [hM1.half hg]; omega) (by rw [hM1.half hk]; omega)
      (by rw [hM1.half hf, hM1.half hg, hM1.half hk, hM1.T p4, hM1.T p5, hM1.T p6, HV.out]; omega)
    rw [K7.more.sb] at HH
    refine HH.mono ?_
    clear HH
    rintro e W8 ⟨r2, er, s2, rfl, hS2, hM2, hF2, hr2, hcnt, hor⟩
    rw [hM1.half hf, hM1.half hg, hM1.half hk, hM1.T p4, hM1.T p5, hM1.T p6, HV.out] at hcnt
    have K8 := K7.step hS2 hM2 hF2
    have hp1 : 2 ^ (s.vars - min (Dd.T s.ns (Dd.half s.ns f t true)) (min (Dd.T s.ns (Dd.half s.ns g t true)) (Dd.T s.ns (Dd.half s.ns k t true)))) ≤ 2 ^ (s.vars - t - 1) := Nat.pow_le_pow_right (by omega) (by omega)
    have HC2 : Hid (s2.ns.length + 1 ≤ s1.ns.length + 2 ^ (s.vars - t - 1)) := by show _ ≤ _; omega
    have HV2 : Hid (s2.vars = s.vars) := hM2.vars.trans HV.out
    have HB2 : Hid (s2.budget = s.budget) := hM2.budget.trans HB.out
    have l2 := hM2.len
    clear hcnt hp1 K7
    rcases hor with ⟨rfl, hT2, hd2⟩ | ⟨rfl, rfl, hfull⟩
    · rw [hM1.half hf, hM1.half hg, hM1.half hk, hM1.T p4, hM1.T p5, hM1.T p6] at hT2
      have T1 : t < Dd.T s2.ns r := by rw [hM2.T hr]; omega
      have T2 : t < Dd.T s2.ns r2 := by omega
      go_wp2_with fail
      have HH := node_any W8 s2 K8.store t r r2 (by omega) hr2 (by rw [HV2.out]; exact htv) T1 T2
      rw [K8.more.sb] at HH
      refine HH.mono ?_
      clear HH
      rintro e W9 ⟨r3, er, s3, rfl, hS3, hM3, hF3, hcnt, hr3, hor⟩
      have K9 := K8.step hS3 hM3 hF3
      have l3 := hM3.len
      have HC3 : Hid (s3.ns.length + 1 ≤ s.ns.length + 2 ^ (s.vars - t)) := by
        show _ ≤ _
        have h1 := HC.out; have h2 := HC2.out; have h3 := HP.out; omega
      clear K8 hcnt
      rcases hor with ⟨rfl, hT3, hd3⟩ | ⟨rfl, rfl, hfull⟩
      · have hmin : min (Dd.T s3.ns f) (min (Dd.T s3.ns g) (Dd.T s3.ns k)) ≤ Dd.T s3.ns r3 := by
          rw [K9.more.T hf, K9.more.T hg, K9.more.T hk, ← HT.out]; exact hT3
        have hsem : ∀ env, Dd.den s3.ns env r3 = if Dd.den s3.ns env f then Dd.den s3.ns env g else Dd.den s3.ns env k := by
          intro env
          rw [hd3 env, hM2.den hS1 hS2 env hr, hd1 env, hd2 env, hM1.half hf, hM1.half hg, hM1.half hk, hM1.den h hS1 env p4, hM1.den h hS1 env p5, hM1.den h hS1 env p6,
            K9.more.den h hS3 env hf, K9.more.den h hS3 env hg, K9.more.den h hS3 env hk]
          exact ite_sem h.wf hf hg hk htf htg htk htv env
        have c4 := hS3.c4
        rw [K9.more.sb] at c4
        have k0 : W9.cell? ⟨w.heap.size, 0, none⟩ = some (.int .i64 f) := by simp [World.cell?, K9.key]
        have k1 : W9.cell? ⟨w.heap.size, 1, none⟩ = some (.int .i64 g) := by simp [World.cell?, K9.key]
        have k2 : W9.cell? ⟨w.heap.size, 2, none⟩ = some (.int .i64 k) := by simp [World.cell?, K9.key]
        go_wp2_with fail
        go_still_tail 6, (by kernel_rfl)
        refine wpList_update_is rfl _ _ _ _ rfl keyTriple Tryz.underlying111 hS3.ites rfl (f, g, k) r3 rfl rfl ?_
        intro W10 hm10 hg10
        obtain ⟨hS, hM, hF⟩ := hS3.knows hm10 ⟨hg10.os, hg10.tape, hg10.output, hg10.size, hg10.block⟩ (by show f < _; omega) (by show g < _; omega) (by show k < _; omega) hr3 hmin hsem
        have K10 := K9.step hS hM hF
        clear c4 k0 k1 k2
        go_wp2_with fail
        go_ret2
        refine ⟨r3, 0, _, rfl, hS, K10.more, K10.fr, hr3, ?_, Or.inl ⟨rfl, ?_, fun env => ?_⟩⟩
        · rw [← HT.out]; exact HC3.out
        · rw [← HT.out]; exact hT3
        · refine (hsem env).trans ?_
          rw [K9.more.den h hS3 env hf, K9.more.den h hS3 env hg, K9.more.den h hS3 env hk]
      · have HF : Hid (s2.ns.length = s2.budget) := hfull
        clear hfull
        go_wp2_with fail
        go_ret2
        refine ⟨0, 18, s3, rfl, hS3, K9.more, K9.fr, by omega, ?_, Or.inr ⟨rfl, rfl, ?_⟩⟩
        · rw [← HT.out]; exact HC3.out
        · have h1 := HF.out; have h2 := HB2.out; have h3 := hS3.room; have h4 := hM3.budget; omega
    · have HF : Hid (s2.ns.length = s1.budget) := hfull
      clear hfull
      go_wp2_with fail
      go_ret2
      refine ⟨0, 18, s2, rfl, hS2, K8.more, K8.fr, by omega, ?_, Or.inr ⟨rfl, rfl, HF.out.trans HB.out⟩⟩
      rw [← HT.out, HP.out]; have h1 := HC.out; have h2 := HC2.out; omega
  · have HF : Hid (s1.ns.length = s.budget) := hfull
    clear hfull
    go_wp2_with fail
    go_ret2
    refine ⟨0, 18, s1, rfl, hS1, K4.more, K4.fr, by omega, ?_, Or.inr ⟨rfl, rfl, HF.out⟩⟩
    rw [← HT.out, HP.out]; have := HC.out; omega
theorem ite_any : ∀ (m f g k : Nat) (w : World) (s : St), StoreAt w s → f < s.ns.length → g < s.ns.length → k < s.ns.length → s.vars - min (Dd.T s.ns f) (min (Dd.T s.ns g) (Dd.T s.ns k)) ≤ m →
      Calls Tryz.prog 100 #[.pointer (some ⟨s.sb, 0, none⟩), .int .i64 f, .int .i64 g, .int .i64 k] w (ItePost w s f g k) := by
  intro m
  have base : ∀ (f g k : Nat) (w : World) (s : St), StoreAt w s → f < s.ns.length → g < s.ns.length → k < s.ns.length → f ≤ 1 →
      Calls Tryz.prog 100 #[.pointer (some ⟨s.sb, 0, none⟩), .int .i64 f, .int .i64 g, .int .i64 k] w (ItePost w s f g k) := by
    intro f g k w s h hf hg hk hf1
    have pos : 0 < 2 ^ (s.vars - min (Dd.T s.ns f) (min (Dd.T s.ns g) (Dd.T s.ns k))) := Nat.pow_pos (by omega)
    have : f = 0 ∨ f = 1 := by omega
    rcases this with rfl | rfl
    · refine (ite_zero w s h g k).mono ?_
      rintro _ w' ⟨rfl, rfl⟩
      exact ⟨k, 0, s, rfl, h, More.refl _ _, Fr.refl _ _, hk, by omega, Or.inl ⟨rfl, by omega, fun env => by rw [Dd.den_zero]; simp⟩⟩
    · refine (ite_one w s h g k).mono ?_
      rintro _ w' ⟨rfl, rfl⟩
      exact ⟨g, 0, s, rfl, h, More.refl _ _, Fr.refl _ _, hg, by omega, Or.inl ⟨rfl, by omega, fun env => by rw [Dd.den_one]; simp⟩⟩
  have same : ∀ (f g : Nat) (w : World) (s : St), StoreAt w s → f < s.ns.length → g < s.ns.length → 2 ≤ f →
      Calls Tryz.prog 100 #[.pointer (some ⟨s.sb, 0, none⟩), .int .i64 f, .int .i64 g, .int .i64 g] w (ItePost w s f g g) := by
    intro f g w s h hf hg hf2
    have pos : 0 < 2 ^ (s.vars - min (Dd.T s.ns f) (min (Dd.T s.ns g) (Dd.T s.ns g))) := Nat.pow_pos (by omega)
    refine (ite_same w s h f g hf2).mono ?_
    rintro _ w' ⟨rfl, rfl⟩
    exact ⟨g, 0, s, rfl, h, More.refl _ _, Fr.refl _ _, hg, by omega, Or.inl ⟨rfl, by omega, fun env => by simp⟩⟩
  have hit : ∀ (f g k n : Nat) (w : World) (s : St), StoreAt w s → f < s.ns.length → g < s.ns.length → k < s.ns.length → 2 ≤ f → g ≠ k → look (f, g, k) s.ites = some n →
      Calls Tryz.prog 100 #[.pointer (some ⟨s.sb, 0, none⟩), .int .i64 f, .int .i64 g, .int .i64 k] w (ItePost w s f g k) := by
    intro f g k n w s h hf hg hk hf2 hgk hq
    have pos : 0 < 2 ^ (s.vars - min (Dd.T s.ns f) (min (Dd.T s.ns g) (Dd.T s.ns k))) := Nat.pow_pos (by omega)
    obtain ⟨b1, b2, b3, b4, b5, b6⟩ := h.memo _ _ (look_mem hq)
    refine (ite_hit w s h f g k n hf2 hgk hq).mono ?_
    rintro _ w' ⟨rfl, hb⟩
    exact ⟨n, 0, s, rfl, h.below hb, More.refl _ _, Fr.of_below hb _, b4, by omega, Or.inl ⟨rfl, b5, b6⟩⟩
  induction m with
  | zero =>
    intro f g k w s h hf hg hk hm
    by_cases hf1 : f ≤ 1
    · exact base f g k w s h hf hg hk hf1
    · have := h.wf.nd f (by omega) hf; omega
  | succ m ih =>
    intro f g k w s h hf hg hk hm
    by_cases hf1 : f ≤ 1
    · exact base f g k w s h hf hg hk hf1
    · by_cases hgk : g = k
      · subst hgk; exact same f g w s h hf hg (by omega)
      · rcases hq : look (f, g, k) s.ites with _ | n
        · exact ite_rec m ih w s h f g k (by omega) hgk hq hf hg hk hm
        · exact hit f g k n w s h hf hg hk (by omega) hgk hq
end Go.Proofs.YtjnpkdpljmkpiaaGreatDoor
