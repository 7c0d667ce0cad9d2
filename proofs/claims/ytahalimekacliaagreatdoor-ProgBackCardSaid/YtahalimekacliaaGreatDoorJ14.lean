/- The program's reader of expressions: a level of operators between two operands: the walk. -/
import Derived.Test.YtahalimekacliaaGreatDoorJ11
set_option linter.unusedVariables false
set_option linter.unusedSimpArgs false
namespace Go.Proofs.YtahalimekacliaaGreatDoor
open Go.RowKit Go.Shelf Tx Px
structure EnvX (w0 : World) (rb : Nat) (a : Option Addr) (cc : Nat) (L : List Tok) (lb pb : Nat) (ms : Nat → Nat) : Prop where
  ev : EnvOk w0 rb a cc L
  lv : ∀ W, Al rb w0 W → LvAt lb ms W
  pm : ∀ W, Al rb w0 W → MapIs Value.string vI W pb preL
abbrev RE (rb : Nat) (a : Option Addr) (cc : Nat) (L : List Tok) (lb pb : Nat) (W : World) (i o c p : Int) : Prop :=
  Re W rb (.slice a L.length cc) i o c p (.slice (some ⟨lb, 0, none⟩) 8 8) (.map (some pb))
def BnOk (w0 : World) (rb : Nat) (a : Option Addr) (cc : Nat) (L : List Tok) (lb pb : Nat) (f : Nat) : Prop :=
  ∀ (n I o : Nat) (r : Res) (w : World), n ≤ 8 → I ≤ L.length → P L f (.bin n) I o = some r → Al rb w0 w → RE rb a cc L lb pb w I o 0 0 →
    Calls Tryz.prog 116 #[.pointer (some ⟨rb, 0, none⟩), .int .i64 (n : Nat)] w (RPost (RE rb a cc L lb pb) rb o w r)
theorem opAt_sw {n : Nat} {s : ByteArray} {op : Int} (h : Px.opAt n s = some (op, true)) : n = 5 := by
  unfold Px.opAt at h
  split at h
  all_goals first | rfl | (exfalso; repeat' (split at h)) <;> first | (cases h; done) | skip
theorem look_of {n : Nat} {s : ByteArray} {op : Int} {sw : Bool} (h : Px.opAt n s = some (op, sw)) : ∃ v, look s (lvl n) = some v ∧ ((sw = false ∧ v = op ∧ 0 < v) ∨ (sw = true ∧ v = -op ∧ v < 0)) := by
  have h2 := look_lvl n s
  rw [h] at h2
  cases hv : look s (lvl n) with
  | none => rw [hv] at h2; cases h2
  | some v =>
    rw [hv] at h2
    have hb := lvl_bound hv
    refine ⟨v, rfl, ?_⟩
    simp only [Option.map_some, Option.some.injEq] at h2
    split at h2
    · rename_i hlt; cases h2; exact Or.inr ⟨rfl, by omega, hlt⟩
    · rename_i hlt; cases h2; exact Or.inl ⟨rfl, rfl, by omega⟩
theorem kids_two {op n : Int} {s : ByteArray} (h : 6 ≤ op ∧ op ≤ 20) : (kids (leaf op n s)).length = 2 := by
  rw [kids_leaf, if_neg (by omega), if_neg (by omega), if_neg (by omega), if_pos h]
section
variable {L : List Tok} {a : Option Addr} {cc rb lb pb : Nat} {w0 : World}
def LCopy (rb nb m : Nat) (n : Nat) (W : World) (v : Value) : Prop := ∃ q, v = .pointer (some ⟨q, 0, none⟩) ∧ nb ≤ q ∧ q ≠ rb ∧ Blk W q #[.map (some m), .bool (decide (n ≤ 1)), .bool (decide (n = 5))] 154
theorem LCopy.al {nb m n : Nat} {W W' : World} {v : Value} (h : LCopy rb nb m n W v) (ha : Al rb W W') : LCopy rb nb m n W' v := by
  obtain ⟨q, h1, h2, h3, h4⟩ := h
  exact ⟨q, h1, h2, h3, ha.blk h4 h3⟩
theorem LCopy.below {nb m n : Nat} {W W' : World} {v : Value} (h : LCopy rb nb m n W v) (ha : Below W.heap.size W W') : LCopy rb nb m n W' v := by
  obtain ⟨q, h1, h2, h3, h4⟩ := h
  exact ⟨q, h1, h2, h3, h4.below ha⟩
theorem tri_cells {W : World} {b T : Nat} {x y z : Value} (h : Blk W b #[x, y, z] T) : W.cell? ⟨b, 0, none⟩ = some x ∧ W.cell? ⟨b, 1, none⟩ = some y ∧ W.cell? ⟨b, 2, none⟩ = some z := by
  unfold Blk at h
  refine ⟨?_, ?_, ?_⟩ <;> simp [World.cell?, h]
set_option maxRecDepth 100000 in
set_option maxHeartbeats 8000000 in
theorem binary_any {ms : Nat → Nat} (EX : Hid (EnvX w0 rb a cc L lb pb ms)) (f : Nat) (IH : Hid (∀ g, g < f → BnOk w0 rb a cc L lb pb g)) (n I o : Nat) (hn : n < 8) (r : Res) (w : World) (hI : I ≤ L.length) (hP : P L f (.bin n) I o = some r) (hB : Al rb w0 w) (hR : RE rb a cc L lb pb w I o 0 0) :
    Calls Tryz.prog 116 #[.pointer (some ⟨rb, 0, none⟩), .int .i64 (n : Nat)] w (RPost (RE rb a cc L lb pb) rb o w r) := by
  obtain ⟨g, rfl, hcs⟩ := bin_cases hn hP
  have hL := EX.out.ev.len
  have EV : Hid (EnvOk w0 rb a cc L) := EX.out.ev
  have hlt := hR.lt
  obtain ⟨c0, c1, c2, c3, c4, c5, c6⟩ := hR.cells
  obtain ⟨nb, hnb⟩ : ∃ nb, nb = w.heap.size := ⟨_, rfl⟩
  have HNB := Lib.hid hnb
  have HB := Lib.hid hB
  rw [← hnb] at hlt
  have h1 : ∀ r1, P L g (.bin (n + 1)) I o = some r1 → Calls Tryz.prog 116 #[.pointer (some ⟨rb, 0, none⟩), .int .i64 ((n : Int) + 1)] w (RPost (RE rb a cc L lb pb) rb o w r1) := fun r1 h => IH.out g (by omega) (n + 1) I o r1 w (by omega) hI h hB hR
  have H1 : Hid (∀ r1, P L g (.bin (n + 1)) I o = some r1 → Calls Tryz.prog 116 #[.pointer (some ⟨rb, 0, none⟩), .int .i64 ((n : Int) + 1)] w (RPost (RE rb a cc L lb pb) rb o w r1)) := h1
  have HC := Lib.hid hcs
  have hn8 : ((n : Int) == 8) = false := by rw [beq_eq_false_iff_ne]; omega
  have hn9 : (n : Int) < 8 := by omega
  have hn0 : (0 : Int) ≤ (n : Int) := by omega
  clear hP hcs h1 hB hR hnb
  obtain ⟨r1, hr1⟩ : ∃ r1, P L g (.bin (n + 1)) I o = some r1 := by
    rcases HC.out with ⟨e, h, _⟩ | ⟨a, i, h, _⟩
    · exact ⟨_, h⟩
    · exact ⟨_, h⟩
  have HR1 := Lib.hid hr1
  have hcall := H1.out r1 hr1
  clear hr1 H1
  go_enter Tryz.func116, Tryz.ntmps116
  go_wp2_with fail
  refine hcall.mono ?_
  rintro e w1 ⟨hA, hpost⟩
  have HLP : Hid (∃ av, e = .returned av ∧ (∃ x n k, av = .slice x n k) ∧ LpR (RE rb a cc L lb pb) L rb nb o w n (g + 1) r av w1) := by
    rcases HC.out with ⟨⟨c, p⟩, h, h2⟩ | ⟨F, i, h, h2⟩
    · have h3 := HR1.out.symm.trans h
      cases h3
      obtain ⟨x, n, k, i, h4, h5, h6, h7⟩ := hpost
      exact ⟨_, h4, ⟨_, _, _, rfl⟩, hA, Or.inr ⟨c, p, x, n, k, i, h2, h5, h6, h7, rfl⟩⟩
    · have h3 := HR1.out.symm.trans h
      cases h3
      obtain ⟨F', v, h4, h5, h6, h7⟩ := hpost
      cases h4
      obtain ⟨g1, g2, g3, g4⟩ := (P_ok EV.out.ok g).bin hI h
      obtain ⟨va, vc, hv, -⟩ := h6.form
      exact ⟨v, h5, ⟨_, _, _, hv⟩, hA, Or.inl ⟨F, i, g, by omega, by rw [HNB.out]; exact h6, g1, by omega, g3, h7, h2⟩⟩
  obtain ⟨av, rfl, ⟨ax, an, ak, rfl⟩, hlp⟩ := HLP.out
  have HLP2 := Lib.hid hlp
  have hA1 : Al rb w0 w1 := HB.out.next hA
  have HRX : Hid (w1.cell? ⟨rb, 5, none⟩ = some (.slice (some ⟨lb, 0, none⟩) 8 8)) := by
    obtain ⟨-, ⟨F, i, g2, -, -, -, -, -, hR, -⟩ | ⟨c, p, x, n, k, i, -, -, -, hR, -⟩⟩ := hlp
    · exact hR.cells.2.2.2.2.2.1
    · exact hR.cells.2.2.2.2.2.1
  obtain ⟨M0, l0, l1, l2⟩ := EX.out.lv w1 hA1 n hn
  obtain ⟨m, hm⟩ : ∃ m, m = ms n := ⟨_, rfl⟩
  rw [← hm] at M0 l0
  have HM : Hid (∀ W, Al rb w0 W → MapIs Value.string vI W m (lvl n)) := fun W hW => by rw [hm]; exact (EX.out.lv W hW n hn).1
  clear hm
  clear HLP hlp hpost hA HR1 HC hcall c0 c1 c2 c3 c4 c5 c6
  obtain ⟨rg, hrg⟩ : ∃ rg, rg = decide (n ≤ 1) := ⟨_, rfl⟩
  obtain ⟨oc, hoc⟩ : ∃ oc, oc = decide (n = 5) := ⟨_, rfl⟩
  rw [← hrg] at l1
  rw [← hoc] at l2
  have HRG := Lib.hid hrg
  have HOC := Lib.hid hoc
  have HA1 := Lib.hid hA1
  clear hrg hoc hA1 M0
  have c5 := HRX.out
  go_wp2_with fail
  have HLC : Hid (LCopy rb nb m n (w1.alloc (.cells #[.map (some m), .bool rg, .bool oc] 154)) (.pointer (some ⟨w1.heap.size, 0, none⟩))) := by
    have hs := HLP2.out.1.size
    have h0 := HNB.out
    refine ⟨w1.heap.size, rfl, by omega, by omega, ?_⟩
    rw [← HRG.out, ← HOC.out]; exact Blk.new w1 _ _
  have hlpa : LpR (RE rb a cc L lb pb) L rb nb o w n (g + 1) r (.slice ax an ak) (w1.alloc (.cells #[.map (some m), .bool rg, .bool oc] 154)) := by
    have hbel : Below w1.heap.size w1 (w1.alloc (.cells #[.map (some m), .bool rg, .bool oc] 154)) := (Below.refl _ _).alloc (Nat.le_refl _) _
    obtain ⟨hA, ⟨F, i, g2, k1, k2, k3, k4, k5, hR, k6⟩ | ⟨c, p, x, n, k, i, k1, k2, k3, hR, k4⟩⟩ := HLP2.out
    · exact ⟨hA.then hbel, Or.inl ⟨F, i, g2, k1, k2.below hbel, k3, k4, k5, hR.below hbel, k6⟩⟩
    · exact ⟨hA.then hbel, Or.inr ⟨c, p, x, n, k, i, k1, k2, k3, hR.below hbel, k4⟩⟩
  have HLPA := Lib.hid hlpa
  clear hlpa HLP2 HRX HA1 c5 l0 l1 l2
  go_loopw [5, 6] (fun av lv wr => LpR (RE rb a cc L lb pb) L rb nb o w n (g + 1) r av wr ∧ LCopy rb nb m n wr lv) (fun _ _ wr => mR rb 1 3 L.length wr)
  case atStart => exact ⟨HLPA.out, HLC.out⟩
  case round =>
    clear HLPA HLC
    obtain ⟨⟨hA, ⟨F, i, g2, hg2, hO, hG, hF, hi, hR, hP⟩ | ⟨c, p, x, xn, xk, i, hr, hc, hi, hR, rfl⟩⟩, q, rfl, hq1, hq2, hq3⟩ := hrel
    · have hBr : Al rb w0 wr := HB.out.next hA
      obtain ⟨va, vc, rfl, -⟩ := hO.form
      have hfr := mR_ok (N := L.length) hR.cells.2.1 hR.cells.2.2.2.1
      have HMR := Lib.hid hfr
      have hhere := fun q => ehere_any EV i (by omega) o 0 0 (wr.drewN q) (hBr.drewN q) (hR.drewN q)
      obtain ⟨s, hs⟩ : ∃ s, s = hereS 0 L i := ⟨_, rfl⟩
      rw [← hs] at hhere
      have hlk : ∀ q, (Instr.lookup 103 (.map (some m)) (.string s) true).run Tryz.prog (wr.drewN q) = .ok (.tuple #[((look s (lvl n)).map vI).getD (.int .i64 0), .bool (look s (lvl n)).isSome]) (wr.drewN q) :=
        fun q => (HM.out _ (hBr.drewN q)).lookup keyText Tryz.underlying103 (z := .int .i64 0) (fun w => by kernel_rfl) s
      obtain ⟨b0, b1, b2⟩ := tri_cells hq3
      rw [← HRG.out] at b1
      rw [← HOC.out] at b2
      have HQ : Hid (LCopy rb nb m n wr (.pointer (some ⟨q, 0, none⟩))) := ⟨q, rfl, hq1, hq2, hq3⟩
      rcases loop_cases hP with ⟨hn, rfl⟩ | ⟨g3, s', op, sw, rfl, hs', hop, hrest⟩
      · have hlk0 : look s (lvl n) = none := by
          rw [hs]
          unfold hereS
          rw [if_pos rfl]
          cases hh : hereT L i with
          | none => exact look_noS n
          | some t =>
            rw [hh] at hn
            have h2 := look_lvl n t
            simp only [Option.bind_some] at hn
            rw [hn] at h2
            simpa using h2.symm
        rw [hlk0] at hlk
        simp only [Option.map_none, Option.getD_none, Option.isSome_none] at hlk
        have HE : Hid (∀ w2, Below wr.heap.size wr w2 → RPost (RE rb a cc L lb pb) rb o w (.ok ([F], i)) (.returned (.slice va (F.flat 0).length vc)) w2) := fun w2 hb => rpost_ok (hA.then hb) (by rw [← HNB.out]; exact hO.below hb) (hR.below hb)
        clear hP hn hBr hA hO hG hF hi hR hfr hs hlk0 hq3
        go_wp2_with fail
        go_quiet ((go_at_call 122; exact Calls.quiet_of (hhere _)))
        have HB2 := Lib.hid (below_drawn (Below.refl wr.heap.size wr) nq)
        generalize wr.drewN nq = W at HB2
        clear hhere hlk b0 b1 b2
        go_wp2_with fail
        go_ret
        exact HE.out _ HB2.out
      · obtain ⟨v, hv, hvs⟩ := look_of hop
        have hss : s = s' := by rw [hs]; unfold hereS; rw [if_pos rfl, hs']; rfl
        rw [hss, hv] at hlk
        simp only [Option.map_some, Option.getD_some, Option.isSome_some] at hlk
        rw [hss] at hhere
        have hbd := lvl_bound hv
        have hil : i < L.length := hereT_lt hs'
        have hop6 := opAt_is hop
        have HO := Lib.hid hO
        have HG := Lib.hid hG
        have HA := Lib.hid hA
        have HBR := Lib.hid hBr
        have HR := Lib.hid hR
        have HRS := Lib.hid hrest
        have HVS := Lib.hid hvs
        have HOP := Lib.hid hop6
        have HSW : Hid (sw = true → n = 5) := fun h => by subst h; exact opAt_sw hop
        obtain ⟨hb1, hb2, hb3⟩ := hbd
        have hrw : nb ≤ wr.heap.size := by rw [HNB.out]; exact hA.size
        clear hP hs hop hop6 hBr hA hO hG hR hfr hrest hs' hv hvs hss hq3 s
        go_wp2_with fail
        go_quiet ((go_at_call 122; exact Calls.quiet_of (hhere _)))
        obtain ⟨W, hW⟩ : ∃ W, W = wr.drewN nq := ⟨_, rfl⟩
        have HRW : Hid (RE rb a cc L lb pb W i o 0 0) := by show Re _ _ _ _ _ _ _ _ _; rw [hW]; exact HR.out.drewN _
        have HAW : Hid (Al rb w W) := by show Al _ _ _; rw [hW]; exact HA.out.drewN _
        have HWW : Hid (Al rb wr W) := by show Al _ _ _; rw [hW]; exact (Al.refl _ _).drewN _
        have HQW : Hid (LCopy rb nb m n W (.pointer (some ⟨q, 0, none⟩))) := HQ.out.al HWW.out
        have hsz : W.heap.size = wr.heap.size := by rw [hW]; rfl
        have HSZ := Lib.hid hsz
        rw [← hW]
        clear hW hhere hlk b0 b1 b2 HQ HR HA hsz
        obtain ⟨c0, c1, c2, c3, c4, c5, c6⟩ := HRW.out.cells
        obtain ⟨f0, f1, f2, f3, f4⟩ := HRW.out.free
        obtain ⟨q', e', -, -, hq5⟩ := HQW.out
        cases e'
        obtain ⟨b0, b1, b2⟩ := tri_cells hq5
        rw [← HRG.out] at b1
        rw [← HOC.out] at b2
        have hqi : i + 1 ≤ 100001 := by omega
        obtain ⟨V, hV⟩ : ∃ V, V = W.setCell ⟨rb, 1, none⟩ (.int .i64 ((i : Int) + 1)) := ⟨_, rfl⟩
        have HRV : Hid (RE rb a cc L lb pb V ((i + 1 : Nat) : Int) o 0 0) := by show Re _ _ _ _ _ _ _ _ _; rw [hV]; exact HRW.out.setI _
        have HAV : Hid (Al rb w V) := by show Al _ _ _; rw [hV]; exact HAW.out.set _ _
        have HWV : Hid (Al rb wr V) := by show Al _ _ _; rw [hV]; exact HWW.out.set _ _
        have HQV : Hid (LCopy rb nb m n V (.pointer (some ⟨q, 0, none⟩))) := HQW.out.al (by rw [hV]; exact (Al.refl _ _).set _ _)
        have HOV : Hid (OwnE nb V (.slice va (F.flat 0).length vc) (F.flat 0)) := HWV.out.ownE HO.out hlt
        have HV := Lib.hid hV
        have hrv : nb ≤ V.heap.size := by have := HWV.out.size; omega
        have d1 : V.cell? ⟨q, 1, none⟩ = some (.bool rg) := by
          obtain ⟨q', e', -, -, hq6⟩ := HQV.out
          cases e'
          rw [HRG.out]; exact (tri_cells hq6).2.1
        clear hV
        obtain ⟨r3, hr3⟩ : ∃ r3, P L g3 (.bin (if n ≤ 1 then n else n + 1)) (i + 1) o = some r3 := by
          rcases HRS.out with ⟨e, h, _⟩ | ⟨a, i, h, _⟩
          · exact ⟨_, h⟩
          · exact ⟨_, h⟩
        have hcall := IH.out g3 (by omega) _ (i + 1) o r3 V (by split <;> omega) (by omega) hr3 (HB.out.next HAV.out) HRV.out
        have HR3 := Lib.hid hr3
        clear hr3 HO HWW HWV HQW HRW
        have hrgc := HRG.out
        cases rg
        · have hn1 : ¬ n ≤ 1 := by simpa using hrgc.symm
          rw [if_neg hn1] at hcall
          have hcall : Calls Tryz.prog 116 #[.pointer (some ⟨rb, 0, none⟩), .int .i64 ((n : Int) + 1)] V (RPost (RE rb a cc L lb pb) rb o V r3) := hcall
          rw [if_neg hn1] at HR3 HRS
          have hocc := HOC.out
          cases oc
          · have hn5 : ¬ n = 5 := by simpa using hocc.symm
            have HN5 : Hid (¬ (n ≤ 1 ∨ n = 5)) := by intro h; omega
            clear hrgc hocc hn1 hn5
            rcases HVS.out with ⟨hsw, hvo, hv0⟩ | ⟨hsw, _, _⟩
            · subst hsw hvo
              have hv1 : ¬ v < 0 := by omega
              have hv2 : 0 ≤ v := by omega
              go_wp2_with fail
              rw [← HV.out]
              refine hcall.mono ?_
              rintro e w3 ⟨hA3, hpost⟩
              have HA3 : Hid (Al rb w w3) := HAV.out.next hA3
              have HO3 := Lib.hid (hA3.ownE HOV.out hlt)
              have hrw3 : nb ≤ w3.heap.size := by have := hA3.size; omega
              have HQ3 := Lib.hid (HQV.out.al hA3)
              clear hcall hA3 d1 b0 b1 b2 c0 c1 c2 c3 c4 c5 c6 f0 f1 f2 f3 f4 hq5
              match r3, hpost with
              | .error (c, p), ⟨ya, yn, yk, i3, he, hc, hi3, hR3⟩ =>
                subst he
                have HRE : Hid (r = .error (c, p)) := by
                  rcases HRS.out with ⟨e, h, h2⟩ | ⟨a, i, h, _⟩
                  · have h3 := HR3.out.symm.trans h; cases h3; exact h2
                  · have h3 := HR3.out.symm.trans h; cases h3
                obtain ⟨w4, hw4⟩ : ∃ w4, w4 = w3.alloc (.cells #[(.slice va (F.flat 0).length vc), (.slice ya yn yk)] 51) := ⟨_, rfl⟩
                have hb4 : Below w3.heap.size w3 w4 := by rw [hw4]; exact (Below.refl _ _).alloc (Nat.le_refl _) _
                have HR4 := Lib.hid (hR3.below hb4)
                have HQ4 := Lib.hid (HQ3.out.below hb4)
                have HA4 := Lib.hid (HA3.out.then hb4)
                have hj := ejoin_no i3 o c p hc _ v 0 ⟨#[]⟩ (.slice (some ⟨w3.heap.size, 0, none⟩) 2 2) w4 HR4.out
                obtain ⟨q', e', -, -, hq6⟩ := HQ4.out
                cases e'
                obtain ⟨b0, b1, b2⟩ := tri_cells hq6
                rw [← HRG.out] at b1
                rw [← HOC.out] at b2
                have HW4 := Lib.hid hw4
                have HCC := Lib.hid hc
                clear hw4 hR3 hb4 hq6 hc
                go_wp2_with fail
                rw [← HW4.out]
                with_reducible refine hj.mono ?_
                rintro r4 w5 ⟨rfl, rfl⟩
                clear hj
                go_wp2_with fail
                go_roundw
                case rel =>
                  have hbl := (Below.refl w5.heap.size w5).alloc (Nat.le_refl _) (.cells #[.map (some m), .bool false, .bool false] 154)
                  refine ⟨⟨HA4.out.then hbl, Or.inr ⟨c, p, none, 0, 0, i3, HRE.out, HCC.out, hi3, HR4.out.below hbl, rfl⟩⟩, w5.heap.size, rfl, ?_, ?_, ?_⟩
                  · have := HA4.out.size; have := HNB.out; omega
                  · have := HA4.out.size; have := HNB.out; omega
                  · rw [← HRG.out, ← HOC.out]; exact Blk.new w5 _ _
                case measure =>
                  have hbl := (Below.refl w5.heap.size w5).alloc (Nat.le_refl _) (.cells #[.map (some m), .bool false, .bool false] 154)
                  have h := mR_err (rb := rb) (ia := 1) (ic := 3) (N := L.length) ((HR4.out.below hbl).cells.2.2.2.1) HCC.out
                  rw [HMR.out]
                  refine Nat.lt_of_le_of_lt (Nat.le_of_eq h) ?_
                  omega
              | .ok (l, j), ⟨G, v3, hl, he, hO4, hR4⟩ =>
                subst hl he
                obtain ⟨g1, g2, g3', g4⟩ := (P_ok EV.out.ok g3).bin (by omega) HR3.out
                obtain ⟨ya, yc, rfl, -⟩ := hO4.form
                obtain ⟨w4, hw4⟩ : ∃ w4, w4 = w3.alloc (.cells #[(.slice va (F.flat 0).length vc), (.slice ya (G.flat 0).length yc)] 51) := ⟨_, rfl⟩
                have hb4 : Below w3.heap.size w3 w4 := by rw [hw4]; exact (Below.refl _ _).alloc (Nat.le_refl _) _
                have HR5 := Lib.hid (hR4.below hb4)
                have hsg : Sg 1 IsF w4 (.slice (some ⟨w3.heap.size, 0, none⟩) 2 2) [F, G] := sg_two (by rw [hw4]; exact Blk.new w3 _ 51) (Sl.below (HO3.out.isE) hb4) (Sl.below (hO4.isE) hb4)
                have hj := ejoin_ok j o 0 _ v 0 ⟨#[]⟩ [F, G] (.slice (some ⟨w3.heap.size, 0, none⟩) 2 2) w4 HR5.out hsg (by intro Z hZ; simp only [List.mem_cons, List.not_mem_nil, or_false] at hZ; rcases hZ with rfl | rfl; exact HG.out.one; exact g1.one) (by simp [cat, Fo.size_app, Fo.size]; omega) (by have := HOP.out; omega) (fun _ => by rw [kids_two HOP.out]; rfl)
                have hjo : joinF v 0 ⟨#[]⟩ [F, G] = both v false F G := join_two v 0 F G (by have := HOP.out; omega)
                rw [hjo] at hj
                have HRE : Hid (P L g3 (.loop n (both v false F G)) j o = some r) := by
                  rcases HRS.out with ⟨e, h, h2⟩ | ⟨a, i, h, h2⟩
                  · have h3 := HR3.out.symm.trans h; cases h3
                  · have h3 := HR3.out.symm.trans h; cases h3
                    rcases h2 with ⟨h3, h2⟩ | ⟨h3, h2⟩
                    · exact absurd h3 (by have := HN5.out; omega)
                    · exact h2
                have HQ4 := Lib.hid (HQ3.out.below hb4)
                have HA4 := Lib.hid (HA3.out.then hb4)
                have HW4 := Lib.hid hw4
                have HB4 := Lib.hid hb4
                have HGG := Lib.hid g1
                clear hsg hjo hw4 hR4 hO4 hb4 g1
                go_wp2_with fail
                rw [← HW4.out]
                with_reducible refine hj.mono ?_
                rintro r4 w5 ⟨v4, rfl, ho, hb⟩
                have HR6 := Lib.hid (HR5.out.below hb)
                have HQ6 := Lib.hid (HQ4.out.below hb)
                have HA6 := Lib.hid (HA4.out.then hb)
                have HO6 := Lib.hid (ho.mono (show nb ≤ w4.heap.size by have := HB4.out.size; omega))
                have hv := both_size v false F G
                have HVV := Lib.hid hv
                obtain ⟨q', e', -, -, hq6⟩ := HQ6.out
                cases e'
                obtain ⟨b0, b1, b2⟩ := tri_cells hq6
                rw [← HRG.out] at b1
                rw [← HOC.out] at b2
                clear hj ho hb hv hq6
                go_wp2_with fail
                go_roundw
                case rel =>
                  have hbl := (Below.refl w5.heap.size w5).alloc (Nat.le_refl _) (.cells #[.map (some m), .bool false, .bool false] 154)
                  refine ⟨⟨HA6.out.then hbl, Or.inl ⟨both v false F G, j, g3, by omega, HO6.out.below hbl, both_good HOP.out HG.out HGG.out, by rw [HVV.out]; omega, g3', HR6.out.below hbl, HRE.out⟩⟩, w5.heap.size, rfl, ?_, ?_, ?_⟩
                  · have := HA6.out.size; have := HNB.out; omega
                  · have := HA6.out.size; have := HNB.out; omega
                  · rw [← HRG.out, ← HOC.out]; exact Blk.new w5 _ _
                case measure =>
                  have hbl := (Below.refl w5.heap.size w5).alloc (Nat.le_refl _) (.cells #[.map (some m), .bool false, .bool false] 154)
                  have h := mR_ok (rb := rb) (ia := 1) (ic := 3) (N := L.length) ((HR6.out.below hbl).cells.2.1) ((HR6.out.below hbl).cells.2.2.2.1)
                  rw [HMR.out]
                  refine Nat.lt_of_le_of_lt (Nat.le_of_eq h) ?_
                  omega
            · exact absurd (HSW.out hsw) (by have := HN5.out; omega)
          · have hn5 : n = 5 := by simpa using hocc.symm
            have HN5 : Hid (n ≤ 1 ∨ n = 5) := Or.inr hn5
            clear hrgc hocc hn1 hn5
            rcases HVS.out with ⟨hsw, hvo, hv0⟩ | ⟨hsw, hvo, hv0⟩
            · subst hsw hvo
              have hv1 : ¬ v < 0 := by omega
              have hv2 : 0 ≤ v := by omega
              go_wp2_with fail
              rw [← HV.out]
              refine hcall.mono ?_
              rintro e w3 ⟨hA3, hpost⟩
              have HA3 : Hid (Al rb w w3) := HAV.out.next hA3
              have HO3 := Lib.hid (hA3.ownE HOV.out hlt)
              have hrw3 : nb ≤ w3.heap.size := by have := hA3.size; omega
              have HQ3 := Lib.hid (HQV.out.al hA3)
              clear hcall hA3 d1 b0 b1 b2 c0 c1 c2 c3 c4 c5 c6 f0 f1 f2 f3 f4 hq5
              match r3, hpost with
              | .error (c, p), ⟨ya, yn, yk, i3, he, hc, hi3, hR3⟩ =>
                subst he
                have HRE : Hid (r = .error (c, p)) := by
                  rcases HRS.out with ⟨e, h, h2⟩ | ⟨a, i, h, _⟩
                  · have h3 := HR3.out.symm.trans h; cases h3; exact h2
                  · have h3 := HR3.out.symm.trans h; cases h3
                obtain ⟨w4, hw4⟩ : ∃ w4, w4 = w3.alloc (.cells #[(.slice va (F.flat 0).length vc), (.slice ya yn yk)] 51) := ⟨_, rfl⟩
                have hb4 : Below w3.heap.size w3 w4 := by rw [hw4]; exact (Below.refl _ _).alloc (Nat.le_refl _) _
                have HR4 := Lib.hid (hR3.below hb4)
                have HQ4 := Lib.hid (HQ3.out.below hb4)
                have HA4 := Lib.hid (HA3.out.then hb4)
                have hj := ejoin_no i3 o c p hc _ v 0 ⟨#[]⟩ (.slice (some ⟨w3.heap.size, 0, none⟩) 2 2) w4 HR4.out
                obtain ⟨q', e', -, -, hq6⟩ := HQ4.out
                cases e'
                obtain ⟨b0, b1, b2⟩ := tri_cells hq6
                rw [← HRG.out] at b1
                rw [← HOC.out] at b2
                have HW4 := Lib.hid hw4
                have HCC := Lib.hid hc
                clear hw4 hR3 hb4 hq6 hc
                go_wp2_with fail
                rw [← HW4.out]
                with_reducible refine hj.mono ?_
                rintro r4 w5 ⟨rfl, rfl⟩
                clear hj
                go_wp2_with fail
                go_ret
                rw [HRE.out]
                exact rpost_err HA4.out HCC.out hi3 HR4.out
              | .ok (l, j), ⟨G, v3, hl, he, hO4, hR4⟩ =>
                subst hl he
                obtain ⟨g1, g2, g3', g4⟩ := (P_ok EV.out.ok g3).bin (by omega) HR3.out
                obtain ⟨ya, yc, rfl, -⟩ := hO4.form
                obtain ⟨w4, hw4⟩ : ∃ w4, w4 = w3.alloc (.cells #[(.slice va (F.flat 0).length vc), (.slice ya (G.flat 0).length yc)] 51) := ⟨_, rfl⟩
                have hb4 : Below w3.heap.size w3 w4 := by rw [hw4]; exact (Below.refl _ _).alloc (Nat.le_refl _) _
                have HR5 := Lib.hid (hR4.below hb4)
                have hsg : Sg 1 IsF w4 (.slice (some ⟨w3.heap.size, 0, none⟩) 2 2) [F, G] := sg_two (by rw [hw4]; exact Blk.new w3 _ 51) (Sl.below (HO3.out.isE) hb4) (Sl.below (hO4.isE) hb4)
                have hj := ejoin_ok j o 0 _ v 0 ⟨#[]⟩ [F, G] (.slice (some ⟨w3.heap.size, 0, none⟩) 2 2) w4 HR5.out hsg (by intro Z hZ; simp only [List.mem_cons, List.not_mem_nil, or_false] at hZ; rcases hZ with rfl | rfl; exact HG.out.one; exact g1.one) (by simp [cat, Fo.size_app, Fo.size]; omega) (by have := HOP.out; omega) (fun _ => by rw [kids_two HOP.out]; rfl)
                have hjo : joinF v 0 ⟨#[]⟩ [F, G] = both v false F G := join_two v 0 F G (by have := HOP.out; omega)
                rw [hjo] at hj
                have HRE : Hid (r = .ok ([both v false F G], j)) := by
                  rcases HRS.out with ⟨e, h, h2⟩ | ⟨a, i, h, h2⟩
                  · have h3 := HR3.out.symm.trans h; cases h3
                  · have h3 := HR3.out.symm.trans h; cases h3
                    rcases h2 with ⟨h3, h2⟩ | ⟨h3, h2⟩
                    · exact h2
                    · exact absurd (by have := HN5.out; omega) h3
                have HQ4 := Lib.hid (HQ3.out.below hb4)
                have HA4 := Lib.hid (HA3.out.then hb4)
                have HW4 := Lib.hid hw4
                have HB4 := Lib.hid hb4
                have HGG := Lib.hid g1
                clear hsg hjo hw4 hR4 hO4 hb4 g1
                go_wp2_with fail
                rw [← HW4.out]
                with_reducible refine hj.mono ?_
                rintro r4 w5 ⟨v4, rfl, ho, hb⟩
                have HR6 := Lib.hid (HR5.out.below hb)
                have HQ6 := Lib.hid (HQ4.out.below hb)
                have HA6 := Lib.hid (HA4.out.then hb)
                have HO6 := Lib.hid (ho.mono (show nb ≤ w4.heap.size by have := HB4.out.size; omega))
                have hv := both_size v false F G
                have HVV := Lib.hid hv
                obtain ⟨q', e', -, -, hq6⟩ := HQ6.out
                cases e'
                obtain ⟨b0, b1, b2⟩ := tri_cells hq6
                rw [← HRG.out] at b1
                rw [← HOC.out] at b2
                clear hj ho hb hv hq6
                go_wp2_with fail
                go_ret
                rw [HRE.out]
                exact rpost_ok HA6.out (by rw [← HNB.out]; exact HO6.out) HR6.out
            · subst hsw hvo
              have hv1 : 0 < op := by omega
              go_wp2_with fail
              rw [← HV.out]
              refine hcall.mono ?_
              rintro e w3 ⟨hA3, hpost⟩
              have HA3 : Hid (Al rb w w3) := HAV.out.next hA3
              have HO3 := Lib.hid (hA3.ownE HOV.out hlt)
              have hrw3 : nb ≤ w3.heap.size := by have := hA3.size; omega
              have HQ3 := Lib.hid (HQV.out.al hA3)
              clear hcall hA3 d1 b0 b1 b2 c0 c1 c2 c3 c4 c5 c6 f0 f1 f2 f3 f4 hq5
              match r3, hpost with
              | .error (c, p), ⟨ya, yn, yk, i3, he, hc, hi3, hR3⟩ =>
                subst he
                have HRE : Hid (r = .error (c, p)) := by
                  rcases HRS.out with ⟨e, h, h2⟩ | ⟨a, i, h, _⟩
                  · have h3 := HR3.out.symm.trans h; cases h3; exact h2
                  · have h3 := HR3.out.symm.trans h; cases h3
                obtain ⟨w4, hw4⟩ : ∃ w4, w4 = w3.alloc (.cells #[(.slice ya yn yk), (.slice va (F.flat 0).length vc)] 51) := ⟨_, rfl⟩
                have hb4 : Below w3.heap.size w3 w4 := by rw [hw4]; exact (Below.refl _ _).alloc (Nat.le_refl _) _
                have HR4 := Lib.hid (hR3.below hb4)
                have HQ4 := Lib.hid (HQ3.out.below hb4)
                have HA4 := Lib.hid (HA3.out.then hb4)
                have hj := ejoin_no i3 o c p hc _ op 0 ⟨#[]⟩ (.slice (some ⟨w3.heap.size, 0, none⟩) 2 2) w4 HR4.out
                obtain ⟨q', e', -, -, hq6⟩ := HQ4.out
                cases e'
                obtain ⟨b0, b1, b2⟩ := tri_cells hq6
                rw [← HRG.out] at b1
                rw [← HOC.out] at b2
                have HW4 := Lib.hid hw4
                have HCC := Lib.hid hc
                clear hw4 hR3 hb4 hq6 hc
                go_wp2_with fail
                rw [← HW4.out]
                with_reducible refine hj.mono ?_
                rintro r4 w5 ⟨rfl, rfl⟩
                clear hj
                go_wp2_with fail
                go_ret
                rw [HRE.out]
                exact rpost_err HA4.out HCC.out hi3 HR4.out
              | .ok (l, j), ⟨G, v3, hl, he, hO4, hR4⟩ =>
                subst hl he
                obtain ⟨g1, g2, g3', g4⟩ := (P_ok EV.out.ok g3).bin (by omega) HR3.out
                obtain ⟨ya, yc, rfl, -⟩ := hO4.form
                obtain ⟨w4, hw4⟩ : ∃ w4, w4 = w3.alloc (.cells #[(.slice ya (G.flat 0).length yc), (.slice va (F.flat 0).length vc)] 51) := ⟨_, rfl⟩
                have hb4 : Below w3.heap.size w3 w4 := by rw [hw4]; exact (Below.refl _ _).alloc (Nat.le_refl _) _
                have HR5 := Lib.hid (hR4.below hb4)
                have hsg : Sg 1 IsF w4 (.slice (some ⟨w3.heap.size, 0, none⟩) 2 2) [G, F] := sg_two (by rw [hw4]; exact Blk.new w3 _ 51) (Sl.below (hO4.isE) hb4) (Sl.below (HO3.out.isE) hb4)
                have hj := ejoin_ok j o 0 _ op 0 ⟨#[]⟩ [G, F] (.slice (some ⟨w3.heap.size, 0, none⟩) 2 2) w4 HR5.out hsg (by intro Z hZ; simp only [List.mem_cons, List.not_mem_nil, or_false] at hZ; rcases hZ with rfl | rfl; exact g1.one; exact HG.out.one) (by simp [cat, Fo.size_app, Fo.size]; omega) (by have := HOP.out; omega) (fun _ => by rw [kids_two HOP.out]; rfl)
                have hjo : joinF op 0 ⟨#[]⟩ [G, F] = both op true F G := join_two op 0 G F (by have := HOP.out; omega)
                rw [hjo] at hj
                have HRE : Hid (r = .ok ([both op true F G], j)) := by
                  rcases HRS.out with ⟨e, h, h2⟩ | ⟨a, i, h, h2⟩
                  · have h3 := HR3.out.symm.trans h; cases h3
                  · have h3 := HR3.out.symm.trans h; cases h3
                    rcases h2 with ⟨h3, h2⟩ | ⟨h3, h2⟩
                    · exact h2
                    · exact absurd (by have := HN5.out; omega) h3
                have HQ4 := Lib.hid (HQ3.out.below hb4)
                have HA4 := Lib.hid (HA3.out.then hb4)
                have HW4 := Lib.hid hw4
                have HB4 := Lib.hid hb4
                have HGG := Lib.hid g1
                clear hsg hjo hw4 hR4 hO4 hb4 g1
                go_wp2_with fail
                rw [← HW4.out]
                with_reducible refine hj.mono ?_
                rintro r4 w5 ⟨v4, rfl, ho, hb⟩
                have HR6 := Lib.hid (HR5.out.below hb)
                have HQ6 := Lib.hid (HQ4.out.below hb)
                have HA6 := Lib.hid (HA4.out.then hb)
                have HO6 := Lib.hid (ho.mono (show nb ≤ w4.heap.size by have := HB4.out.size; omega))
                have hv := both_size op true F G
                have HVV := Lib.hid hv
                obtain ⟨q', e', -, -, hq6⟩ := HQ6.out
                cases e'
                obtain ⟨b0, b1, b2⟩ := tri_cells hq6
                rw [← HRG.out] at b1
                rw [← HOC.out] at b2
                clear hj ho hb hv hq6
                go_wp2_with fail
                go_ret
                rw [HRE.out]
                exact rpost_ok HA6.out (by rw [← HNB.out]; exact HO6.out) HR6.out
        · have hn1 : n ≤ 1 := by simpa using hrgc.symm
          rw [if_pos hn1] at hcall HR3 HRS
          have HN5 : Hid (n ≤ 1 ∨ n = 5) := Or.inl hn1
          have HN55 : Hid (¬ n = 5) := by intro h; omega
          clear hrgc hn1
          rcases HVS.out with ⟨hsw, hvo, hv0⟩ | ⟨hsw, _, _⟩
          · subst hsw hvo
            have hv1 : ¬ v < 0 := by omega
            have hv2 : 0 ≤ v := by omega
            go_wp2_with fail
            rw [← HV.out]
            refine hcall.mono ?_
            rintro e w3 ⟨hA3, hpost⟩
            have HA3 : Hid (Al rb w w3) := HAV.out.next hA3
            have HO3 := Lib.hid (hA3.ownE HOV.out hlt)
            have hrw3 : nb ≤ w3.heap.size := by have := hA3.size; omega
            have HQ3 := Lib.hid (HQV.out.al hA3)
            clear hcall hA3 d1 b0 b1 b2 c0 c1 c2 c3 c4 c5 c6 f0 f1 f2 f3 f4 hq5
            match r3, hpost with
            | .error (c, p), ⟨ya, yn, yk, i3, he, hc, hi3, hR3⟩ =>
              subst he
              have HRE : Hid (r = .error (c, p)) := by
                rcases HRS.out with ⟨e, h, h2⟩ | ⟨a, i, h, _⟩
                · have h3 := HR3.out.symm.trans h; cases h3; exact h2
                · have h3 := HR3.out.symm.trans h; cases h3
              obtain ⟨w4, hw4⟩ : ∃ w4, w4 = w3.alloc (.cells #[(.slice va (F.flat 0).length vc), (.slice ya yn yk)] 51) := ⟨_, rfl⟩
              have hb4 : Below w3.heap.size w3 w4 := by rw [hw4]; exact (Below.refl _ _).alloc (Nat.le_refl _) _
              have HR4 := Lib.hid (hR3.below hb4)
              have HQ4 := Lib.hid (HQ3.out.below hb4)
              have HA4 := Lib.hid (HA3.out.then hb4)
              have hj := ejoin_no i3 o c p hc _ v 0 ⟨#[]⟩ (.slice (some ⟨w3.heap.size, 0, none⟩) 2 2) w4 HR4.out
              obtain ⟨q', e', -, -, hq6⟩ := HQ4.out
              cases e'
              obtain ⟨b0, b1, b2⟩ := tri_cells hq6
              rw [← HRG.out] at b1
              rw [← HOC.out] at b2
              have HW4 := Lib.hid hw4
              have HCC := Lib.hid hc
              clear hw4 hR3 hb4 hq6 hc
              go_wp2_with fail
              rw [← HW4.out]
              with_reducible refine hj.mono ?_
              rintro r4 w5 ⟨rfl, rfl⟩
              clear hj
              go_wp2_with fail
              go_ret
              rw [HRE.out]
              exact rpost_err HA4.out HCC.out hi3 HR4.out
            | .ok (l, j), ⟨G, v3, hl, he, hO4, hR4⟩ =>
              subst hl he
              obtain ⟨g1, g2, g3', g4⟩ := (P_ok EV.out.ok g3).bin (by omega) HR3.out
              obtain ⟨ya, yc, rfl, -⟩ := hO4.form
              obtain ⟨w4, hw4⟩ : ∃ w4, w4 = w3.alloc (.cells #[(.slice va (F.flat 0).length vc), (.slice ya (G.flat 0).length yc)] 51) := ⟨_, rfl⟩
              have hb4 : Below w3.heap.size w3 w4 := by rw [hw4]; exact (Below.refl _ _).alloc (Nat.le_refl _) _
              have HR5 := Lib.hid (hR4.below hb4)
              have hsg : Sg 1 IsF w4 (.slice (some ⟨w3.heap.size, 0, none⟩) 2 2) [F, G] := sg_two (by rw [hw4]; exact Blk.new w3 _ 51) (Sl.below (HO3.out.isE) hb4) (Sl.below (hO4.isE) hb4)
              have hj := ejoin_ok j o 0 _ v 0 ⟨#[]⟩ [F, G] (.slice (some ⟨w3.heap.size, 0, none⟩) 2 2) w4 HR5.out hsg (by intro Z hZ; simp only [List.mem_cons, List.not_mem_nil, or_false] at hZ; rcases hZ with rfl | rfl; exact HG.out.one; exact g1.one) (by simp [cat, Fo.size_app, Fo.size]; omega) (by have := HOP.out; omega) (fun _ => by rw [kids_two HOP.out]; rfl)
              have hjo : joinF v 0 ⟨#[]⟩ [F, G] = both v false F G := join_two v 0 F G (by have := HOP.out; omega)
              rw [hjo] at hj
              have HRE : Hid (r = .ok ([both v false F G], j)) := by
                rcases HRS.out with ⟨e, h, h2⟩ | ⟨a, i, h, h2⟩
                · have h3 := HR3.out.symm.trans h; cases h3
                · have h3 := HR3.out.symm.trans h; cases h3
                  rcases h2 with ⟨h3, h2⟩ | ⟨h3, h2⟩
                  · exact h2
                  · exact absurd (by have := HN5.out; omega) h3
              have HQ4 := Lib.hid (HQ3.out.below hb4)
              have HA4 := Lib.hid (HA3.out.then hb4)
              have HW4 := Lib.hid hw4
              have HB4 := Lib.hid hb4
              have HGG := Lib.hid g1
              clear hsg hjo hw4 hR4 hO4 hb4 g1
              go_wp2_with fail
              rw [← HW4.out]
              with_reducible refine hj.mono ?_
              rintro r4 w5 ⟨v4, rfl, ho, hb⟩
              have HR6 := Lib.hid (HR5.out.below hb)
              have HQ6 := Lib.hid (HQ4.out.below hb)
              have HA6 := Lib.hid (HA4.out.then hb)
              have HO6 := Lib.hid (ho.mono (show nb ≤ w4.heap.size by have := HB4.out.size; omega))
              have hv := both_size v false F G
              have HVV := Lib.hid hv
              obtain ⟨q', e', -, -, hq6⟩ := HQ6.out
              cases e'
              obtain ⟨b0, b1, b2⟩ := tri_cells hq6
              rw [← HRG.out] at b1
              rw [← HOC.out] at b2
              clear hj ho hb hv hq6
              go_wp2_with fail
              go_ret
              rw [HRE.out]
              exact rpost_ok HA6.out (by rw [← HNB.out]; exact HO6.out) HR6.out
          · exact absurd (HSW.out hsw) HN55.out
    · have hBr : Al rb w0 wr := HB.out.next hA
      have hhere := fun q => ehere_any EV i hi o c p (wr.drewN q) (hBr.drewN q) (hR.drewN q)
      have hsn : hereS c L i = noS := by unfold hereS; rw [if_neg hc]
      rw [hsn] at hhere
      have hlk : ∀ q, (Instr.lookup 103 (.map (some m)) (.string noS) true).run Tryz.prog (wr.drewN q) = .ok (.tuple #[((look noS (lvl n)).map vI).getD (.int .i64 0), .bool (look noS (lvl n)).isSome]) (wr.drewN q) :=
        fun q => (HM.out _ (hBr.drewN q)).lookup keyText Tryz.underlying103 (z := .int .i64 0) (fun w => by kernel_rfl) noS
      rw [look_noS] at hlk
      simp only [Option.map_none, Option.getD_none, Option.isSome_none] at hlk
      obtain ⟨b0, b1, b2⟩ := tri_cells hq3
      rw [← HRG.out] at b1
      rw [← HOC.out] at b2
      have HE : Hid (∀ w2, Below wr.heap.size wr w2 → RPost (RE rb a cc L lb pb) rb o w r (.returned (.slice x xn xk)) w2) := fun w2 hb => by rw [hr]; exact rpost_err (hA.then hb) hc hi (hR.below hb)
      clear hA hR hr hc hi hBr hsn hq3
      go_wp2_with fail
      go_quiet ((go_at_call 122; exact Calls.quiet_of (hhere _)))
      have HB2 := Lib.hid (below_drawn (Below.refl wr.heap.size wr) nq)
      generalize wr.drewN nq = W at HB2
      clear hhere hlk b0 b1 b2
      go_wp2_with fail
      go_ret
      exact HE.out _ HB2.out
end
end Go.Proofs.YtahalimekacliaaGreatDoor
