/- The reader of programs: lists: the walk. (Printed by gen/many.py.) The reader of programs: units: the walk. (Printed by gen/straight.py.) -/
import Derived.Test.YtahalimekacliaaGreatDoorJ13
import Derived.Test.YtahalimekacliaaGreatDoorJ39
import Derived.Test.YtahalimekacliaaGreatDoorJ40
set_option linter.unusedVariables false
set_option linter.unusedSimpArgs false
namespace Go.Proofs.YtahalimekacliaaGreatDoor
open Go.RowKit Go.Shelf Tx Px Mx Gx
section
variable {L : List Tok} {a : Option Addr} {cc rb : Nat} {w0 : World}
def OneUn (L : List Tok) (a : Option Addr) (cc rb eb : Nat) (Inv : World → Rs → Bool → Prop) (w0 : World) (f : Nat) (args : Array Value) (one : Rs → (Un × Bool) × Rs) : Prop :=
  ∀ (s : Rs) (W : World), s.c = 0 → Fr (fun k => k = rb ∨ k = eb) w0 W → Rp L a cc rb W s → Inv W s true → Calls Tryz.prog f args W fun e w' => ∃ (cn : Bool) (n : ByteArray) (ia : Option Addr) (il ic : Nat) (on : ByteArray) (ot : Int) (va : Option Addr) (vl vc : Nat) (qa : Option Addr) (ql qc : Nat) (xa : Option Addr) (xl xc : Nat), e = .returned (.agg #[.bool cn, .string n, .slice ia il ic, .string on, .int .i64 ot, .slice va vl vc, .slice qa ql qc, .slice xa xl xc]) ∧ PUn W.heap.size w' [.bool cn, .string n, .slice ia il ic, .string on, .int .i64 ot, .slice va vl vc, .slice qa ql qc, .slice xa xl xc] (one s).1.1 ∧ Rp L a cc rb w' (one s).2 ∧ ((one s).2.c = 0 → Inv w' (one s).2 (one s).1.2) ∧ Fr (fun k => k = rb ∨ k = eb) W w'
set_option maxRecDepth 100000 in
set_option maxHeartbeats 4000000 in
theorem pmanyUn_any (EV : Hid (EnvOk w0 rb a cc L)) (eb f1 f2 : Nat) (b1 c1 b2 c2 : Array Value) (Inv : World → Rs → Bool → Prop) (one : Rs → (Un × Bool) × Rs) (w : World) (hw0 : ∀ W, Fr (fun k => k = rb ∨ k = eb) w W → Al rb w0 W)
    (HST : Hid (Steady w.heap.size Inv)) (HONE : Hid (OneUn L a cc rb eb Inv w f1 (b1 ++ c1) one)) (HON : Hid (OnIs L a cc rb eb Inv w f2 (b2 ++ c2)))
    (hc1 : ∀ w, (callFunc f1 (b1 ++ c1)).run Tryz.prog w = .ok (.enter f1 (b1 ++ c1)) w) (hc2 : ∀ w, (callFunc f2 (b2 ++ c2)).run Tryz.prog w = .ok (.enter f2 (b2 ++ c2)) w)
    (s : Rs) (b : Bool) (heb : eb < w.heap.size) (hR : Rp L a cc rb w s) (hI : s.c = 0 → Inv w s b) :
    Calls Tryz.prog 16 #[.pointer (some ⟨rb, 0, none⟩), .func (.func f1) b1 c1, .func (.func f2) b2 c2] w fun e w' => ∃ v, e = .returned v ∧ Rw 43 8 PUn w.heap.size w' v (manyR L one 200 b [] s).1 ∧ Rp L a cc rb w' (manyR L one 200 b [] s).2 ∧ Fr (fun k => k = rb ∨ k = eb) w w' := by
  obtain ⟨R, hR0⟩ : ∃ R, R = manyR L one 200 b [] s := ⟨_, rfl⟩
  rw [← hR0]
  have HLP : Hid (LpM L a cc rb eb (Rw 43 8 PUn w.heap.size) Inv one w R (.slice none 0 0) w) := ⟨200, [], s, b, hR0.symm, rfl, Rw.nil_, hR, hI, Fr.refl _ _⟩
  have hrb := hR.lt
  obtain ⟨nb, hnb⟩ : ∃ nb, nb = w.heap.size := ⟨_, rfl⟩
  rw [← hnb] at HLP heb hrb HST ⊢
  have HNB := Lib.hid hnb
  have HW0 := Lib.hid hw0
  clear hR hI hR0 hnb hw0
  go_enter Tryz.func16, Tryz.ntmps16
  go_wp2_with fail
  go_loopw [7] (fun lv wr => LpM L a cc rb eb (Rw 43 8 PUn nb) Inv one w R lv wr) (fun lv _ => 201 - lenV lv)
  case atStart => exact HLP.out
  case round =>
    clear HLP
    obtain ⟨k, acc, s, b, hRR, hk, hrw, hR, hI, hF⟩ := hrel
    obtain ⟨va, vc, rfl, hvc⟩ := hrw.form
    obtain ⟨fl, hfl⟩ : ∃ fl, fl = acc.length := ⟨_, rfl⟩
    rw [← hfl] at hvc hrw ⊢
    have hfk : fl + k = 200 := by omega
    have hok := pok_any s wr hR
    have HFL := Lib.hid hfl
    have HRR := Lib.hid hRR
    have HRW := Lib.hid hrw
    have HR := Lib.hid hR
    have HF := Lib.hid hF
    have HI := Lib.hid hI
    have hnw : nb ≤ wr.heap.size := by rw [HNB.out]; exact hF.size
    clear hfl hRR hrw hR hF hI hk
    by_cases hc : s.c = 0
    · rw [decide_eq_true hc] at hok
      have hon := HON.out s b wr hc HF.out HR.out (HI.out hc)
      have HC := Lib.hid hc
      clear hc
      cases b
      · have HE : Hid (R = (acc, s)) := by show _ = _; rw [← HRR.out, manyR_stop (Or.inr rfl)]
        go_wp2_with fail
        refine hok.mono ?_
        rintro e w1 ⟨rfl, rfl⟩
        go_wp2_with fail
        refine hon.mono ?_
        rintro e w2 ⟨rfl, hb2⟩
        have HB2 := Lib.hid hb2
        clear hok hon hb2
        go_wp2_with fail
        go_ret
        exact ⟨_, rfl, by rw [HE.out]; exact HRW.out.stays (T' := noT) (KpT.below HB2.out) (by decide) (PUn.stays (by decide) (by decide) (by decide) (by decide) (by decide)), by rw [HE.out]; exact HR.out.below HB2.out, HF.out.trans (Fr.of_below HB2.out _) (fun _ _ q => q)⟩
      · match k, HRR, hfk with
        | 0, HRR, hfk =>
          have HE : Hid (R = (acc, failR L 7 s)) := by show _ = _; rw [← HRR.out, manyR_full HC.out]
          have h200 : ((fl : Int) == 200) = true := by rw [beq_iff_eq]; omega
          go_wp2_with fail
          refine hok.mono ?_
          rintro e w1 ⟨rfl, rfl⟩
          go_wp2_with fail
          refine hon.mono ?_
          rintro e w2 ⟨rfl, hb2⟩
          have HB2 := Lib.hid hb2
          have HF2 : Hid (Fr (fun k => k = rb ∨ k = eb) w w2) := HF.out.trans (Fr.of_below hb2 _) (fun _ _ q => q)
          have hfa := pfail_any EV 7 s w2 (HW0.out _ HF2.out) (HR.out.below hb2)
          clear hok hon hb2
          go_wp2_with fail
          refine hfa.mono ?_
          rintro e w3 ⟨rfl, hR3, hA3⟩
          have HR3 := Lib.hid hR3
          have HA3 := Lib.hid hA3
          clear hfa hR3 hA3
          go_wp2_with fail
          go_ret
          exact ⟨_, rfl, by rw [HE.out]; exact (HRW.out.stays (T' := noT) (KpT.below HB2.out) (by decide) (PUn.stays (by decide) (by decide) (by decide) (by decide) (by decide))).stays (T' := noT) (HA3.out.kpT hrb) (by decide) (PUn.stays (by decide) (by decide) (by decide) (by decide) (by decide)), by rw [HE.out]; exact HR3.out, HF2.out.trans HA3.out (fun _ _ q => Or.inl q)⟩
        | k + 1, HRR, hfk =>
          have HE : Hid (manyR L one k (one s).1.2 (acc ++ [(one s).1.1]) (one s).2 = R) := by show _ = _; rw [← HRR.out, manyR_step HC.out]
          have h200 : ((fl : Int) == 200) = false := by rw [beq_eq_false_iff_ne]; omega
          go_wp2_with fail
          refine hok.mono ?_
          rintro e w1 ⟨rfl, rfl⟩
          go_wp2_with fail
          refine hon.mono ?_
          rintro e w2 ⟨rfl, hb2⟩
          have HF2 : Hid (Fr (fun k => k = rb ∨ k = eb) w w2) := HF.out.trans (Fr.of_below hb2 _) (fun _ _ q => q)
          have hone := HONE.out s w2 HC.out HF2.out (HR.out.below hb2) (HST.out _ _ _ _ (HI.out HC.out) (fun g hg => hb2.block g (by omega)))
          have HB2 := Lib.hid hb2
          clear hok hon hb2
          go_wp2_with fail
          refine hone.mono ?_
          rintro e w3 ⟨cn, n, ia, il, ic, on, ot, va, vl, vc, qa, ql, qc, xa, xl, xc, rfl, hP3, hR3, hI3, hF3⟩
          have hn3 : nb ≤ w3.heap.size := by have := HF2.out.size; have := hF3.size; have := HNB.out; omega
          obtain ⟨cs, hC⟩ := (HRW.out.stays (T' := noT) (KpT.below HB2.out) (by decide) (PUn.stays (by decide) (by decide) (by decide) (by decide) (by decide))).stays (T' := noT) (KpT.fr hF3 (fun g hg => by omega)) (by decide) (PUn.stays (by decide) (by decide) (by decide) (by decide) (by decide))
          have hown := hC.own
          have HP3 : Hid (PUn nb w3 [.bool cn, .string n, .slice ia il ic, .string on, .int .i64 ot, .slice va vl vc, .slice qa ql qc, .slice xa xl xc] (one s).1.1) := PUn.lowers _ _ _ _ _ hP3 (by have := HF2.out.size; have := HNB.out; omega)
          rw [← HFL.out] at hown
          have HCC := Lib.hid hC
          have HR3 := Lib.hid hR3
          have HI3 := Lib.hid hI3
          have HF3 : Hid (Fr (fun k => k = rb ∨ k = eb) w w3) := HF2.out.trans hF3 (fun _ _ q => q)
          clear hone hP3 hC hR3 hI3 hF3
          go_wp2_with (at_builtin; refine wpList_app rowUn rfl _ _ rfl nb _ _ _ rfl (hown.alloc _) ⟨w3.heap.size, 0, none⟩ 1 [.bool cn, .string n, .slice ia il ic, .string on, .int .i64 ot, .slice va vl vc, .slice qa ql qc, .slice xa xl xc] rfl rfl ?c1 ?c2 ?c3 ?c4 (w3.heap.size + 1) ?c5 ?_)
          case c1 => exact World.news_of_block (heap_alloc_new w3 _)
          case c2 => simp [Value.oneCell']
          case c3 => omega
          case c4 => simp; omega
          case c5 => simp
          intro g cap w4 hown4 hgrow hat hlt4 hcap
          have hlow := fun g hg => (World.ownsRow.lt hown g hg).1
          have hB4 : Below nb w3 w4 := ((Below.refl nb w3).alloc hn3 _).grown hgrow (by simp; omega) hlow
          have HRW4 : Hid (Rw 43 8 PUn nb w4 (.slice (some ⟨g, 0, none⟩) (fl + 1) cap) (acc ++ [(one s).1.1])) := HCC.out.push (PUn.stays (by decide) (by decide) (by decide) (by decide) (by decide)) HP3.out rfl hgrow (by rw [← HFL.out, List.flatMap_id]; exact hown4)
          have HR4 : Hid (Rp L a cc rb w4 (one s).2) := ⟨(hB4.block rb hrb).trans HR3.out.blk, HR3.out.le⟩
          have HI4 : Hid ((one s).2.c = 0 → Inv w4 (one s).2 (one s).1.2) := fun h => HST.out _ _ _ _ (HI3.out h) (fun g hg => hB4.block g hg)
          have HF4 : Hid (Fr (fun k => k = rb ∨ k = eb) w w4) := Fr.thenB HF3.out (by rw [← HNB.out]; exact hB4)
          clear hown hown4 hgrow hat hlt4 hlow hB4 hn3
          go_wp2_with fail
          go_roundw
          case rel => exact ⟨k, _, _, _, HE.out, by rw [List.length_append, ← HFL.out]; simp; omega, HRW4.out, HR4.out, HI4.out, HF4.out⟩
          case measure => simp [lenV]; omega
    · rw [decide_eq_false hc] at hok
      have HE : Hid (R = (acc, s)) := by show _ = _; rw [← HRR.out, manyR_stop (Or.inl hc)]
      clear hc
      go_wp2_with fail
      refine hok.mono ?_
      rintro e w1 ⟨rfl, rfl⟩
      clear hok
      go_wp2_with fail
      go_ret
      exact ⟨_, rfl, by rw [HE.out]; exact HRW.out, by rw [HE.out]; exact HR.out, HF.out⟩
end
end Go.Proofs.YtahalimekacliaaGreatDoor
namespace Go.Proofs.YtahalimekacliaaGreatDoor
open Go.RowKit Go.Shelf Tx Px Mx Gx
section
variable {L : List Tok} {a : Option Addr} {cc rb : Nat} {w0 : World} {X : XO}
theorem punit_any (EV : Hid (EnvOk w0 rb a cc L)) (hX : Hid (XOk L X)) (s : Rs) (w : World) (hB : Al rb w0 w) (hR : Rp L a cc rb w s) :
    Calls Tryz.prog 17 #[.pointer (some ⟨rb, 0, none⟩)] w fun e w' => ∃ (cn : Bool) (n : ByteArray) (ia : Option Addr) (il ic : Nat) (on : ByteArray) (ot : Int) (va : Option Addr) (vl vc : Nat) (qa : Option Addr) (ql qc : Nat) (xa : Option Addr) (xl xc : Nat), e = .returned (.agg #[.bool cn, .string n, .slice ia il ic, .string on, .int .i64 ot, .slice va vl vc, .slice qa ql qc, .slice xa xl xc]) ∧ PUn w.heap.size w' [.bool cn, .string n, .slice ia il ic, .string on, .int .i64 ot, .slice va vl vc, .slice qa ql qc, .slice xa xl xc] (unitR L X s).1 ∧ Rp L a cc rb w' (unitR L X s).2 ∧ Al rb w w' := by
  by_cases hm : markR L s = tContract
  · exact punit1_any EV hX s hm w hB hR
  · by_cases hc : markR L (needR L tRpar (paramR L (needR L tLpar (needR L tReturns (betweenR L (paramR L) tSemi (nameR L (needR L tNode s)).2).2))).2) = tContract
    · exact punit2a_any EV hX s hm hc w hB hR
    · exact punit2b_any EV hX s hm hc w hB hR
theorem units_many (EV : Hid (EnvOk w0 rb a cc L)) (hX : Hid (XOk L X)) (s : Rs) (w : World) (hB : Al rb w0 w) (hR : Rp L a cc rb w s) :
    Calls Tryz.prog 16 #[.pointer (some ⟨rb, 0, none⟩), .func (.func 17) #[.pointer (some ⟨rb, 0, none⟩)] #[], .func (.func 18) #[.pointer (some ⟨rb, 0, none⟩)] #[]] w fun e w' =>
      ∃ v, e = .returned v ∧ RwUn w.heap.size w' v (unitsR L X s).1 ∧ Rp L a cc rb w' (unitsR L X s).2 ∧ Al rb w w' :=
  (pmanyUn_any EV rb 17 18 #[.pointer (some ⟨rb, 0, none⟩)] #[] #[.pointer (some ⟨rb, 0, none⟩)] #[] (fun _ s b => b = isUnitR L s) (onR (unitR L X) (isUnitR L)) w (fun W h => hB.next (two_al h))
    (fun _ _ _ _ h _ => h)
    (fun s W _ hF hR _ => (punit_any EV hX s W (hB.next (two_al hF)) hR).mono fun e w' ⟨cn, n, ia, il, ic, on, ot, va, vl, vc, qa, ql, qc, xa, xl, xc, h1, h2, h3, h4⟩ => ⟨cn, n, ia, il, ic, on, ot, va, vl, vc, qa, ql, qc, xa, xl, xc, h1, h2, h3, fun _ => rfl, h4.two⟩)
    (fun s b W _ hF hR hI => (isUnit_any EV s W (hB.next (two_al hF)) hR).mono fun e w' ⟨h1, h2⟩ => ⟨by rw [hI]; exact h1, h2⟩)
    (fun w => by kernel_rfl) (fun w => by kernel_rfl) s (isUnitR L s) hR.lt hR (fun _ => rfl)).mono fun e w' ⟨v, h1, h2, h3, h4⟩ => ⟨v, h1, h2, h3, two_al h4⟩
end
end Go.Proofs.YtahalimekacliaaGreatDoor
