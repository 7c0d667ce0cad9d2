/- The reader of programs: lists: the walk. (Printed by gen/many.py.) The reader of programs: lists: the walk. (Printed by gen/many.py.) The reader of programs: items: the walk. (Printed by gen/straight.py.) The reader of programs: contracts: the walk. (Printed by gen/straight.py.) -/
import Derived.Test.YtahalimekacliaaGreatDoorJ13
import Derived.Test.YtahalimekacliaaGreatDoorJ35
import Derived.Test.YtahalimekacliaaGreatDoorJ36
import Derived.Test.YtahalimekacliaaGreatDoorJ37
set_option linter.unusedVariables false
set_option linter.unusedSimpArgs false
namespace Go.Proofs.YtahalimekacliaaGreatDoor
open Go.RowKit Go.Shelf Tx Px Mx Gx
section
variable {L : List Tok} {a : Option Addr} {cc rb : Nat} {w0 : World}
def OneIm (L : List Tok) (a : Option Addr) (cc rb eb : Nat) (Inv : World → Rs → Bool → Prop) (w0 : World) (f : Nat) (args : Array Value) (one : Rs → (Im × Bool) × Rs) : Prop :=
  ∀ (s : Rs) (W : World), s.c = 0 → Fr (fun k => k = rb ∨ k = eb) w0 W → Rp L a cc rb W s → Inv W s true → Calls Tryz.prog f args W fun e w' => ∃ (kd : Int) (n : ByteArray) (t : Int) (ea : Option Addr) (en ec : Nat) (fa : Option Addr) (fn fc : Nat) (ga : Option Addr) (gn gc : Nat), e = .returned (.agg #[.int .i64 kd, .string n, .int .i64 t, .slice ea en ec, .slice fa fn fc, .slice ga gn gc]) ∧ PIm W.heap.size w' [.int .i64 kd, .string n, .int .i64 t, .slice ea en ec, .slice fa fn fc, .slice ga gn gc] (one s).1.1 ∧ Rp L a cc rb w' (one s).2 ∧ ((one s).2.c = 0 → Inv w' (one s).2 (one s).1.2) ∧ Fr (fun k => k = rb ∨ k = eb) W w'
set_option maxRecDepth 100000 in
set_option maxHeartbeats 4000000 in
theorem pmanyIm_any (EV : Hid (EnvOk w0 rb a cc L)) (eb f1 f2 : Nat) (b1 c1 b2 c2 : Array Value) (Inv : World → Rs → Bool → Prop) (one : Rs → (Im × Bool) × Rs) (w : World) (hw0 : ∀ W, Fr (fun k => k = rb ∨ k = eb) w W → Al rb w0 W)
    (HST : Hid (Steady w.heap.size Inv)) (HONE : Hid (OneIm L a cc rb eb Inv w f1 (b1 ++ c1) one)) (HON : Hid (OnIs L a cc rb eb Inv w f2 (b2 ++ c2)))
    (hc1 : ∀ w, (callFunc f1 (b1 ++ c1)).run Tryz.prog w = .ok (.enter f1 (b1 ++ c1)) w) (hc2 : ∀ w, (callFunc f2 (b2 ++ c2)).run Tryz.prog w = .ok (.enter f2 (b2 ++ c2)) w)
    (s : Rs) (b : Bool) (heb : eb < w.heap.size) (hR : Rp L a cc rb w s) (hI : s.c = 0 → Inv w s b) :
    Calls Tryz.prog 66 #[.pointer (some ⟨rb, 0, none⟩), .func (.func f1) b1 c1, .func (.func f2) b2 c2] w fun e w' => ∃ v, e = .returned v ∧ Rw 54 6 PIm w.heap.size w' v (manyR L one 200 b [] s).1 ∧ Rp L a cc rb w' (manyR L one 200 b [] s).2 ∧ Fr (fun k => k = rb ∨ k = eb) w w' := by
  obtain ⟨R, hR0⟩ : ∃ R, R = manyR L one 200 b [] s := ⟨_, rfl⟩
  rw [← hR0]
  have HLP : Hid (LpM L a cc rb eb (Rw 54 6 PIm w.heap.size) Inv one w R (.slice none 0 0) w) := ⟨200, [], s, b, hR0.symm, rfl, Rw.nil_, hR, hI, Fr.refl _ _⟩
  have hrb := hR.lt
  obtain ⟨nb, hnb⟩ : ∃ nb, nb = w.heap.size := ⟨_, rfl⟩
  rw [← hnb] at HLP heb hrb HST ⊢
  have HNB := Lib.hid hnb
  have HW0 := Lib.hid hw0
  clear hR hI hR0 hnb hw0
  go_enter Tryz.func66, Tryz.ntmps66
  go_wp2_with fail
  go_loopw [7] (fun lv wr => LpM L a cc rb eb (Rw 54 6 PIm nb) Inv one w R lv wr) (fun lv _ => 201 - lenV lv)
  case atStart => exact HLP.out
  case round =>
    clear HLP
    obtain ⟨k, acc, s, b, hRR, hk, hrw, hR, hI, hF⟩ := hrel
    obtain ⟨va, vc, rfl, hvc⟩ := hrw.form
    obtain ⟨fl, hfl⟩ : ∃ fl, fl = acc.length := ⟨_, rfl⟩
    rw [← hfl] at hvc hrw ⊢
    have hfk : fl + k = 200 := by omega
    have hok := pok_any s wr hR
    have HFL := Lib.hid hfl
    have HRR := Lib.hid hRR
    have HRW := Lib.hid hrw
    have HR := Lib.hid hR
    have HF := Lib.hid hF
    have HI := Lib.hid hI
    have hnw : nb ≤ wr.heap.size := by rw [HNB.out]; exact hF.size
    clear hfl hRR hrw hR hF hI hk
    by_cases hc : s.c = 0
    · rw [decide_eq_true hc] at hok
      have hon := HON.out s b wr hc HF.out HR.out (HI.out hc)
      have HC := Lib.hid hc
      clear hc
      cases b
      · have HE : Hid (R = (acc, s)) := by show _ = _; rw [← HRR.out, manyR_stop (Or.inr rfl)]
        go_wp2_with fail
        refine hok.mono ?_
        rintro e w1 ⟨rfl, rfl⟩
        go_wp2_with fail
        refine hon.mono ?_
        rintro e w2 ⟨rfl, hb2⟩
        have HB2 := Lib.hid hb2
        clear hok hon hb2
        go_wp2_with fail
        go_ret
        exact ⟨_, rfl, by rw [HE.out]; exact HRW.out.stays (T' := noT) (KpT.below HB2.out) (by decide) (PIm.stays (by decide) (by decide)), by rw [HE.out]; exact HR.out.below HB2.out, HF.out.trans (Fr.of_below HB2.out _) (fun _ _ q => q)⟩
      · match k, HRR, hfk with
        | 0, HRR, hfk =>
          have HE : Hid (R = (acc, failR L 7 s)) := by show _ = _; rw [← HRR.out, manyR_full HC.out]
          have h200 : ((fl : Int) == 200) = true := by rw [beq_iff_eq]; omega
          go_wp2_with fail
          refine hok.mono ?_
          rintro e w1 ⟨rfl, rfl⟩
          go_wp2_with fail
          refine hon.mono ?_
          rintro e w2 ⟨rfl, hb2⟩
          have HB2 := Lib.hid hb2
          have HF2 : Hid (Fr (fun k => k = rb ∨ k = eb) w w2) := HF.out.trans (Fr.of_below hb2 _) (fun _ _ q => q)
          have hfa := pfail_any EV 7 s w2 (HW0.out _ HF2.out) (HR.out.below hb2)
          clear hok hon hb2
          go_wp2_with fail
          refine hfa.mono ?_
          rintro e w3 ⟨rfl, hR3, hA3⟩
          have HR3 := Lib.hid hR3
          have HA3 := Lib.hid hA3
          clear hfa hR3 hA3
          go_wp2_with fail
          go_ret
          exact ⟨_, rfl, by rw [HE.out]; exact (HRW.out.stays (T' := noT) (KpT.below HB2.out) (by decide) (PIm.stays (by decide) (by decide))).stays (T' := noT) (HA3.out.kpT hrb) (by decide) (PIm.stays (by decide) (by decide)), by rw [HE.out]; exact HR3.out, HF2.out.trans HA3.out (fun _ _ q => Or.inl q)⟩
        | k + 1, HRR, hfk =>
          have HE : Hid (manyR L one k (one s).1.2 (acc ++ [(one s).1.1]) (one s).2 = R) := by show _ = _; rw [← HRR.out, manyR_step HC.out]
          have h200 : ((fl : Int) == 200) = false := by rw [beq_eq_false_iff_ne]; omega
          go_wp2_with fail
          refine hok.mono ?_
          rintro e w1 ⟨rfl, rfl⟩
          go_wp2_with fail
          refine hon.mono ?_
          rintro e w2 ⟨rfl, hb2⟩
          have HF2 : Hid (Fr (fun k => k = rb ∨ k = eb) w w2) := HF.out.trans (Fr.of_below hb2 _) (fun _ _ q => q)
          have hone := HONE.out s w2 HC.out HF2.out (HR.out.below hb2) (HST.out _ _ _ _ (HI.out HC.out) (fun g hg => hb2.block g (by omega)))
          have HB2 := Lib.hid hb2
          clear hok hon hb2
          go_wp2_with fail
          refine hone.mono ?_
          rintro e w3 ⟨kd, n, t, ea, en, ec, fa, fn, fc, ga, gn, gc, rfl, hP3, hR3, hI3, hF3⟩
          have hn3 : nb ≤ w3.heap.size := by have := HF2.out.size; have := hF3.size; have := HNB.out; omega
          obtain ⟨cs, hC⟩ := (HRW.out.stays (T' := noT) (KpT.below HB2.out) (by decide) (PIm.stays (by decide) (by decide))).stays (T' := noT) (KpT.fr hF3 (fun g hg => by omega)) (by decide) (PIm.stays (by decide) (by decide))
          have hown := hC.own
          have HP3 : Hid (PIm nb w3 [.int .i64 kd, .string n, .int .i64 t, .slice ea en ec, .slice fa fn fc, .slice ga gn gc] (one s).1.1) := PIm.lowers _ _ _ _ _ hP3 (by have := HF2.out.size; have := HNB.out; omega)
          rw [← HFL.out] at hown
          have HCC := Lib.hid hC
          have HR3 := Lib.hid hR3
          have HI3 := Lib.hid hI3
          have HF3 : Hid (Fr (fun k => k = rb ∨ k = eb) w w3) := HF2.out.trans hF3 (fun _ _ q => q)
          clear hone hP3 hC hR3 hI3 hF3
          go_wp2_with (at_builtin; refine wpList_app rowIm rfl _ _ rfl nb _ _ _ rfl (hown.alloc _) ⟨w3.heap.size, 0, none⟩ 1 [.int .i64 kd, .string n, .int .i64 t, .slice ea en ec, .slice fa fn fc, .slice ga gn gc] rfl rfl ?c1 ?c2 ?c3 ?c4 (w3.heap.size + 1) ?c5 ?_)
          case c1 => exact World.news_of_block (heap_alloc_new w3 _)
          case c2 => simp [Value.oneCell']
          case c3 => omega
          case c4 => simp; omega
          case c5 => simp
          intro g cap w4 hown4 hgrow hat hlt4 hcap
          have hlow := fun g hg => (World.ownsRow.lt hown g hg).1
          have hB4 : Below nb w3 w4 := ((Below.refl nb w3).alloc hn3 _).grown hgrow (by simp; omega) hlow
          have HRW4 : Hid (Rw 54 6 PIm nb w4 (.slice (some ⟨g, 0, none⟩) (fl + 1) cap) (acc ++ [(one s).1.1])) := HCC.out.push (PIm.stays (by decide) (by decide)) HP3.out rfl hgrow (by rw [← HFL.out, List.flatMap_id]; exact hown4)
          have HR4 : Hid (Rp L a cc rb w4 (one s).2) := ⟨(hB4.block rb hrb).trans HR3.out.blk, HR3.out.le⟩
          have HI4 : Hid ((one s).2.c = 0 → Inv w4 (one s).2 (one s).1.2) := fun h => HST.out _ _ _ _ (HI3.out h) (fun g hg => hB4.block g hg)
          have HF4 : Hid (Fr (fun k => k = rb ∨ k = eb) w w4) := Fr.thenB HF3.out (by rw [← HNB.out]; exact hB4)
          clear hown hown4 hgrow hat hlt4 hlow hB4 hn3
          go_wp2_with fail
          go_roundw
          case rel => exact ⟨k, _, _, _, HE.out, by rw [List.length_append, ← HFL.out]; simp; omega, HRW4.out, HR4.out, HI4.out, HF4.out⟩
          case measure => simp [lenV]; omega
    · rw [decide_eq_false hc] at hok
      have HE : Hid (R = (acc, s)) := by show _ = _; rw [← HRR.out, manyR_stop (Or.inl hc)]
      clear hc
      go_wp2_with fail
      refine hok.mono ?_
      rintro e w1 ⟨rfl, rfl⟩
      clear hok
      go_wp2_with fail
      go_ret
      exact ⟨_, rfl, by rw [HE.out]; exact HRW.out, by rw [HE.out]; exact HR.out, HF.out⟩
end
end Go.Proofs.YtahalimekacliaaGreatDoor
namespace Go.Proofs.YtahalimekacliaaGreatDoor
open Go.RowKit Go.Shelf Tx Px Mx Gx
section
variable {L : List Tok} {a : Option Addr} {cc rb : Nat} {w0 : World}
def OneEq (L : List Tok) (a : Option Addr) (cc rb eb : Nat) (Inv : World → Rs → Bool → Prop) (w0 : World) (f : Nat) (args : Array Value) (one : Rs → (Eqn × Bool) × Rs) : Prop :=
  ∀ (s : Rs) (W : World), s.c = 0 → Fr (fun k => k = rb ∨ k = eb) w0 W → Rp L a cc rb W s → Inv W s true → Calls Tryz.prog f args W fun e w' => ∃ (n : ByteArray) (ea : Option Addr) (en ec : Nat), e = .returned (.agg #[.string n, .slice ea en ec]) ∧ PEq W.heap.size w' [.string n, .slice ea en ec] (one s).1.1 ∧ Rp L a cc rb w' (one s).2 ∧ ((one s).2.c = 0 → Inv w' (one s).2 (one s).1.2) ∧ Fr (fun k => k = rb ∨ k = eb) W w'
set_option maxRecDepth 100000 in
set_option maxHeartbeats 4000000 in
theorem pmanyEq_any (EV : Hid (EnvOk w0 rb a cc L)) (eb f1 f2 : Nat) (b1 c1 b2 c2 : Array Value) (Inv : World → Rs → Bool → Prop) (one : Rs → (Eqn × Bool) × Rs) (w : World) (hw0 : ∀ W, Fr (fun k => k = rb ∨ k = eb) w W → Al rb w0 W)
    (HST : Hid (Steady w.heap.size Inv)) (HONE : Hid (OneEq L a cc rb eb Inv w f1 (b1 ++ c1) one)) (HON : Hid (OnIs L a cc rb eb Inv w f2 (b2 ++ c2)))
    (hc1 : ∀ w, (callFunc f1 (b1 ++ c1)).run Tryz.prog w = .ok (.enter f1 (b1 ++ c1)) w) (hc2 : ∀ w, (callFunc f2 (b2 ++ c2)).run Tryz.prog w = .ok (.enter f2 (b2 ++ c2)) w)
    (s : Rs) (b : Bool) (heb : eb < w.heap.size) (hR : Rp L a cc rb w s) (hI : s.c = 0 → Inv w s b) :
    Calls Tryz.prog 40 #[.pointer (some ⟨rb, 0, none⟩), .func (.func f1) b1 c1, .func (.func f2) b2 c2] w fun e w' => ∃ v, e = .returned v ∧ Rw 65 2 PEq w.heap.size w' v (manyR L one 200 b [] s).1 ∧ Rp L a cc rb w' (manyR L one 200 b [] s).2 ∧ Fr (fun k => k = rb ∨ k = eb) w w' := by
  obtain ⟨R, hR0⟩ : ∃ R, R = manyR L one 200 b [] s := ⟨_, rfl⟩
  rw [← hR0]
  have HLP : Hid (LpM L a cc rb eb (Rw 65 2 PEq w.heap.size) Inv one w R (.slice none 0 0) w) := ⟨200, [], s, b, hR0.symm, rfl, Rw.nil_, hR, hI, Fr.refl _ _⟩
  have hrb := hR.lt
  obtain ⟨nb, hnb⟩ : ∃ nb, nb = w.heap.size := ⟨_, rfl⟩
  rw [← hnb] at HLP heb hrb HST ⊢
  have HNB := Lib.hid hnb
  have HW0 := Lib.hid hw0
  clear hR hI hR0 hnb hw0
  go_enter Tryz.func40, Tryz.ntmps40
  go_wp2_with fail
  go_loopw [7] (fun lv wr => LpM L a cc rb eb (Rw 65 2 PEq nb) Inv one w R lv wr) (fun lv _ => 201 - lenV lv)
  case atStart => exact HLP.out
  case round =>
    clear HLP
    obtain ⟨k, acc, s, b, hRR, hk, hrw, hR, hI, hF⟩ := hrel
    obtain ⟨va, vc, rfl, hvc⟩ := hrw.form
    obtain ⟨fl, hfl⟩ : ∃ fl, fl = acc.length := ⟨_, rfl⟩
    rw [← hfl] at hvc hrw ⊢
    have hfk : fl + k = 200 := by omega
    have hok := pok_any s wr hR
    have HFL := Lib.hid hfl
    have HRR := Lib.hid hRR
    have HRW := Lib.hid hrw
    have HR := Lib.hid hR
    have HF := Lib.hid hF
    have HI := Lib.hid hI
    have hnw : nb ≤ wr.heap.size := by rw [HNB.out]; exact hF.size
    clear hfl hRR hrw hR hF hI hk
    by_cases hc : s.c = 0
    · rw [decide_eq_true hc] at hok
      have hon := HON.out s b wr hc HF.out HR.out (HI.out hc)
      have HC := Lib.hid hc
      clear hc
      cases b
      · have HE : Hid (R = (acc, s)) := by show _ = _; rw [← HRR.out, manyR_stop (Or.inr rfl)]
        go_wp2_with fail
        refine hok.mono ?_
        rintro e w1 ⟨rfl, rfl⟩
        go_wp2_with fail
        refine hon.mono ?_
        rintro e w2 ⟨rfl, hb2⟩
        have HB2 := Lib.hid hb2
        clear hok hon hb2
        go_wp2_with fail
        go_ret
        exact ⟨_, rfl, by rw [HE.out]; exact HRW.out.stays (T' := noT) (KpT.below HB2.out) (by decide) (PEq.stays (by decide)), by rw [HE.out]; exact HR.out.below HB2.out, HF.out.trans (Fr.of_below HB2.out _) (fun _ _ q => q)⟩
      · match k, HRR, hfk with
        | 0, HRR, hfk =>
          have HE : Hid (R = (acc, failR L 7 s)) := by show _ = _; rw [← HRR.out, manyR_full HC.out]
          have h200 : ((fl : Int) == 200) = true := by rw [beq_iff_eq]; omega
          go_wp2_with fail
          refine hok.mono ?_
          rintro e w1 ⟨rfl, rfl⟩
          go_wp2_with fail
          refine hon.mono ?_
          rintro e w2 ⟨rfl, hb2⟩
          have HB2 := Lib.hid hb2
          have HF2 : Hid (Fr (fun k => k = rb ∨ k = eb) w w2) := HF.out.trans (Fr.of_below hb2 _) (fun _ _ q => q)
          have hfa := pfail_any EV 7 s w2 (HW0.out _ HF2.out) (HR.out.below hb2)
          clear hok hon hb2
          go_wp2_with fail
          refine hfa.mono ?_
          rintro e w3 ⟨rfl, hR3, hA3⟩
          have HR3 := Lib.hid hR3
          have HA3 := Lib.hid hA3
          clear hfa hR3 hA3
          go_wp2_with fail
          go_ret
          exact ⟨_, rfl, by rw [HE.out]; exact (HRW.out.stays (T' := noT) (KpT.below HB2.out) (by decide) (PEq.stays (by decide))).stays (T' := noT) (HA3.out.kpT hrb) (by decide) (PEq.stays (by decide)), by rw [HE.out]; exact HR3.out, HF2.out.trans HA3.out (fun _ _ q => Or.inl q)⟩
        | k + 1, HRR, hfk =>
          have HE : Hid (manyR L one k (one s).1.2 (acc ++ [(one s).1.1]) (one s).2 = R) := by show _ = _; rw [← HRR.out, manyR_step HC.out]
          have h200 : ((fl : Int) == 200) = false := by rw [beq_eq_false_iff_ne]; omega
          go_wp2_with fail
          refine hok.mono ?_
          rintro e w1 ⟨rfl, rfl⟩
          go_wp2_with fail
          refine hon.mono ?_
          rintro e w2 ⟨rfl, hb2⟩
          have HF2 : Hid (Fr (fun k => k = rb ∨ k = eb) w w2) := HF.out.trans (Fr.of_below hb2 _) (fun _ _ q => q)
          have hone := HONE.out s w2 HC.out HF2.out (HR.out.below hb2) (HST.out _ _ _ _ (HI.out HC.out) (fun g hg => hb2.block g (by omega)))
          have HB2 := Lib.hid hb2
          clear hok hon hb2
          go_wp2_with fail
          refine hone.mono ?_
          rintro e w3 ⟨n, ea, en, ec, rfl, hP3, hR3, hI3, hF3⟩
          have hn3 : nb ≤ w3.heap.size := by have := HF2.out.size; have := hF3.size; have := HNB.out; omega
          obtain ⟨cs, hC⟩ := (HRW.out.stays (T' := noT) (KpT.below HB2.out) (by decide) (PEq.stays (by decide))).stays (T' := noT) (KpT.fr hF3 (fun g hg => by omega)) (by decide) (PEq.stays (by decide))
          have hown := hC.own
          have HP3 : Hid (PEq nb w3 [.string n, .slice ea en ec] (one s).1.1) := PEq.lowers _ _ _ _ _ hP3 (by have := HF2.out.size; have := HNB.out; omega)
          rw [← HFL.out] at hown
          have HCC := Lib.hid hC
          have HR3 := Lib.hid hR3
          have HI3 := Lib.hid hI3
          have HF3 : Hid (Fr (fun k => k = rb ∨ k = eb) w w3) := HF2.out.trans hF3 (fun _ _ q => q)
          clear hone hP3 hC hR3 hI3 hF3
          go_wp2_with (at_builtin; refine wpList_app rowEq rfl _ _ rfl nb _ _ _ rfl (hown.alloc _) ⟨w3.heap.size, 0, none⟩ 1 [.string n, .slice ea en ec] rfl rfl ?c1 ?c2 ?c3 ?c4 (w3.heap.size + 1) ?c5 ?_)
          case c1 => exact World.news_of_block (heap_alloc_new w3 _)
          case c2 => simp [Value.oneCell']
          case c3 => omega
          case c4 => simp; omega
          case c5 => simp
          intro g cap w4 hown4 hgrow hat hlt4 hcap
          have hlow := fun g hg => (World.ownsRow.lt hown g hg).1
          have hB4 : Below nb w3 w4 := ((Below.refl nb w3).alloc hn3 _).grown hgrow (by simp; omega) hlow
          have HRW4 : Hid (Rw 65 2 PEq nb w4 (.slice (some ⟨g, 0, none⟩) (fl + 1) cap) (acc ++ [(one s).1.1])) := HCC.out.push (PEq.stays (by decide)) HP3.out rfl hgrow (by rw [← HFL.out, List.flatMap_id]; exact hown4)
          have HR4 : Hid (Rp L a cc rb w4 (one s).2) := ⟨(hB4.block rb hrb).trans HR3.out.blk, HR3.out.le⟩
          have HI4 : Hid ((one s).2.c = 0 → Inv w4 (one s).2 (one s).1.2) := fun h => HST.out _ _ _ _ (HI3.out h) (fun g hg => hB4.block g hg)
          have HF4 : Hid (Fr (fun k => k = rb ∨ k = eb) w w4) := Fr.thenB HF3.out (by rw [← HNB.out]; exact hB4)
          clear hown hown4 hgrow hat hlt4 hlow hB4 hn3
          go_wp2_with fail
          go_roundw
          case rel => exact ⟨k, _, _, _, HE.out, by rw [List.length_append, ← HFL.out]; simp; omega, HRW4.out, HR4.out, HI4.out, HF4.out⟩
          case measure => simp [lenV]; omega
    · rw [decide_eq_false hc] at hok
      have HE : Hid (R = (acc, s)) := by show _ = _; rw [← HRR.out, manyR_stop (Or.inl hc)]
      clear hc
      go_wp2_with fail
      refine hok.mono ?_
      rintro e w1 ⟨rfl, rfl⟩
      clear hok
      go_wp2_with fail
      go_ret
      exact ⟨_, rfl, by rw [HE.out]; exact HRW.out, by rw [HE.out]; exact HR.out, HF.out⟩
end
end Go.Proofs.YtahalimekacliaaGreatDoor
namespace Go.Proofs.YtahalimekacliaaGreatDoor
open Go.RowKit Go.Shelf Tx Px Mx Gx
section
variable {L : List Tok} {a : Option Addr} {cc rb : Nat} {w0 : World} {X : XO}
theorem pitem_any (EV : Hid (EnvOk w0 rb a cc L)) (hX : Hid (XOk L X)) (s : Rs) (hi : isItemR L s = true) (w : World) (hB : Al rb w0 w) (hR : Rp L a cc rb w s) :
    Calls Tryz.prog 67 #[.pointer (some ⟨rb, 0, none⟩)] w fun e w' => ∃ (kd : Int) (n : ByteArray) (t : Int) (ea : Option Addr) (en ec : Nat) (fa : Option Addr) (fn fc : Nat) (ga : Option Addr) (gn gc : Nat), e = .returned (.agg #[.int .i64 kd, .string n, .int .i64 t, .slice ea en ec, .slice fa fn fc, .slice ga gn gc]) ∧ PIm w.heap.size w' [.int .i64 kd, .string n, .int .i64 t, .slice ea en ec, .slice fa fn fc, .slice ga gn gc] (itemR L X s).1 ∧ Rp L a cc rb w' (itemR L X s).2 ∧ Al rb w w' := by
  rw [isItemR_mark] at hi
  simp only [Bool.or_eq_true, decide_eq_true_eq] at hi
  rcases hi with (((h | h) | h) | h) | h
  · exact pitem1_any EV hX s h w hB hR
  · exact pitem2_any EV hX s h w hB hR
  · exact pitem3_any EV hX s h w hB hR
  · exact pitem4_any EV hX s h w hB hR
  · exact pitem5_any EV hX s h w hB hR
theorem two_al {rb : Nat} {w w' : World} (h : Fr (fun k => k = rb ∨ k = rb) w w') : Al rb w w' := Fr.mono h (fun _ _ q => by rcases q with q | q <;> exact q)
theorem items_many (EV : Hid (EnvOk w0 rb a cc L)) (hX : Hid (XOk L X)) (s : Rs) (w : World) (hB : Al rb w0 w) (hR : Rp L a cc rb w s) :
    Calls Tryz.prog 66 #[.pointer (some ⟨rb, 0, none⟩), .func (.func 67) #[.pointer (some ⟨rb, 0, none⟩)] #[], .func (.func 68) #[.pointer (some ⟨rb, 0, none⟩)] #[]] w fun e w' =>
      ∃ v, e = .returned v ∧ RwIm w.heap.size w' v (manyR L (onR (itemR L X) (isItemR L)) 200 (isItemR L s) [] s).1 ∧ Rp L a cc rb w' (manyR L (onR (itemR L X) (isItemR L)) 200 (isItemR L s) [] s).2 ∧ Al rb w w' :=
  (pmanyIm_any EV rb 67 68 #[.pointer (some ⟨rb, 0, none⟩)] #[] #[.pointer (some ⟨rb, 0, none⟩)] #[] (fun _ s b => b = isItemR L s) (onR (itemR L X) (isItemR L)) w (fun W h => hB.next (two_al h))
    (fun _ _ _ _ h _ => h)
    (fun s W _ hF hR hI => (pitem_any EV hX s hI.symm W (hB.next (two_al hF)) hR).mono fun e w' ⟨kd, n, t, ea, en, ec, fa, fn, fc, ga, gn, gc, h1, h2, h3, h4⟩ => ⟨kd, n, t, ea, en, ec, fa, fn, fc, ga, gn, gc, h1, h2, h3, fun _ => rfl, h4.two⟩)
    (fun s b W _ hF hR hI => (isItem_any EV s W (hB.next (two_al hF)) hR).mono fun e w' ⟨h1, h2⟩ => ⟨by rw [hI]; exact h1, h2⟩)
    (fun w => by kernel_rfl) (fun w => by kernel_rfl) s (isItemR L s) hR.lt hR (fun _ => rfl)).mono fun e w' ⟨v, h1, h2, h3, h4⟩ => ⟨v, h1, h2, h3, two_al h4⟩
theorem eqs_many (EV : Hid (EnvOk w0 rb a cc L)) (hX : Hid (XOk L X)) (s : Rs) (w : World) (hB : Al rb w0 w) (hR : Rp L a cc rb w s) :
    Calls Tryz.prog 40 #[.pointer (some ⟨rb, 0, none⟩), .func (.func 41) #[.pointer (some ⟨rb, 0, none⟩)] #[], .func (.func 42) #[.pointer (some ⟨rb, 0, none⟩)] #[]] w fun e w' =>
      ∃ v, e = .returned v ∧ RwEq w.heap.size w' v (manyR L (onR (eqR L X) (namedR L)) 200 (namedR L s) [] s).1 ∧ Rp L a cc rb w' (manyR L (onR (eqR L X) (namedR L)) 200 (namedR L s) [] s).2 ∧ Al rb w w' :=
  (pmanyEq_any EV rb 41 42 #[.pointer (some ⟨rb, 0, none⟩)] #[] #[.pointer (some ⟨rb, 0, none⟩)] #[] (fun _ s b => b = namedR L s) (onR (eqR L X) (namedR L)) w (fun W h => hB.next (two_al h))
    (fun _ _ _ _ h _ => h)
    (fun s W _ hF hR _ => (pequation_any EV hX s W (hB.next (two_al hF)) hR).mono fun e w' ⟨ea, en, ec, h1, h2, h3, h4⟩ => ⟨(eqR L X s).1.name, ea, en, ec, h1, ⟨_, rfl, h2⟩, h3, fun _ => rfl, h4.two⟩)
    (fun s b W _ hF hR hI => (isNamed_any EV s W (hB.next (two_al hF)) hR).mono fun e w' ⟨h1, h2⟩ => ⟨by rw [hI]; exact h1, h2⟩)
    (fun w => by kernel_rfl) (fun w => by kernel_rfl) s (namedR L s) hR.lt hR (fun _ => rfl)).mono fun e w' ⟨v, h1, h2, h3, h4⟩ => ⟨v, h1, h2, h3, two_al h4⟩
set_option maxRecDepth 100000 in
set_option maxHeartbeats 8000000 in
theorem pitems_any (EV : Hid (EnvOk w0 rb a cc L)) (hX : Hid (XOk L X)) (s : Rs) (w : World) (hB : Al rb w0 w) (hR : Rp L a cc rb w s) :
    Calls Tryz.prog 38 #[.pointer (some ⟨rb, 0, none⟩)] w fun e w' => ∃ v, e = .returned v ∧ RwIm w.heap.size w' v (itemsR L X s).1 ∧ Rp L a cc rb w' (itemsR L X s).2 ∧ Al rb w w' := by
  have hrb := hR.lt
  obtain ⟨nb, hnb⟩ : ∃ nb, nb = w.heap.size := ⟨_, rfl⟩
  rw [← hnb] at hrb
  have HNB := Lib.hid hnb
  have A : Hid (Al rb w w) := Al.refl rb w
  have R := Lib.hid hR
  have HB := Lib.hid hB
  obtain ⟨x, h_x⟩ : ∃ x, x = (manyR L (onR (itemR L X) (isItemR L)) 200 (isItemR L s) [] s).1 := ⟨_, rfl⟩
  obtain ⟨s1, h_s1⟩ : ∃ x, x = (manyR L (onR (itemR L X) (isItemR L)) 200 (isItemR L s) [] s).2 := ⟨_, rfl⟩
  obtain ⟨s2, h_s2⟩ : ∃ x, x = needR L tEnd s1 := ⟨_, rfl⟩
  have HF : Hid (itemsR L X s = (x, s2)) := by show _ = _; rw [h_s2, h_s1, h_x]; rfl
  have S_x := Lib.hid h_x
  have S_s1 := Lib.hid h_s1
  have S_s2 := Lib.hid h_s2
  clear h_x h_s1 h_s2
  clear hR hB hnb
  go_enter Tryz.func38, Tryz.ntmps38
  go_upto_region 1 with fail
  have hc_ := items_many EV hX s w HB.out R.out
  rw [← S_x.out, ← S_s1.out] at hc_
  have hl_ : nb ≤ w.heap.size := by have := A.out.size; have := HNB.out; omega
  go_wp2_with fail
  refine hc_.mono ?_
  rintro e w1 ⟨v_, rfl, hV_, hR_, hA_⟩
  obtain ⟨ea_x, ec_x, rfl, -⟩ := hV_.form
  obtain ⟨en_x, hen_⟩ : ∃ n, n = x.length := ⟨_, rfl⟩
  rw [← hen_] at hV_ ⊢
  have hV2_ := Lib.hid (hV_.lower hl_ PIm.lowers)
  clear hV_ hen_ hl_
  have F_ : Al rb w w1 := hA_
  have A : Hid (Al rb w w1) := A.out.next F_
  have R := Lib.hid hR_
  clear hc_ hR_ hA_ F_
  have V_x : Hid (RwIm nb w1 (.slice ea_x en_x ec_x) x) := hV2_
  clear hV2_
  go_upto_region 2 with fail
  have hb_ : Below w1.heap.size w1 (w1.alloc (.cells #[.string ⟨#[101, 110, 100]⟩] 9)) := (Below.refl _ _).alloc (Nat.le_refl _) _
  have hc_ := pneed_any EV w1.heap.size [⟨#[101, 110, 100]⟩] (by decide) (by decide) s1 (w1.alloc (.cells #[.string ⟨#[101, 110, 100]⟩] 9)) ((HB.out.next A.out).then hb_) (R.out.below hb_) (Blk.new w1 _ _) (by have := A.out.size; have := HNB.out; omega)
  have e_ : needL L [⟨#[101, 110, 100]⟩] s1 = s2 := S_s2.out.symm
  rw [e_] at hc_
  have HBA := Lib.hid hb_
  clear hb_ e_
  go_wp2_with fail
  refine hc_.mono ?_
  rintro e w2 ⟨rfl, hR_, hA_⟩
  have F_ : Al rb w1 w2 := (Al.of (rb := rb) HBA.out).next hA_
  have V_x : Hid (RwIm nb w2 (.slice ea_x en_x ec_x) x) := V_x.out.stays (Al.kpT (T := noT) F_ hrb) (by decide) (PIm.stays (by decide) (by decide))
  have A : Hid (Al rb w w2) := A.out.next F_
  have R := Lib.hid hR_
  clear hc_ hR_ hA_ F_ HBA
  go_wp2_with fail
  go_ret
  exact ⟨_, rfl, by rw [HF.out, ← HNB.out]; exact V_x.out, by rw [HF.out]; exact R.out, A.out⟩
end
end Go.Proofs.YtahalimekacliaaGreatDoor
namespace Go.Proofs.YtahalimekacliaaGreatDoor
open Go.RowKit Go.Shelf Tx Px Mx Gx
section
variable {L : List Tok} {a : Option Addr} {cc rb : Nat} {w0 : World} {X : XO}
theorem headR_eq (s : Rs) : headR L s = (((nameR L s).1, (betweenR L (paramR L) tSemi (nameR L s).2).1, (paramR L (needR L tLpar (needR L tReturns (betweenR L (paramR L) tSemi (nameR L s).2).2))).1), needR L tRpar (paramR L (needR L tLpar (needR L tReturns (betweenR L (paramR L) tSemi (nameR L s).2).2))).2) := by
  unfold headR
  rcases nameR L s with ⟨n, s2⟩
  dsimp only
theorem eqsR_eq (s : Rs) : eqsR L X s = ((manyR L (onR (eqR L X) (namedR L)) 200 (namedR L s) [] s).1, needR L tTel (manyR L (onR (eqR L X) (namedR L)) 200 (namedR L s) [] s).2) := by
  unfold eqsR
  rcases manyR L (onR (eqR L X) (namedR L)) 200 (namedR L s) [] s with ⟨l, s2⟩
  rfl
theorem nodeR_eq {s s6 : Rs} {h : ByteArray × List Pm × Pm} (e : headR L s = (h, s6)) : nodeR L X s = nodeR3 L X h (optR L tContract (itemsR L X) s6).1 (optR L tVar (varsR L) (optR L tContract (itemsR L X) s6).2).1 (optR L tVar (varsR L) (optR L tContract (itemsR L X) s6).2).2 := by
  unfold nodeR nodeR1 nodeR2
  rw [e]
theorem nodeR3_eq (h : ByteArray × List Pm × Pm) (x : List Im) (v : List Pm) (s : Rs) : nodeR3 L X h x v s = (⟨false, h.1, h.2.1, h.2.2, v, (eqsR L X (needR L tLet s)).1, x⟩, (eqsR L X (needR L tLet s)).2) := rfl
theorem unitR_con {s : Rs} (h : markR L s = tContract) : unitR L X s = (⟨true, (nameR L (nextR s)).1, (betweenR L (paramR L) tSemi (nameR L (nextR s)).2).1, ⟨noS, 0⟩, [], [], (itemsR L X (betweenR L (paramR L) tSemi (nameR L (nextR s)).2).2).1⟩, (itemsR L X (betweenR L (paramR L) tSemi (nameR L (nextR s)).2).2).2) := by
  unfold unitR
  rw [if_pos h]; rfl
theorem unitR_node {s : Rs} (h : markR L s ≠ tContract) : unitR L X s = nodeR L X (needR L tNode s) := by
  unfold unitR
  rw [if_neg h]
theorem node_eq {s s1 s2 s3 s4 s5 s6 s7 s8 s9 s10 s11 : Rs} {n on : ByteArray} {ot : Int} {l v : List Pm} {x : List Im} {q : List Eqn} (h : markR L s ≠ tContract) (h1 : s1 = needR L tNode s) (hn : n = (nameR L s1).1) (h2 : s2 = (nameR L s1).2) (hl : l = (betweenR L (paramR L) tSemi s2).1) (h3 : s3 = (betweenR L (paramR L) tSemi s2).2)
    (h4 : s4 = needR L tLpar (needR L tReturns s3)) (hon : on = (paramR L s4).1.name) (hot : ot = (paramR L s4).1.ty) (h5 : s5 = (paramR L s4).2) (h6 : s6 = needR L tRpar s5) (hx : x = (optR L tContract (itemsR L X) s6).1) (h7 : s7 = (optR L tContract (itemsR L X) s6).2) (hv : v = (optR L tVar (varsR L) s7).1) (h8 : s8 = (optR L tVar (varsR L) s7).2)
    (h9 : s9 = needR L tLet s8) (hq : q = (manyR L (onR (eqR L X) (namedR L)) 200 (namedR L s9) [] s9).1) (h10 : s10 = (manyR L (onR (eqR L X) (namedR L)) 200 (namedR L s9) [] s9).2) (h11 : s11 = needR L tTel s10) : unitR L X s = (⟨false, n, l, ⟨on, ot⟩, v, q, x⟩, s11) := by
  have e1 : headR L s1 = ((n, l, (paramR L s4).1), s6) := by rw [headR_eq, ← h2, ← h3, ← h4, ← h5, ← h6, ← hl, ← hn]
  have e2 : (⟨on, ot⟩ : Pm) = (paramR L s4).1 := by rw [hon, hot]
  rw [unitR_node h, ← h1, nodeR_eq e1, ← h7, ← hx, ← hv, ← h8, nodeR3_eq, ← h9, eqsR_eq, ← hq, ← h10, ← h11, e2]
set_option maxRecDepth 100000 in
set_option maxHeartbeats 8000000 in
theorem punit1_any (EV : Hid (EnvOk w0 rb a cc L)) (hX : Hid (XOk L X)) (s : Rs) (hm : markR L s = tContract) (w : World) (hB : Al rb w0 w) (hR : Rp L a cc rb w s) :
    Calls Tryz.prog 17 #[.pointer (some ⟨rb, 0, none⟩)] w fun e w' => ∃ (cn : Bool) (n : ByteArray) (ia : Option Addr) (il ic : Nat) (on : ByteArray) (ot : Int) (va : Option Addr) (vl vc : Nat) (qa : Option Addr) (ql qc : Nat) (xa : Option Addr) (xl xc : Nat), e = .returned (.agg #[.bool cn, .string n, .slice ia il ic, .string on, .int .i64 ot, .slice va vl vc, .slice qa ql qc, .slice xa xl xc]) ∧ PUn w.heap.size w' [.bool cn, .string n, .slice ia il ic, .string on, .int .i64 ot, .slice va vl vc, .slice qa ql qc, .slice xa xl xc] (unitR L X s).1 ∧ Rp L a cc rb w' (unitR L X s).2 ∧ Al rb w w' := by
  have hrb := hR.lt
  obtain ⟨nb, hnb⟩ : ∃ nb, nb = w.heap.size := ⟨_, rfl⟩
  rw [← hnb] at hrb
  have HNB := Lib.hid hnb
  have A : Hid (Al rb w w) := Al.refl rb w
  have R := Lib.hid hR
  have HB := Lib.hid hB
  obtain ⟨s1, h_s1⟩ : ∃ x, x = nextR s := ⟨_, rfl⟩
  obtain ⟨n, h_n⟩ : ∃ x, x = (nameR L s1).1 := ⟨_, rfl⟩
  obtain ⟨s2, h_s2⟩ : ∃ x, x = (nameR L s1).2 := ⟨_, rfl⟩
  obtain ⟨l, h_l⟩ : ∃ x, x = (betweenR L (paramR L) tSemi s2).1 := ⟨_, rfl⟩
  obtain ⟨s3, h_s3⟩ : ∃ x, x = (betweenR L (paramR L) tSemi s2).2 := ⟨_, rfl⟩
  obtain ⟨x, h_x⟩ : ∃ x, x = (itemsR L X s3).1 := ⟨_, rfl⟩
  obtain ⟨s4, h_s4⟩ : ∃ x, x = (itemsR L X s3).2 := ⟨_, rfl⟩
  have HF : Hid (unitR L X s = (⟨true, n, l, ⟨noS, 0⟩, [], [], x⟩, s4)) := by show _ = _; rw [h_s4, h_x, h_s3, h_l, h_s2, h_n, h_s1]; exact unitR_con hm
  have S_s1 := Lib.hid h_s1
  have S_n := Lib.hid h_n
  have S_s2 := Lib.hid h_s2
  have S_l := Lib.hid h_l
  have S_s3 := Lib.hid h_s3
  have S_x := Lib.hid h_x
  have S_s4 := Lib.hid h_s4
  clear h_s1 h_n h_s2 h_l h_s3 h_x h_s4
  have HM := Lib.hid hm
  clear hm
  clear hR hB hnb
  go_enter Tryz.func17, Tryz.ntmps17
  go_upto_region 1 with fail
  refine wp_letW ?_
  intro W1 hW1
  have hb_ : Below w.heap.size w W1 := by rw [hW1]; exact (Below.refl _ _).alloc (Nat.le_refl _) _
  have F_ : Fr (fun _ => False) w W1 := Fr.of_below hb_ _
  obtain ⟨b_r, hb_r⟩ : ∃ b, b = w.heap.size := ⟨_, rfl⟩
  have hA_ : w.heap.size ≤ w.heap.size := A.out.size
  have n_r : nb ≤ b_r := by have := HNB.out; omega
  have K_r : Hid (Blk W1 b_r #[.bool false, .string ⟨#[]⟩, .slice none 0 0, .string ⟨#[]⟩, .int .i64 0, .slice none 0 0, .slice none 0 0, .slice none 0 0] 43) := by show Blk _ _ _ _; rw [hW1, hb_r]; exact Blk.new w _ _
  have A : Hid (Al rb w W1) := A.out.then hb_
  have R : Hid (Rp L a cc rb W1 s) := R.out.below hb_
  rw [← hb_r]
  clear hW1 hb_ F_ hA_ hb_r
  have hc_ := ptake_any EV ⟨#[99, 111, 110, 116, 114, 97, 99, 116]⟩ (by decide) s W1 (HB.out.next A.out) R.out
  have e1_ : takeB L ⟨#[99, 111, 110, 116, 114, 97, 99, 116]⟩ s = true := by unfold takeB; exact decide_eq_true HM.out
  have e2_ : takeR L ⟨#[99, 111, 110, 116, 114, 97, 99, 116]⟩ s = s1 := by rw [S_s1.out]; unfold takeR; exact if_pos HM.out
  rw [e1_, e2_] at hc_
  clear e1_ e2_
  go_wp2_with fail
  refine hc_.mono ?_
  rintro e w2 ⟨rfl, hR_, hA_⟩
  have F_ : Al rb W1 w2 := hA_
  have K_r : Hid (Blk w2 b_r #[.bool false, .string ⟨#[]⟩, .slice none 0 0, .string ⟨#[]⟩, .int .i64 0, .slice none 0 0, .slice none 0 0, .slice none 0 0] 43) := F_.blk K_r.out (by omega)
  have A : Hid (Al rb w w2) := A.out.next F_
  have R := Lib.hid hR_
  clear hc_ hR_ hA_ F_
  go_upto_region 2 with fail
  have hc_ := pname_any EV s1 w2 (HB.out.next A.out) R.out
  rw [← S_n.out, ← S_s2.out] at hc_
  go_wp2_with fail
  refine hc_.mono ?_
  rintro e w3 ⟨rfl, hR_, hA_⟩
  have F_ : Al rb w2 w3 := hA_
  have K_r : Hid (Blk w3 b_r #[.bool false, .string ⟨#[]⟩, .slice none 0 0, .string ⟨#[]⟩, .int .i64 0, .slice none 0 0, .slice none 0 0, .slice none 0 0] 43) := F_.blk K_r.out (by omega)
  have A : Hid (Al rb w w3) := A.out.next F_
  have R := Lib.hid hR_
  clear hc_ hR_ hA_ F_
  go_upto_region 3 with fail
  refine wp_letW ?_
  intro W4 hW4
  have hb_ : Below w3.heap.size w3 W4 := by rw [hW4]; exact (Below.refl _ _).alloc (Nat.le_refl _) _
  have F_ : Fr (fun _ => False) w3 W4 := Fr.of_below hb_ _
  obtain ⟨b_u, hb_u⟩ : ∃ b, b = w3.heap.size := ⟨_, rfl⟩
  have l_r_u : b_r < b_u := by have := K_r.out.lt; omega
  have K_r : Hid (Blk W4 b_r #[.bool false, .string ⟨#[]⟩, .slice none 0 0, .string ⟨#[]⟩, .int .i64 0, .slice none 0 0, .slice none 0 0, .slice none 0 0] 43) := K_r.out.below hb_
  have hA_ : w.heap.size ≤ w3.heap.size := A.out.size
  have n_u : nb ≤ b_u := by have := HNB.out; omega
  have K_u : Hid (Blk W4 b_u #[.bool true, .string n, .slice none 0 0, .string ⟨#[]⟩, .int .i64 0, .slice none 0 0, .slice none 0 0, .slice none 0 0] 43) := by show Blk _ _ _ _; rw [hW4, hb_u]; exact Blk.new w3 _ _
  have A : Hid (Al rb w W4) := A.out.then hb_
  have R : Hid (Rp L a cc rb W4 s2) := R.out.below hb_
  rw [← hb_u]
  clear hW4 hb_ F_ hA_ hb_u
  have hc_ := betweenPm_any EV tSemi (by decide) s2 W4 (HB.out.next A.out) R.out
  rw [← S_l.out, ← S_s3.out] at hc_
  have hl_ : nb ≤ W4.heap.size := by have := A.out.size; have := HNB.out; omega
  go_wp2_with fail
  refine hc_.mono ?_
  rintro e w5 ⟨v_, rfl, hV_, hR_, hA_⟩
  obtain ⟨ea_l, ec_l, rfl, -⟩ := hV_.form
  obtain ⟨en_l, hen_⟩ : ∃ n, n = l.length := ⟨_, rfl⟩
  rw [← hen_] at hV_ ⊢
  have hV2_ := Lib.hid (hV_.lower hl_ PPm.lowers)
  clear hV_ hen_ hl_
  have F_ : Al rb W4 w5 := hA_
  have K_r : Hid (Blk w5 b_r #[.bool false, .string ⟨#[]⟩, .slice none 0 0, .string ⟨#[]⟩, .int .i64 0, .slice none 0 0, .slice none 0 0, .slice none 0 0] 43) := F_.blk K_r.out (by omega)
  have K_u : Hid (Blk w5 b_u #[.bool true, .string n, .slice none 0 0, .string ⟨#[]⟩, .int .i64 0, .slice none 0 0, .slice none 0 0, .slice none 0 0] 43) := F_.blk K_u.out (by omega)
  have A : Hid (Al rb w w5) := A.out.next F_
  have R := Lib.hid hR_
  clear hc_ hR_ hA_ F_
  have V_l : Hid (RwPm nb w5 (.slice ea_l en_l ec_l) l) := hV2_
  clear hV2_
  have k_u_0 : w5.cell? ⟨b_u, 0, none⟩ = some (.bool true) := Blk.c K_u.out rfl
  have f_u_0 : w5.frozen? ⟨b_u, 0, none⟩ = false := Blk.z K_u.out rfl
  have k_u_1 : w5.cell? ⟨b_u, 1, none⟩ = some (.string n) := Blk.c K_u.out rfl
  have f_u_1 : w5.frozen? ⟨b_u, 1, none⟩ = false := Blk.z K_u.out rfl
  have k_u_2 : w5.cell? ⟨b_u, 2, none⟩ = some (.slice none 0 0) := Blk.c K_u.out rfl
  have f_u_2 : w5.frozen? ⟨b_u, 2, none⟩ = false := Blk.z K_u.out rfl
  have k_u_3 : w5.cell? ⟨b_u, 3, none⟩ = some (.string ⟨#[]⟩) := Blk.c K_u.out rfl
  have f_u_3 : w5.frozen? ⟨b_u, 3, none⟩ = false := Blk.z K_u.out rfl
  have k_u_4 : w5.cell? ⟨b_u, 4, none⟩ = some (.int .i64 0) := Blk.c K_u.out rfl
  have f_u_4 : w5.frozen? ⟨b_u, 4, none⟩ = false := Blk.z K_u.out rfl
  have k_u_5 : w5.cell? ⟨b_u, 5, none⟩ = some (.slice none 0 0) := Blk.c K_u.out rfl
  have f_u_5 : w5.frozen? ⟨b_u, 5, none⟩ = false := Blk.z K_u.out rfl
  have k_u_6 : w5.cell? ⟨b_u, 6, none⟩ = some (.slice none 0 0) := Blk.c K_u.out rfl
  have f_u_6 : w5.frozen? ⟨b_u, 6, none⟩ = false := Blk.z K_u.out rfl
  have k_u_7 : w5.cell? ⟨b_u, 7, none⟩ = some (.slice none 0 0) := Blk.c K_u.out rfl
  have f_u_7 : w5.frozen? ⟨b_u, 7, none⟩ = false := Blk.z K_u.out rfl
  go_upto_region 4 with fail
  refine wp_letW ?_
  intro W6 hW6
  have F_ : Fr (fun k => k = b_u) w5 W6 := by rw [hW6]; exact (Fr.set_at w5 b_u 2 _)
  have kp_ : KpT 43 nb w5 W6 := KpT.one K_u.out F_
  have K2_ : Blk W6 b_u #[.bool true, .string n, .slice ea_l en_l ec_l, .string ⟨#[]⟩, .int .i64 0, .slice none 0 0, .slice none 0 0, .slice none 0 0] 43 := by rw [hW6]; have h := (Blk.setAt K_u.out 2 (.slice ea_l en_l ec_l)); simpa using h
  have K_r : Hid (Blk W6 b_r #[.bool false, .string ⟨#[]⟩, .slice none 0 0, .string ⟨#[]⟩, .int .i64 0, .slice none 0 0, .slice none 0 0, .slice none 0 0] 43) := F_.blk' K_r.out (by omega)
  have V_l : Hid (RwPm nb W6 (.slice ea_l en_l ec_l) l) := V_l.out.stays kp_ (by decide) PPm.stays
  have K_u := Lib.hid K2_
  have A : Hid (Al rb w W6) := Fr.trans A.out F_ (fun i hi q => by have := HNB.out; omega)
  have R : Hid (Rp L a cc rb W6 s3) := R.out.fr F_ (fun q => by omega)
  clear k_u_0 f_u_0 k_u_1 f_u_1 k_u_2 f_u_2 k_u_3 f_u_3 k_u_4 f_u_4 k_u_5 f_u_5 k_u_6 f_u_6 k_u_7 f_u_7
  clear hW6 F_ kp_ K2_
  have hc_ := pitems_any EV hX s3 W6 (HB.out.next A.out) R.out
  rw [← S_x.out, ← S_s4.out] at hc_
  have hl_ : nb ≤ W6.heap.size := by have := A.out.size; have := HNB.out; omega
  go_wp2_with fail
  refine hc_.mono ?_
  rintro e w7 ⟨v_, rfl, hV_, hR_, hA_⟩
  obtain ⟨ea_x, ec_x, rfl, -⟩ := hV_.form
  obtain ⟨en_x, hen_⟩ : ∃ n, n = x.length := ⟨_, rfl⟩
  rw [← hen_] at hV_ ⊢
  have hV2_ := Lib.hid (hV_.lower hl_ PIm.lowers)
  clear hV_ hen_ hl_
  have F_ : Al rb W6 w7 := hA_
  have K_r : Hid (Blk w7 b_r #[.bool false, .string ⟨#[]⟩, .slice none 0 0, .string ⟨#[]⟩, .int .i64 0, .slice none 0 0, .slice none 0 0, .slice none 0 0] 43) := F_.blk K_r.out (by omega)
  have K_u : Hid (Blk w7 b_u #[.bool true, .string n, .slice ea_l en_l ec_l, .string ⟨#[]⟩, .int .i64 0, .slice none 0 0, .slice none 0 0, .slice none 0 0] 43) := F_.blk K_u.out (by omega)
  have V_l : Hid (RwPm nb w7 (.slice ea_l en_l ec_l) l) := V_l.out.stays (Al.kpT (T := noT) F_ hrb) (by decide) PPm.stays
  have A : Hid (Al rb w w7) := A.out.next F_
  have R := Lib.hid hR_
  clear hc_ hR_ hA_ F_
  have V_x : Hid (RwIm nb w7 (.slice ea_x en_x ec_x) x) := hV2_
  clear hV2_
  have k_u_0 : w7.cell? ⟨b_u, 0, none⟩ = some (.bool true) := Blk.c K_u.out rfl
  have f_u_0 : w7.frozen? ⟨b_u, 0, none⟩ = false := Blk.z K_u.out rfl
  have k_u_1 : w7.cell? ⟨b_u, 1, none⟩ = some (.string n) := Blk.c K_u.out rfl
  have f_u_1 : w7.frozen? ⟨b_u, 1, none⟩ = false := Blk.z K_u.out rfl
  have k_u_2 : w7.cell? ⟨b_u, 2, none⟩ = some (.slice ea_l en_l ec_l) := Blk.c K_u.out rfl
  have f_u_2 : w7.frozen? ⟨b_u, 2, none⟩ = false := Blk.z K_u.out rfl
  have k_u_3 : w7.cell? ⟨b_u, 3, none⟩ = some (.string ⟨#[]⟩) := Blk.c K_u.out rfl
  have f_u_3 : w7.frozen? ⟨b_u, 3, none⟩ = false := Blk.z K_u.out rfl
  have k_u_4 : w7.cell? ⟨b_u, 4, none⟩ = some (.int .i64 0) := Blk.c K_u.out rfl
  have f_u_4 : w7.frozen? ⟨b_u, 4, none⟩ = false := Blk.z K_u.out rfl
  have k_u_5 : w7.cell? ⟨b_u, 5, none⟩ = some (.slice none 0 0) := Blk.c K_u.out rfl
  have f_u_5 : w7.frozen? ⟨b_u, 5, none⟩ = false := Blk.z K_u.out rfl
  have k_u_6 : w7.cell? ⟨b_u, 6, none⟩ = some (.slice none 0 0) := Blk.c K_u.out rfl
  have f_u_6 : w7.frozen? ⟨b_u, 6, none⟩ = false := Blk.z K_u.out rfl
  have k_u_7 : w7.cell? ⟨b_u, 7, none⟩ = some (.slice none 0 0) := Blk.c K_u.out rfl
  have f_u_7 : w7.frozen? ⟨b_u, 7, none⟩ = false := Blk.z K_u.out rfl
  go_upto_region 5 with fail
  refine wp_letW ?_
  intro W8 hW8
  have F_ : Fr (fun k => k = b_u) w7 W8 := by rw [hW8]; exact (Fr.set_at w7 b_u 7 _)
  have kp_ : KpT 43 nb w7 W8 := KpT.one K_u.out F_
  have K2_ : Blk W8 b_u #[.bool true, .string n, .slice ea_l en_l ec_l, .string ⟨#[]⟩, .int .i64 0, .slice none 0 0, .slice none 0 0, .slice ea_x en_x ec_x] 43 := by rw [hW8]; have h := (Blk.setAt K_u.out 7 (.slice ea_x en_x ec_x)); simpa using h
  have K_r : Hid (Blk W8 b_r #[.bool false, .string ⟨#[]⟩, .slice none 0 0, .string ⟨#[]⟩, .int .i64 0, .slice none 0 0, .slice none 0 0, .slice none 0 0] 43) := F_.blk' K_r.out (by omega)
  have V_l : Hid (RwPm nb W8 (.slice ea_l en_l ec_l) l) := V_l.out.stays kp_ (by decide) PPm.stays
  have V_x : Hid (RwIm nb W8 (.slice ea_x en_x ec_x) x) := V_x.out.stays kp_ (by decide) (PIm.stays (by decide) (by decide))
  have K_u := Lib.hid K2_
  have A : Hid (Al rb w W8) := Fr.trans A.out F_ (fun i hi q => by have := HNB.out; omega)
  have R : Hid (Rp L a cc rb W8 s4) := R.out.fr F_ (fun q => by omega)
  clear k_u_0 f_u_0 k_u_1 f_u_1 k_u_2 f_u_2 k_u_3 f_u_3 k_u_4 f_u_4 k_u_5 f_u_5 k_u_6 f_u_6 k_u_7 f_u_7
  clear hW8 F_ kp_ K2_
  have k_u_0 : W8.cell? ⟨b_u, 0, none⟩ = some (.bool true) := Blk.c K_u.out rfl
  have k_u_1 : W8.cell? ⟨b_u, 1, none⟩ = some (.string n) := Blk.c K_u.out rfl
  have k_u_2 : W8.cell? ⟨b_u, 2, none⟩ = some (.slice ea_l en_l ec_l) := Blk.c K_u.out rfl
  have k_u_3 : W8.cell? ⟨b_u, 3, none⟩ = some (.string ⟨#[]⟩) := Blk.c K_u.out rfl
  have k_u_4 : W8.cell? ⟨b_u, 4, none⟩ = some (.int .i64 0) := Blk.c K_u.out rfl
  have k_u_5 : W8.cell? ⟨b_u, 5, none⟩ = some (.slice none 0 0) := Blk.c K_u.out rfl
  have k_u_6 : W8.cell? ⟨b_u, 6, none⟩ = some (.slice none 0 0) := Blk.c K_u.out rfl
  have k_u_7 : W8.cell? ⟨b_u, 7, none⟩ = some (.slice ea_x en_x ec_x) := Blk.c K_u.out rfl
  have k_r_0 : W8.cell? ⟨b_r, 0, none⟩ = some (.bool false) := Blk.c K_r.out rfl
  have f_r_0 : W8.frozen? ⟨b_r, 0, none⟩ = false := Blk.z K_r.out rfl
  have k_r_1 : W8.cell? ⟨b_r, 1, none⟩ = some (.string ⟨#[]⟩) := Blk.c K_r.out rfl
  have f_r_1 : W8.frozen? ⟨b_r, 1, none⟩ = false := Blk.z K_r.out rfl
  have k_r_2 : W8.cell? ⟨b_r, 2, none⟩ = some (.slice none 0 0) := Blk.c K_r.out rfl
  have f_r_2 : W8.frozen? ⟨b_r, 2, none⟩ = false := Blk.z K_r.out rfl
  have k_r_3 : W8.cell? ⟨b_r, 3, none⟩ = some (.string ⟨#[]⟩) := Blk.c K_r.out rfl
  have f_r_3 : W8.frozen? ⟨b_r, 3, none⟩ = false := Blk.z K_r.out rfl
  have k_r_4 : W8.cell? ⟨b_r, 4, none⟩ = some (.int .i64 0) := Blk.c K_r.out rfl
  have f_r_4 : W8.frozen? ⟨b_r, 4, none⟩ = false := Blk.z K_r.out rfl
  have k_r_5 : W8.cell? ⟨b_r, 5, none⟩ = some (.slice none 0 0) := Blk.c K_r.out rfl
  have f_r_5 : W8.frozen? ⟨b_r, 5, none⟩ = false := Blk.z K_r.out rfl
  have k_r_6 : W8.cell? ⟨b_r, 6, none⟩ = some (.slice none 0 0) := Blk.c K_r.out rfl
  have f_r_6 : W8.frozen? ⟨b_r, 6, none⟩ = false := Blk.z K_r.out rfl
  have k_r_7 : W8.cell? ⟨b_r, 7, none⟩ = some (.slice none 0 0) := Blk.c K_r.out rfl
  have f_r_7 : W8.frozen? ⟨b_r, 7, none⟩ = false := Blk.z K_r.out rfl
  go_wp2_with fail
  obtain ⟨WE, hWE⟩ : ∃ WE, WE = ((((((((W8.setCell ⟨b_r, 0, none⟩ (.bool true)).setCell ⟨b_r, 1, none⟩ (.string n)).setCell ⟨b_r, 2, none⟩ (.slice ea_l en_l ec_l)).setCell ⟨b_r, 3, none⟩ (.string ⟨#[]⟩)).setCell ⟨b_r, 4, none⟩ (.int .i64 0)).setCell ⟨b_r, 5, none⟩ (.slice none 0 0)).setCell ⟨b_r, 6, none⟩ (.slice none 0 0)).setCell ⟨b_r, 7, none⟩ (.slice ea_x en_x ec_x)) := ⟨_, rfl⟩
  have KE : Blk WE b_r #[.bool true, .string n, .slice ea_l en_l ec_l, .string ⟨#[]⟩, .int .i64 0, .slice none 0 0, .slice none 0 0, .slice ea_x en_x ec_x] 43 := by rw [hWE]; have h := (Blk.setAt (Blk.setAt (Blk.setAt (Blk.setAt (Blk.setAt (Blk.setAt (Blk.setAt (Blk.setAt K_r.out 0 (.bool true)) 1 (.string n)) 2 (.slice ea_l en_l ec_l)) 3 (.string ⟨#[]⟩)) 4 (.int .i64 0)) 5 (.slice none 0 0)) 6 (.slice none 0 0)) 7 (.slice ea_x en_x ec_x)); simpa using h
  have FE : Fr (fun k => k = b_r) W8 WE := by rw [hWE]; exact (Fr.trans (Fr.trans (Fr.trans (Fr.trans (Fr.trans (Fr.trans (Fr.trans (Fr.set_at W8 b_r 0 _) (Fr.set_at _ b_r 1 _) (fun _ _ q => q)) (Fr.set_at _ b_r 2 _) (fun _ _ q => q)) (Fr.set_at _ b_r 3 _) (fun _ _ q => q)) (Fr.set_at _ b_r 4 _) (fun _ _ q => q)) (Fr.set_at _ b_r 5 _) (fun _ _ q => q)) (Fr.set_at _ b_r 6 _) (fun _ _ q => q)) (Fr.set_at _ b_r 7 _) (fun _ _ q => q))
  have kpE : KpT 43 nb W8 WE := KpT.one K_r.out FE
  have z0 : WE.cell? ⟨b_r, 0, none⟩ = some (.bool true) := Blk.c KE rfl
  have z1 : WE.cell? ⟨b_r, 1, none⟩ = some (.string n) := Blk.c KE rfl
  have z2 : WE.cell? ⟨b_r, 2, none⟩ = some (.slice ea_l en_l ec_l) := Blk.c KE rfl
  have z3 : WE.cell? ⟨b_r, 3, none⟩ = some (.string ⟨#[]⟩) := Blk.c KE rfl
  have z4 : WE.cell? ⟨b_r, 4, none⟩ = some (.int .i64 0) := Blk.c KE rfl
  have z5 : WE.cell? ⟨b_r, 5, none⟩ = some (.slice none 0 0) := Blk.c KE rfl
  have z6 : WE.cell? ⟨b_r, 6, none⟩ = some (.slice none 0 0) := Blk.c KE rfl
  have z7 : WE.cell? ⟨b_r, 7, none⟩ = some (.slice ea_x en_x ec_x) := Blk.c KE rfl
  rw [← hWE]
  refine bodyPost_ret (v := .agg #[.bool true, .string n, .slice ea_l en_l ec_l, .string ⟨#[]⟩, .int .i64 0, .slice none 0 0, .slice none 0 0, .slice ea_x en_x ec_x]) (by simp [results, Tryz.results17, go_sem, z0, z1, z2, z3, z4, z5, z6, z7]) rfl ?_
  have V_l : Hid (RwPm nb WE (.slice ea_l en_l ec_l) l) := V_l.out.stays kpE (by decide) PPm.stays
  have V_x : Hid (RwIm nb WE (.slice ea_x en_x ec_x) x) := V_x.out.stays kpE (by decide) (PIm.stays (by decide) (by decide))
  have A : Al rb w WE := Fr.trans A.out FE (fun i hi q => by have := HNB.out; omega)
  have R : Rp L a cc rb WE s4 := R.out.fr FE (fun q => by omega)
  exact ⟨_, _, _, _, _, _, _, _, _, _, _, _, _, _, _, _, rfl, by rw [HF.out, ← HNB.out]; exact ⟨_, _, _, _, rfl, V_l, Rw.nil_, Rw.nil_, V_x⟩, by rw [HF.out]; exact R, A⟩
end
end Go.Proofs.YtahalimekacliaaGreatDoor
