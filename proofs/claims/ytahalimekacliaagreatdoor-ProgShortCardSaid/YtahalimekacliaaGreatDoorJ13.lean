/- The reader of programs: lists: the walk. (Printed by gen/many.py.) The reader of programs: what begins here; what a call of a closure is: the walk. -/
import Derived.Test.YtahalimekacliaaGreatDoorJ12
set_option linter.unusedVariables false
set_option linter.unusedSimpArgs false
namespace Go.Proofs.YtahalimekacliaaGreatDoor
open Go.RowKit Go.Shelf Tx Px Mx Gx
def lenV : Value → Nat
  | .slice _ n _ => n
  | _ => 0
theorem Fr.thenB {S : Nat → Prop} {w W W' : World} (h : Fr S w W) (hb : Below w.heap.size W W') : Fr S w W' := ⟨hb.os.trans h.os, hb.tape.trans h.tape, hb.output.trans h.output, Nat.le_trans h.size hb.size, fun k hk hn => (hb.block k hk).trans (h.block k hk hn)⟩
def Steady (nb : Nat) (Inv : World → Rs → Bool → Prop) : Prop := ∀ (W W' : World) (s : Rs) (b : Bool), Inv W s b → (∀ g, g < nb → W'.heap[g]? = W.heap[g]?) → Inv W' s b
def OnIs (L : List Tok) (a : Option Addr) (cc rb eb : Nat) (Inv : World → Rs → Bool → Prop) (w0 : World) (f : Nat) (args : Array Value) : Prop :=
  ∀ (s : Rs) (b : Bool) (W : World), s.c = 0 → Fr (fun k => k = rb ∨ k = eb) w0 W → Rp L a cc rb W s → Inv W s b → Calls Tryz.prog f args W fun e w' => e = .returned (.bool b) ∧ Below W.heap.size W w'
def LpM {α : Type} (L : List Tok) (a : Option Addr) (cc rb eb : Nat) (Row : World → Value → List α → Prop) (Inv : World → Rs → Bool → Prop) (one : Rs → (α × Bool) × Rs) (w : World) (R : List α × Rs) (lv : Value) (wr : World) : Prop :=
  ∃ (k : Nat) (acc : List α) (s : Rs) (b : Bool), manyR L one k b acc s = R ∧ acc.length + k = 200 ∧ Row wr lv acc ∧ Rp L a cc rb wr s ∧ (s.c = 0 → Inv wr s b) ∧ Fr (fun k => k = rb ∨ k = eb) w wr
section
variable {α : Type} {L : List Tok} {one : Rs → (α × Bool) × Rs} {acc : List α} {s : Rs} {k : Nat} {b : Bool}
theorem manyR_stop (h : s.c ≠ 0 ∨ b = false) : manyR L one k b acc s = (acc, s) := by
  have h2 : ¬ (s.c = 0 ∧ b = true) := fun ⟨h3, h4⟩ => by rcases h with h | h; exact h h3; rw [h] at h4; cases h4
  cases k with
  | zero => unfold manyR; rw [if_neg h2]
  | succ k => unfold manyR; rw [if_neg h2]
theorem manyR_full (h : s.c = 0) : manyR L one 0 true acc s = (acc, failR L 7 s) := by unfold manyR; rw [if_pos ⟨h, rfl⟩]
theorem manyR_step (h : s.c = 0) : manyR L one (k + 1) true acc s = manyR L one k (one s).1.2 (acc ++ [(one s).1.1]) (one s).2 := by
  rw [manyR, if_pos ⟨h, rfl⟩]
end
section
variable {L : List Tok} {a : Option Addr} {cc rb : Nat} {w0 : World}
def OnePm (L : List Tok) (a : Option Addr) (cc rb eb : Nat) (Inv : World → Rs → Bool → Prop) (w0 : World) (f : Nat) (args : Array Value) (one : Rs → (Pm × Bool) × Rs) : Prop :=
  ∀ (s : Rs) (W : World), s.c = 0 → Fr (fun k => k = rb ∨ k = eb) w0 W → Rp L a cc rb W s → Inv W s true → Calls Tryz.prog f args W fun e w' => ∃ (n : ByteArray) (t : Int), e = .returned (.agg #[.string n, .int .i64 t]) ∧ PPm W.heap.size w' [.string n, .int .i64 t] (one s).1.1 ∧ Rp L a cc rb w' (one s).2 ∧ ((one s).2.c = 0 → Inv w' (one s).2 (one s).1.2) ∧ Fr (fun k => k = rb ∨ k = eb) W w'
set_option maxRecDepth 100000 in
set_option maxHeartbeats 4000000 in
theorem pmanyPm_any (EV : Hid (EnvOk w0 rb a cc L)) (eb f1 f2 : Nat) (b1 c1 b2 c2 : Array Value) (Inv : World → Rs → Bool → Prop) (one : Rs → (Pm × Bool) × Rs) (w : World) (hw0 : ∀ W, Fr (fun k => k = rb ∨ k = eb) w W → Al rb w0 W)
    (HST : Hid (Steady w.heap.size Inv)) (HONE : Hid (OnePm L a cc rb eb Inv w f1 (b1 ++ c1) one)) (HON : Hid (OnIs L a cc rb eb Inv w f2 (b2 ++ c2)))
    (hc1 : ∀ w, (callFunc f1 (b1 ++ c1)).run Tryz.prog w = .ok (.enter f1 (b1 ++ c1)) w) (hc2 : ∀ w, (callFunc f2 (b2 ++ c2)).run Tryz.prog w = .ok (.enter f2 (b2 ++ c2)) w)
    (s : Rs) (b : Bool) (heb : eb < w.heap.size) (hR : Rp L a cc rb w s) (hI : s.c = 0 → Inv w s b) :
    Calls Tryz.prog 63 #[.pointer (some ⟨rb, 0, none⟩), .func (.func f1) b1 c1, .func (.func f2) b2 c2] w fun e w' => ∃ v, e = .returned v ∧ Rw 39 2 PPm w.heap.size w' v (manyR L one 200 b [] s).1 ∧ Rp L a cc rb w' (manyR L one 200 b [] s).2 ∧ Fr (fun k => k = rb ∨ k = eb) w w' := by
  obtain ⟨R, hR0⟩ : ∃ R, R = manyR L one 200 b [] s := ⟨_, rfl⟩
  rw [← hR0]
  have HLP : Hid (LpM L a cc rb eb (Rw 39 2 PPm w.heap.size) Inv one w R (.slice none 0 0) w) := ⟨200, [], s, b, hR0.symm, rfl, Rw.nil_, hR, hI, Fr.refl _ _⟩
  have hrb := hR.lt
  obtain ⟨nb, hnb⟩ : ∃ nb, nb = w.heap.size := ⟨_, rfl⟩
  rw [← hnb] at HLP heb hrb HST ⊢
  have HNB := Lib.hid hnb
  have HW0 := Lib.hid hw0
  clear hR hI hR0 hnb hw0
  go_enter Tryz.func63, Tryz.ntmps63
  go_wp2_with fail
  go_loopw [7] (fun lv wr => LpM L a cc rb eb (Rw 39 2 PPm nb) Inv one w R lv wr) (fun lv _ => 201 - lenV lv)
  case atStart => exact HLP.out
  case round =>
    clear HLP
    obtain ⟨k, acc, s, b, hRR, hk, hrw, hR, hI, hF⟩ := hrel
    obtain ⟨va, vc, rfl, hvc⟩ := hrw.form
    obtain ⟨fl, hfl⟩ : ∃ fl, fl = acc.length := ⟨_, rfl⟩
    rw [← hfl] at hvc hrw ⊢
    have hfk : fl + k = 200 := by omega
    have hok := pok_any s wr hR
    have HFL := Lib.hid hfl
    have HRR := Lib.hid hRR
    have HRW := Lib.hid hrw
    have HR := Lib.hid hR
    have HF := Lib.hid hF
    have HI := Lib.hid hI
    have hnw : nb ≤ wr.heap.size := by rw [HNB.out]; exact hF.size
    clear hfl hRR hrw hR hF hI hk
    by_cases hc : s.c = 0
    · rw [decide_eq_true hc] at hok
      have hon := HON.out s b wr hc HF.out HR.out (HI.out hc)
      have HC := Lib.hid hc
      clear hc
      cases b
      · have HE : Hid (R = (acc, s)) := by show _ = _; rw [← HRR.out, manyR_stop (Or.inr rfl)]
        go_wp2_with fail
        refine hok.mono ?_
        rintro e w1 ⟨rfl, rfl⟩
        go_wp2_with fail
        refine hon.mono ?_
        rintro e w2 ⟨rfl, hb2⟩
        have HB2 := Lib.hid hb2
        clear hok hon hb2
        go_wp2_with fail
        go_ret
        exact ⟨_, rfl, by rw [HE.out]; exact HRW.out.stays (T' := noT) (KpT.below HB2.out) (by decide) PPm.stays, by rw [HE.out]; exact HR.out.below HB2.out, HF.out.trans (Fr.of_below HB2.out _) (fun _ _ q => q)⟩
      · match k, HRR, hfk with
        | 0, HRR, hfk =>
          have HE : Hid (R = (acc, failR L 7 s)) := by show _ = _; rw [← HRR.out, manyR_full HC.out]
          have h200 : ((fl : Int) == 200) = true := by rw [beq_iff_eq]; omega
          go_wp2_with fail
          refine hok.mono ?_
          rintro e w1 ⟨rfl, rfl⟩
          go_wp2_with fail
          refine hon.mono ?_
          rintro e w2 ⟨rfl, hb2⟩
          have HB2 := Lib.hid hb2
          have HF2 : Hid (Fr (fun k => k = rb ∨ k = eb) w w2) := HF.out.trans (Fr.of_below hb2 _) (fun _ _ q => q)
          have hfa := pfail_any EV 7 s w2 (HW0.out _ HF2.out) (HR.out.below hb2)
          clear hok hon hb2
          go_wp2_with fail
          refine hfa.mono ?_
          rintro e w3 ⟨rfl, hR3, hA3⟩
          have HR3 := Lib.hid hR3
          have HA3 := Lib.hid hA3
          clear hfa hR3 hA3
          go_wp2_with fail
          go_ret
          exact ⟨_, rfl, by rw [HE.out]; exact (HRW.out.stays (T' := noT) (KpT.below HB2.out) (by decide) PPm.stays).stays (T' := noT) (HA3.out.kpT hrb) (by decide) PPm.stays, by rw [HE.out]; exact HR3.out, HF2.out.trans HA3.out (fun _ _ q => Or.inl q)⟩
        | k + 1, HRR, hfk =>
          have HE : Hid (manyR L one k (one s).1.2 (acc ++ [(one s).1.1]) (one s).2 = R) := by show _ = _; rw [← HRR.out, manyR_step HC.out]
          have h200 : ((fl : Int) == 200) = false := by rw [beq_eq_false_iff_ne]; omega
          go_wp2_with fail
          refine hok.mono ?_
          rintro e w1 ⟨rfl, rfl⟩
          go_wp2_with fail
          refine hon.mono ?_
          rintro e w2 ⟨rfl, hb2⟩
          have HF2 : Hid (Fr (fun k => k = rb ∨ k = eb) w w2) := HF.out.trans (Fr.of_below hb2 _) (fun _ _ q => q)
          have hone := HONE.out s w2 HC.out HF2.out (HR.out.below hb2) (HST.out _ _ _ _ (HI.out HC.out) (fun g hg => hb2.block g (by omega)))
          have HB2 := Lib.hid hb2
          clear hok hon hb2
          go_wp2_with fail
          refine hone.mono ?_
          rintro e w3 ⟨n, t, rfl, hP3, hR3, hI3, hF3⟩
          have hn3 : nb ≤ w3.heap.size := by have := HF2.out.size; have := hF3.size; have := HNB.out; omega
          obtain ⟨cs, hC⟩ := (HRW.out.stays (T' := noT) (KpT.below HB2.out) (by decide) PPm.stays).stays (T' := noT) (KpT.fr hF3 (fun g hg => by omega)) (by decide) PPm.stays
          have hown := hC.own
          have HP3 : Hid (PPm nb w3 [.string n, .int .i64 t] (one s).1.1) := PPm.lowers _ _ _ _ _ hP3 (by have := HF2.out.size; have := HNB.out; omega)
          rw [← HFL.out] at hown
          have HCC := Lib.hid hC
          have HR3 := Lib.hid hR3
          have HI3 := Lib.hid hI3
          have HF3 : Hid (Fr (fun k => k = rb ∨ k = eb) w w3) := HF2.out.trans hF3 (fun _ _ q => q)
          clear hone hP3 hC hR3 hI3 hF3
          go_wp2_with (at_builtin; refine wpList_app rowPm rfl _ _ rfl nb _ _ _ rfl (hown.alloc _) ⟨w3.heap.size, 0, none⟩ 1 [.string n, .int .i64 t] rfl rfl ?c1 ?c2 ?c3 ?c4 (w3.heap.size + 1) ?c5 ?_)
          case c1 => exact World.news_of_block (heap_alloc_new w3 _)
          case c2 => simp [Value.oneCell']
          case c3 => omega
          case c4 => simp; omega
          case c5 => simp
          intro g cap w4 hown4 hgrow hat hlt4 hcap
          have hlow := fun g hg => (World.ownsRow.lt hown g hg).1
          have hB4 : Below nb w3 w4 := ((Below.refl nb w3).alloc hn3 _).grown hgrow (by simp; omega) hlow
          have HRW4 : Hid (Rw 39 2 PPm nb w4 (.slice (some ⟨g, 0, none⟩) (fl + 1) cap) (acc ++ [(one s).1.1])) := HCC.out.push PPm.stays HP3.out rfl hgrow (by rw [← HFL.out, List.flatMap_id]; exact hown4)
          have HR4 : Hid (Rp L a cc rb w4 (one s).2) := ⟨(hB4.block rb hrb).trans HR3.out.blk, HR3.out.le⟩
          have HI4 : Hid ((one s).2.c = 0 → Inv w4 (one s).2 (one s).1.2) := fun h => HST.out _ _ _ _ (HI3.out h) (fun g hg => hB4.block g hg)
          have HF4 : Hid (Fr (fun k => k = rb ∨ k = eb) w w4) := Fr.thenB HF3.out (by rw [← HNB.out]; exact hB4)
          clear hown hown4 hgrow hat hlt4 hlow hB4 hn3
          go_wp2_with fail
          go_roundw
          case rel => exact ⟨k, _, _, _, HE.out, by rw [List.length_append, ← HFL.out]; simp; omega, HRW4.out, HR4.out, HI4.out, HF4.out⟩
          case measure => simp [lenV]; omega
    · rw [decide_eq_false hc] at hok
      have HE : Hid (R = (acc, s)) := by show _ = _; rw [← HRR.out, manyR_stop (Or.inl hc)]
      clear hc
      go_wp2_with fail
      refine hok.mono ?_
      rintro e w1 ⟨rfl, rfl⟩
      clear hok
      go_wp2_with fail
      go_ret
      exact ⟨_, rfl, by rw [HE.out]; exact HRW.out, by rw [HE.out]; exact HR.out, HF.out⟩
end
end Go.Proofs.YtahalimekacliaaGreatDoor
namespace Go.Proofs.YtahalimekacliaaGreatDoor
open Go.RowKit Go.Shelf Tx Px Mx Gx
section
variable {L : List Tok} {a : Option Addr} {cc rb : Nat} {w0 : World}
theorem isItemR_mark (s : Rs) : isItemR L s = (decide (markR L s = tAssume) || decide (markR L s = tGuar) || decide (markR L s = tGhost) || decide (markR L s = tMode) || decide (markR L s = tImport)) := by
  obtain ⟨i, c, p⟩ := s
  unfold isItemR
  by_cases hc : c = 0
  · subst hc
    have e : ∀ t, t ≠ noS → isT L i t = decide (markR L ⟨i, 0, p⟩ = t) := fun t ht => by
      rw [Bool.eq_iff_iff, decide_eq_true_iff]; exact (mark_is ht).symm
    unfold isItem
    rw [e tAssume (by decide), e tGuar (by decide), e tGhost (by decide), e tMode (by decide), e tImport (by decide)]
    simp
  · have e : ∀ t, t ≠ noS → markR L ⟨i, c, p⟩ ≠ t := fun t ht => mark_fault ht hc
    simp [hc, e tAssume (by decide), e tGuar (by decide), e tGhost (by decide), e tMode (by decide), e tImport (by decide)]
theorem isUnitR_mark (s : Rs) : isUnitR L s = (decide (markR L s = tNode) || decide (markR L s = tContract)) := by
  obtain ⟨i, c, p⟩ := s
  unfold isUnitR
  by_cases hc : c = 0
  · subst hc
    have e : ∀ t, t ≠ noS → isT L i t = decide (markR L ⟨i, 0, p⟩ = t) := fun t ht => by
      rw [Bool.eq_iff_iff, decide_eq_true_iff]; exact (mark_is ht).symm
    unfold isUnit
    rw [e tNode (by decide), e tContract (by decide)]
    simp
  · have e : ∀ t, t ≠ noS → markR L ⟨i, c, p⟩ ≠ t := fun t ht => mark_fault ht hc
    simp [hc, e tNode (by decide), e tContract (by decide)]
theorem namedR_text (hok : ∀ t ∈ L, TokOk t) (s : Rs) : namedR L s = decide (textR L s ≠ noS) := by
  obtain ⟨i, c, p⟩ := s
  unfold namedR textR
  by_cases hc : c = 0
  · subst hc
    by_cases hn : named L i = true
    · simp only [hn, true_and, if_true, Bool.and_true, decide_true]
      unfold named at hn
      cases h : L[i]? with
      | none => rw [h] at hn; cases hn
      | some t =>
        rw [h] at hn
        have h1 := (hok t (List.mem_of_getElem? h)).name (by simpa using hn)
        have h2 : t.t ≠ noS := h1
        simp [h2]
    · simp [hn]
  · simp [hc]
set_option maxRecDepth 100000 in
set_option maxHeartbeats 1000000 in
theorem isItem_any (EV : Hid (EnvOk w0 rb a cc L)) (s : Rs) (w : World) (hB : Al rb w0 w) (hR : Rp L a cc rb w s) :
    Calls Tryz.prog 68 #[.pointer (some ⟨rb, 0, none⟩)] w fun e w' => e = .returned (.bool (isItemR L s)) ∧ Below w.heap.size w w' := by
  have hm := pmark_any EV s w hB hR
  have HF : Hid (isItemR L s = _) := isItemR_mark s
  obtain ⟨m, hmm⟩ : ∃ m, m = markR L s := ⟨_, rfl⟩
  rw [← hmm] at hm HF
  have e : ∀ t : List UInt8, (m.toList == t) = decide (m = bs t) := fun t => by
    have h := bytes_eq m (bs t)
    rw [Lib.toList_data (bs t)] at h
    exact h
  have e1 : _ = decide (m = tAssume) := e [97, 115, 115, 117, 109, 101]
  have e2 : _ = decide (m = tGuar) := e [103, 117, 97, 114, 97, 110, 116, 101, 101]
  have e3 : _ = decide (m = tGhost) := e [103, 104, 111, 115, 116]
  have e4 : _ = decide (m = tMode) := e [109, 111, 100, 101]
  have e5 : _ = decide (m = tImport) := e [105, 109, 112, 111, 114, 116]
  clear hmm e hB hR EV
  obtain ⟨b1, hb1⟩ : ∃ b, b = decide (m = tAssume) := ⟨_, rfl⟩
  obtain ⟨b2, hb2⟩ : ∃ b, b = decide (m = tGuar) := ⟨_, rfl⟩
  obtain ⟨b3, hb3⟩ : ∃ b, b = decide (m = tGhost) := ⟨_, rfl⟩
  obtain ⟨b4, hb4⟩ : ∃ b, b = decide (m = tMode) := ⟨_, rfl⟩
  obtain ⟨b5, hb5⟩ : ∃ b, b = decide (m = tImport) := ⟨_, rfl⟩
  rw [← hb1] at e1 HF
  rw [← hb2] at e2 HF
  rw [← hb3] at e3 HF
  rw [← hb4] at e4 HF
  rw [← hb5] at e5 HF
  clear hb1 hb2 hb3 hb4 hb5
  go_enter Tryz.func68, Tryz.ntmps68
  go_wp2_with fail
  refine hm.mono ?_
  rintro r w1 ⟨rfl, hb⟩
  have HB := Lib.hid hb
  clear hm hb
  cases b1
  · cases b2
    · cases b3
      · cases b4
        · cases b5
          · go_wp2_with fail
            go_ret
            exact ⟨ret_bool HF.out.symm, HB.out⟩
          · go_wp2_with fail
            go_ret
            exact ⟨ret_bool HF.out.symm, HB.out⟩
        · go_wp2_with fail
          go_ret
          exact ⟨ret_bool HF.out.symm, HB.out⟩
      · go_wp2_with fail
        go_ret
        exact ⟨ret_bool HF.out.symm, HB.out⟩
    · go_wp2_with fail
      go_ret
      exact ⟨ret_bool HF.out.symm, HB.out⟩
  · go_wp2_with fail
    go_ret
    exact ⟨ret_bool HF.out.symm, HB.out⟩
set_option maxRecDepth 100000 in
set_option maxHeartbeats 1000000 in
theorem isUnit_any (EV : Hid (EnvOk w0 rb a cc L)) (s : Rs) (w : World) (hB : Al rb w0 w) (hR : Rp L a cc rb w s) :
    Calls Tryz.prog 18 #[.pointer (some ⟨rb, 0, none⟩)] w fun e w' => e = .returned (.bool (isUnitR L s)) ∧ Below w.heap.size w w' := by
  have hm := pmark_any EV s w hB hR
  have hm2 : Hid (∀ W, Below w.heap.size w W → Calls Tryz.prog 43 #[.pointer (some ⟨rb, 0, none⟩)] W fun e w' => e = .returned (.string (markR L s)) ∧ Below W.heap.size W w') := fun W h => pmark_any EV s W (hB.then h) (hR.below h)
  have HF : Hid (isUnitR L s = _) := isUnitR_mark s
  obtain ⟨m, hmm⟩ : ∃ m, m = markR L s := ⟨_, rfl⟩
  rw [← hmm] at hm HF hm2
  have e : ∀ t : List UInt8, (m.toList == t) = decide (m = bs t) := fun t => by
    have h := bytes_eq m (bs t)
    rw [Lib.toList_data (bs t)] at h
    exact h
  have e1 : _ = decide (m = tNode) := e [110, 111, 100, 101]
  have e2 : _ = decide (m = tContract) := e [99, 111, 110, 116, 114, 97, 99, 116]
  clear hmm e hB hR EV
  obtain ⟨b1, hb1⟩ : ∃ b, b = decide (m = tNode) := ⟨_, rfl⟩
  obtain ⟨b2, hb2⟩ : ∃ b, b = decide (m = tContract) := ⟨_, rfl⟩
  rw [← hb1] at e1 HF
  rw [← hb2] at e2 HF
  clear hb1 hb2
  go_enter Tryz.func18, Tryz.ntmps18
  go_wp2_with fail
  refine hm.mono ?_
  rintro r w1 ⟨rfl, hb⟩
  have HB := Lib.hid hb
  clear hm
  cases b1
  · have hm3 := hm2.out w1 hb
    clear hb hm2
    go_wp2_with fail
    refine hm3.mono ?_
    rintro r w2 ⟨rfl, hb2⟩
    have HB2 := Lib.hid (below_next HB.out hb2)
    clear hm3 hb2
    cases b2
    all_goals
      go_wp2_with fail
      go_ret
      exact ⟨ret_bool HF.out.symm, HB2.out⟩
  · clear hb hm2
    go_wp2_with fail
    go_ret
    exact ⟨ret_bool HF.out.symm, HB.out⟩
set_option maxRecDepth 100000 in
set_option maxHeartbeats 1000000 in
theorem isNamed_any (EV : Hid (EnvOk w0 rb a cc L)) (s : Rs) (w : World) (hB : Al rb w0 w) (hR : Rp L a cc rb w s) :
    Calls Tryz.prog 42 #[.pointer (some ⟨rb, 0, none⟩)] w fun e w' => e = .returned (.bool (namedR L s)) ∧ Below w.heap.size w w' := by
  have ba : Below w.heap.size w (w.alloc (.cells #[.int .i64 1] 3)) := (Below.refl _ _).alloc (Nat.le_refl _) _
  have hh := phere_any EV w.heap.size [1] (by decide) s (w.alloc (.cells #[.int .i64 1] 3)) (hB.then ba) (hR.below ba) (Blk.new w _ _)
  rw [hereK_name] at hh
  have HF : Hid (namedR L s = _) := namedR_text EV.out.ok s
  obtain ⟨tx, htx⟩ : ∃ tx, tx = textR L s := ⟨_, rfl⟩
  rw [← htx] at hh HF
  have HBA := Lib.hid ba
  obtain ⟨eb, heb⟩ : ∃ eb, tx.toList.isEmpty = eb := ⟨_, rfl⟩
  have HE : Hid (namedR L s = !eb) := by
    show _ = _
    rw [HF.out, ← heb, Bool.eq_iff_iff]
    simp only [ne_eq, decide_eq_true_eq, Bool.not_eq_true', List.isEmpty_eq_false_iff, Lib.toList_data]
    refine not_congr ?_
    exact ⟨fun h => by rw [h]; rfl, fun h => bytes_ext (by rw [h]; rfl)⟩
  clear hB hR ba EV htx HF
  go_enter Tryz.func42, Tryz.ntmps42
  go_wp2_with fail
  refine hh.mono ?_
  rintro r w2 ⟨rfl, q, rfl⟩
  clear hh
  go_wp2_with fail
  go_ret
  exact ⟨ret_bool HE.out.symm, below_drawn HBA.out q⟩
end
end Go.Proofs.YtahalimekacliaaGreatDoor
