/- Machine: may code be? by the program: the walk. -/
import Derived.Deep.RegionHeld3
import Derived.Test.YtbdbhdcbdfbnnaaGreatDoorJ32
import Derived.Test.YtbdbhdcbdfbnnaaGreatDoorJ33
set_option linter.unusedVariables false
set_option linter.unusedSimpArgs false
namespace Go.Proofs.YtbdbhdcbdfbnnaaGreatDoor
open Go.RowKit
set_option maxRecDepth 100000
def CheckPost (c:Cx.Co) (w:World) (e:Ending) (w':World):Prop:=e=.returned (.int .i64 (if Cx.okS c=true then 0 else 1))∧Below w.heap.size w w'
theorem okS_size {c:Cx.Co} (h:Cx.okS c=true):0≤c.regs∧c.regs≤100000∧0≤c.slots∧c.slots≤100000∧c.ins.length≤200000:=(Cx.okS_ok h).size
theorem chkL_cons {regs slots:Int} {ins:Nat} (l:List Cx.In):∀ (s:List Int×List Int) (k:Nat) (t:List Int×List Int),Cx.chkL regs slots ins (l.take k) s=some t→Cx.chkL regs slots ins l s=Cx.chkL regs slots ins (l.drop k) t:=by
 induction l with
 | nil =>
  intro s k t h
  have h:some s=some t:=by simpa [Cx.chkL] using h
  injection h with h
  subst h
  simp
 | cons x l ih =>
  intro s k t h
  cases k with
  | zero=>simp[Cx.chkL] at h;subst h;rfl
  | succ k =>
   simp only[List.take_succ_cons,List.drop_succ_cons] at h ⊢
   have h:(match Cx.chk1 regs slots ins x s with | some t=>Cx.chkL regs slots ins (l.take k) t | none=>none)=some t:=h
   show (match Cx.chk1 regs slots ins x s with | some t=>Cx.chkL regs slots ins l t | none=>none)=_
   cases hu:Cx.chk1 regs slots ins x s with
   | none=>rw[hu] at h;cases h
   | some u=>rw[hu] at h;exact ih u k t h
theorem chkL_step {regs slots:Int} {ins:Nat} {l:List Cx.In} {s t:List Int×List Int} {k:Nat} {x:Cx.In} (h:Cx.chkL regs slots ins (l.take k) s=some t) (hx:l[k]?=some x) :
  (∀ u,Cx.chk1 regs slots ins x t=some u→Cx.chkL regs slots ins (l.take (k+1)) s=some u)∧(Cx.chk1 regs slots ins x t=none→Cx.chkL regs slots ins l s=none):=by
 have hd:l.drop k=x :: l.drop (k+1):=by
  have hlt:=(List.getElem?_eq_some_iff.1 hx).1
  rw[List.drop_eq_getElem_cons hlt,(List.getElem?_eq_some_iff.1 hx).2]
 refine⟨fun u hu=>?_,fun hn=>?_⟩
 ·have h1:=chkL_cons (l.take (k+1)) s k t (by rw[List.take_take,Nat.min_eq_left (by omega)];exact h)
  rw[h1,List.take_add_one,hx]
  have hlt:=(List.getElem?_eq_some_iff.1 hx).1
  have e:((l.take k)++(some x).toList).drop k=[x]:=by
   rw[List.drop_append_of_le_length (by rw[List.length_take];omega),List.drop_eq_nil_of_le (by rw[List.length_take];omega)];rfl
  rw[e]
  unfold Cx.chkL
  rw[hu]
  rfl
 ·rw[chkL_cons l s k t h,hd]
  unfold Cx.chkL
  rw[hn]
theorem okS_none {c:Cx.Co} (h:Cx.chkL c.regs c.slots c.inputs.length c.ins ([],[])=none):Cx.okS c=false:=by
 unfold Cx.okS;rw[h];simp
theorem okS_outs {c:Cx.Co} (hs:Cx.sizeS c=true) {t:List Int×List Int} (h:Cx.chkL c.regs c.slots c.inputs.length c.ins ([],[])=some t):Cx.okS c = !(c.outs.any fun r=>!decide (r∈t.1)):=by
 unfold Cx.okS;rw[h,hs]
 obtain⟨t1,t2⟩:=t
 simp only[Bool.true_and]
 rw[Bool.eq_iff_iff]
 simp
theorem FrS.grownIn {S:List Nat} {a w w':World} {p:Nat} (h:FrS S a w) (hg:w.grownBy w' (some p)) (hp:p∈S):FrS S a w' :=
 ⟨hg.os.trans h.os,hg.tape.trans h.tape,hg.output.trans h.output,Nat.le_trans h.size hg.size,fun k hk hn=>(hg.block k (Nat.lt_of_lt_of_le hk h.size) (fun e=>hn (by injection e with e;rw[e];exact hp))).trans (h.block k hk hn)⟩
set_option maxHeartbeats 8000000 in
theorem check_any (w : World) (c : Cx.Co) (vi vo vn : Value) (hi : Sl Cx.inL 6 w vi c.ins) (ho : Sl intC 1 w vo c.outs) (hn : Sl intC 1 w vn c.inputs) (h1 : c.ins.length ≤ 1000000) (h2 : c.outs.length ≤ 1000000) (h3 : c.inputs.length ≤ 1000000) (h64 : ∀ x ∈ c.ins, -9223372036854775808 ≤ x.n ∧ x.n ≤ 9223372036854775807) :
    Calls Tryz.prog 20 #[.agg #[vi, .int .i64 c.regs, .int .i64 c.slots, vo, vn]] w (CheckPost c w) := by
  have HBAD : Hid (∀ W, Below w.heap.size w W → Cx.okS c = false → CheckPost c w (.returned (.int .i64 1)) W) := fun W hb h => by
    unfold CheckPost; rw [h]; exact ⟨rfl, hb⟩
  have HSZ : Hid (∀ {a : Prop}, ¬ a → (Cx.okS c = true → a) → Cx.okS c = false) := fun {a} hna ha => by
    cases h : Cx.okS c with
    | false => rfl
    | true => exact absurd (ha h) hna
  obtain ⟨ia, ic, rfl, hic, hix⟩ := hi.form
  obtain ⟨oa, oc, rfl, -, -⟩ := ho.form
  obtain ⟨na, nc, rfl, -, -⟩ := hn.form
  have HI := Lib.hid hix
  have HO := Lib.hid ho
  have HN := Lib.hid hn
  have H64 := Lib.hid h64
  have HB0 := Lib.hid ((Below.refl w.heap.size w).alloc (Nat.le_refl _) (.cells #[.slice ia c.ins.length ic, .int .i64 c.regs, .int .i64 c.slots, .slice oa c.outs.length oc, .slice na c.inputs.length nc] 36))
  clear hi ho hn hix h64
  by_cases r0 : c.regs < 0
  · go_enter Tryz.func20, Tryz.ntmps20
    go_wp2_with fail
    go_ret
    exact HBAD.out _ HB0.out (HSZ.out (a := 0 ≤ c.regs) (by omega) fun h => (okS_size h).1)
  · by_cases r1 : 100000 < c.regs
    · go_enter Tryz.func20, Tryz.ntmps20
      go_wp2_with fail
      go_ret
      exact HBAD.out _ HB0.out (HSZ.out (a := c.regs ≤ 100000) (by omega) fun h => (okS_size h).2.1)
    · by_cases s0 : c.slots < 0
      · go_enter Tryz.func20, Tryz.ntmps20
        go_wp2_with fail
        go_ret
        exact HBAD.out _ HB0.out (HSZ.out (a := 0 ≤ c.slots) (by omega) fun h => (okS_size h).2.2.1)
      · by_cases s1 : 100000 < c.slots
        · go_enter Tryz.func20, Tryz.ntmps20
          go_wp2_with fail
          go_ret
          exact HBAD.out _ HB0.out (HSZ.out (a := c.slots ≤ 100000) (by omega) fun h => (okS_size h).2.2.2.1)
        · by_cases n1 : 200000 < c.ins.length
          · go_enter Tryz.func20, Tryz.ntmps20
            go_wp2_with fail
            go_ret
            exact HBAD.out _ HB0.out (HSZ.out (a := c.ins.length ≤ 200000) (by omega) fun h => (okS_size h).2.2.2.2)
          · have HSS : Hid (Cx.sizeS c = true) := (by unfold Cx.sizeS; rw [decide_eq_true]; omega : Cx.sizeS c = true)
            go_enter Tryz.func20, Tryz.ntmps20
            have hmm := @run_makeMap Tryz.prog
            go_wp2_with fail
            have k1 := Blk.new w #[.slice ia c.ins.length ic, .int .i64 c.regs, .int .i64 c.slots, .slice oa c.outs.length oc, .slice na c.inputs.length nc] 36
            obtain ⟨V1, hV1⟩ : ∃ V1, V1 = w.alloc (.cells #[.slice ia c.ins.length ic, .int .i64 c.regs, .int .i64 c.slots, .slice oa c.outs.length oc, .slice na c.inputs.length nc] 36) := ⟨_, rfl⟩
            have z1 : V1.heap.size = w.heap.size + 1 := by rw [hV1, World.size_alloc]
            have f1 : FrS [] w V1 := by rw [hV1]; exact (FrS.refl _ _).alloc _
            rw [← hV1] at k1 ⊢
            have m1 := SetAt.made V1
            obtain ⟨V2, hV2⟩ : ∃ V2, V2 = V1.alloc (.map #[] 0) := ⟨_, rfl⟩
            have z2 : V2.heap.size = w.heap.size + 1 + 1 := by rw [hV2, World.size_alloc, z1]
            have f2 : FrS [] V1 V2 := by rw [hV2]; exact (FrS.refl _ _).alloc _
            rw [← hV2] at m1 ⊢
            have m2 := SetAt.made V2
            obtain ⟨V3, hV3⟩ : ∃ V3, V3 = V2.alloc (.map #[] 0) := ⟨_, rfl⟩
            have z3 : V3.heap.size = w.heap.size + 1 + 1 + 1 := by rw [hV3, World.size_alloc, z2]
            have f3 : FrS [] V2 V3 := by rw [hV3]; exact (FrS.refl _ _).alloc _
            rw [← hV3] at m2 ⊢
            have k4 := Blk.new V3 #[.map (some (w.heap.size + 1))] 118
            obtain ⟨U, hU⟩ : ∃ U, U = V3.alloc (.cells #[.map (some (w.heap.size + 1))] 118) := ⟨_, rfl⟩
            have z4 : U.heap.size = w.heap.size + 1 + 1 + 1 + 1 := by rw [hU, World.size_alloc, z3]
            have f4 : FrS [] V3 U := by rw [hU]; exact (FrS.refl _ _).alloc _
            rw [← hU] at k4 ⊢
            rw [z1] at m1
            rw [z2] at m2
            rw [z3] at k4
            have f34 : FrS [] V2 U := f3.trans f4 (fun i hi => by cases hi)
            have f24 : FrS [] V1 U := f2.trans f34 (fun i hi => by cases hi)
            have FU := Lib.hid (f1.trans f24 (fun i hi => by cases hi))
            have KC := Lib.hid (f24.blk k1 (fun e => by cases e))
            have M1 := Lib.hid (m1.fr f34 (fun e => by cases e))
            have M2 := Lib.hid (m2.fr f4 (fun e => by cases e))
            have K4 := Lib.hid k4
            have ZU := Lib.hid z4
            clear hV1 hV2 hV3 hU z1 z2 z3 z4 f1 f2 f3 f4 f34 f24 k1 m1 m2 k4 hmm
            obtain ⟨cb, hcb⟩ : ∃ cb, cb = w.heap.size := ⟨_, rfl⟩
            obtain ⟨mw, hmw⟩ : ∃ mw, mw = w.heap.size + 1 := ⟨_, rfl⟩
            obtain ⟨ms, hms⟩ : ∃ ms, ms = w.heap.size + 1 + 1 := ⟨_, rfl⟩
            obtain ⟨wc, hwc⟩ : ∃ wc, wc = w.heap.size + 1 + 1 + 1 := ⟨_, rfl⟩
            rw [← hwc, ← hms, ← hmw, ← hcb]
            rw [← hwc, ← hmw] at K4
            rw [← hms] at M2
            rw [← hmw] at M1
            rw [← hcb] at KC
            have NE : Hid (cb ≠ mw ∧ cb ≠ ms ∧ wc ≠ mw ∧ wc ≠ ms ∧ mw ≠ ms ∧ w.heap.size ≤ mw ∧ w.heap.size ≤ ms) := (by omega : cb ≠ mw ∧ cb ≠ ms ∧ wc ≠ mw ∧ wc ≠ ms ∧ mw ≠ ms ∧ w.heap.size ≤ mw ∧ w.heap.size ≤ ms)
            clear hcb hmw hms hwc
            go_loopw [38] (fun iv wr => ∃ (t : Nat) (s : List Int × List Int), iv = .int .i64 t ∧ t ≤ c.ins.length ∧ Cx.chkL c.regs c.slots c.inputs.length (c.ins.take t) ([], []) = some s ∧ FrS [mw, ms] U wr ∧ SetAt wr mw s.1 ∧ SetAt wr ms s.2) (fun iv _ => c.ins.length - (intOf iv).toNat)
            case atStart => exact ⟨0, ([], []), rfl, Nat.zero_le _, rfl, FrS.refl _ _, M1.out, M2.out⟩
            case round =>
              obtain ⟨t, s, rfl, ht, hchk, hF, hS1, hS2⟩ := hrel
              have ht0 : (0 : Int) ≤ (t : Int) := by omega
              have hbw : Below w.heap.size w wr := FrS.below FU.out.toBelow hF FU.out.size (fun i hi => by
                simp only [List.mem_cons, List.not_mem_nil, or_false] at hi
                rcases hi with rfl | rfl
                · exact NE.out.2.2.2.2.2.1
                · exact NE.out.2.2.2.2.2.2)
              have hkc := hF.blk KC.out (fun e => by
                simp only [List.mem_cons, List.not_mem_nil, or_false] at e
                rcases e with e | e
                · exact NE.out.1 e
                · exact NE.out.2.1 e)
              have hkw := hF.blk K4.out (fun e => by
                simp only [List.mem_cons, List.not_mem_nil, or_false] at e
                rcases e with e | e
                · exact NE.out.2.2.1 e
                · exact NE.out.2.2.2.1 e)
              have HCHK := Lib.hid hchk
              have HF := Lib.hid hF
              have HS1 := Lib.hid hS1
              have HS2 := Lib.hid hS2
              have HBW := Lib.hid hbw
              have HKC := Lib.hid hkc
              have HKW := Lib.hid hkw
              clear hchk hF hS1 hS2 hkc hkw
              by_cases hlt : t < c.ins.length
              · obtain ⟨x, hx⟩ : ∃ x, c.ins[t]? = some x := ⟨_, List.getElem?_eq_getElem hlt⟩
                have STEP := Lib.hid (chkL_step HCHK.out hx)
                have HXN := Lib.hid (H64.out x (List.mem_of_getElem? hx))
                obtain ⟨ib, io, rfl, hcl⟩ := HI.out wr hbw t x hx
                have e0 : wr.cell? ⟨ib, io + t * 6, none⟩ = some (.int .i64 x.op) := hcl 0 _ rfl
                have e1 : wr.cell? ⟨ib, io + t * 6 + 1, none⟩ = some (.int .i64 x.d) := hcl 1 _ rfl
                have e2 : wr.cell? ⟨ib, io + t * 6 + 2, none⟩ = some (.int .i64 x.a) := hcl 2 _ rfl
                have e3 : wr.cell? ⟨ib, io + t * 6 + 3, none⟩ = some (.int .i64 x.b) := hcl 3 _ rfl
                have e4 : wr.cell? ⟨ib, io + t * 6 + 4, none⟩ = some (.int .i64 x.c) := hcl 4 _ rfl
                have e5 : wr.cell? ⟨ib, io + t * 6 + 5, none⟩ = some (.int .i64 x.n) := hcl 5 _ rfl
                obtain ⟨op, d, a, b, cc, n⟩ := x
                simp only at e0 e1 e2 e3 e4 e5
                have htl : (t : Int) < (c.ins.length : Int) := by omega
                have kx := Blk.new wr #[.int .i64 op, .int .i64 d, .int .i64 a, .int .i64 b, .int .i64 cc, .int .i64 n] 70
                obtain ⟨V, hV⟩ : ∃ V, V = wr.alloc (.cells #[.int .i64 op, .int .i64 d, .int .i64 a, .int .i64 b, .int .i64 cc, .int .i64 n] 70) := ⟨_, rfl⟩
                have fV : FrS [] wr V := by rw [hV]; exact (FrS.refl _ _).alloc _
                rw [← hV] at kx
                obtain ⟨xb, hxb⟩ : ∃ xb, xb = wr.heap.size := ⟨_, rfl⟩
                rw [← hxb] at kx
                have FV := Lib.hid fV
                have kcv := fV.blk HKC.out (fun e => by cases e)
                have KX := Lib.hid kx
                have KCV := Lib.hid kcv
                have g0 : V.cell? ⟨cb, 0, none⟩ = some (.slice (some ⟨ib, io, none⟩) c.ins.length ic) := kcv.c rfl
                have g1 : V.cell? ⟨cb, 1, none⟩ = some (.int .i64 c.regs) := kcv.c rfl
                have g2 : V.cell? ⟨cb, 2, none⟩ = some (.int .i64 c.slots) := kcv.c rfl
                have g3 : V.cell? ⟨cb, 3, none⟩ = some (.slice oa c.outs.length oc) := kcv.c rfl
                have g4 : V.cell? ⟨cb, 4, none⟩ = some (.slice na c.inputs.length nc) := kcv.c rfl
                have y0 : V.cell? ⟨xb, 0, none⟩ = some (.int .i64 op) := kx.c rfl
                have y1 : V.cell? ⟨xb, 1, none⟩ = some (.int .i64 d) := kx.c rfl
                have y2 : V.cell? ⟨xb, 2, none⟩ = some (.int .i64 a) := kx.c rfl
                have y3 : V.cell? ⟨xb, 3, none⟩ = some (.int .i64 b) := kx.c rfl
                have y4 : V.cell? ⟨xb, 4, none⟩ = some (.int .i64 cc) := kx.c rfl
                have y5 : V.cell? ⟨xb, 5, none⟩ = some (.int .i64 n) := kx.c rfl
                have hcall := isPlain_any V c (.slice (some ⟨ib, io, none⟩) c.ins.length ic) (.slice oa c.outs.length oc) na nc ⟨op, d, a, b, cc, n⟩ HXN.out (by have := HSS.out; unfold Cx.sizeS at this; rw [decide_eq_true_eq] at this; omega) h3
                have HXB := Lib.hid hxb
                have HVW := Lib.hid hV
                clear hcl hx hbw fV kx kcv hV hxb
                rw [HVW.out] at g0 g1 g2 g3 g4 y0 y1 y2 y3 y4 y5
                rw [HXB.out] at y0 y1 y2 y3 y4 y5
                go_wp2_with fail
                clear e0 e1 e2 e3 e4 e5 g0 g1 g2 g3 g4 y0 y1 y2 y3 y4 y5
                rw [← HVW.out, ← HXB.out]
                refine hcall.mono ?_
                rintro e w1 ⟨rfl, hb1⟩
                clear hcall
                have F1 := Lib.hid (FrS.of_below hb1 [])
                have FW1 := Lib.hid ((HF.out.trans FV.out (fun i hi => by cases hi)).trans F1.out (fun i hi => by cases hi))
                have BW1 := Lib.hid (below_next HBW.out ((FV.out.trans F1.out (fun i hi => by cases hi)).toBelow))
                have KX1 := Lib.hid (F1.out.blk KX.out (fun e => by cases e))
                have KC1 := Lib.hid (F1.out.blk KCV.out (fun e => by cases e))
                have KW1 := Lib.hid (F1.out.blk (FV.out.blk HKW.out (fun e => by cases e)) (fun e => by cases e))
                have S11 := Lib.hid ((HS1.out.fr FV.out (fun e => by cases e)).fr F1.out (fun e => by cases e))
                have S21 := Lib.hid ((HS2.out.fr FV.out (fun e => by cases e)).fr F1.out (fun e => by cases e))
                clear hb1
                have HNONE : Hid (∀ W, Below w.heap.size w W → Cx.chk1 c.regs c.slots c.inputs.length ⟨op, d, a, b, cc, n⟩ s = none → CheckPost c w (.returned (.int .i64 1)) W) := fun W hb h => HBAD.out W hb (okS_none (STEP.out.2 h))
                cases hpl : Cx.plainS c.slots c.inputs.length ⟨op, d, a, b, cc, n⟩ with
                | false =>
                  have HC1 : Hid (Cx.chk1 c.regs c.slots c.inputs.length ⟨op, d, a, b, cc, n⟩ s = none) := by show _ = _; unfold Cx.chk1; rw [if_pos hpl]
                  clear hpl
                  go_wp2_with fail
                  go_ret
                  exact HNONE.out _ BW1.out HC1.out
                | true =>
                  have HPL := Lib.hid hpl
                  have hr0 := (Cx.plainS_parts hpl).1
                  have hr3 := (Cx.readsN_le op).2
                  simp only at hr0
                  obtain ⟨k, hk⟩ := Int.eq_ofNat_of_zero_le hr0
                  have hk3 : k ≤ 3 := by omega
                  have hO : ∀ W, Calls Tryz.prog 50 #[.int .i64 op] W fun e w' => e = .returned (.int .i64 k) ∧ w' = W := fun W => by have := reads_any op W; rwa [hk] at this
                  have HRDS : Hid (Cx.rds ⟨op, d, a, b, cc, n⟩ = [a, b, cc].take k) := rds_of hk
                  clear hpl hr0 hr3 hk
                  go_wp2_with fail
                  have KK : ∀ W : World, W.heap[xb]? = w1.heap[xb]? → W.cell? ⟨xb, 0, none⟩ = some (.int .i64 op) ∧ W.cell? ⟨xb, 2, none⟩ = some (.int .i64 a) ∧ W.cell? ⟨xb, 3, none⟩ = some (.int .i64 b) ∧ W.cell? ⟨xb, 4, none⟩ = some (.int .i64 cc) := fun W e => by
                    have hk : Blk W xb _ _ := e.trans KX1.out
                    exact ⟨hk.c rfl, hk.c rfl, hk.c rfl, hk.c rfl⟩
                  have K0 := KK w1 rfl
                  have hltx : xb < w1.heap.size := KX1.out.lt
                  have hk3' : (k : Int) ≤ 3 := by omega
                  have hk0' : (0 : Int) ≤ (k : Int) := by omega
                  go_region_held3 (fun w' => w'.cell? ⟨xb, 0, none⟩ = some (.int .i64 op) ∧ w'.cell? ⟨xb, 2, none⟩ = some (.int .i64 a) ∧ w'.cell? ⟨xb, 3, none⟩ = some (.int .i64 b) ∧ w'.cell? ⟨xb, 4, none⟩ = some (.int .i64 cc))
                    (first | exact KK _ rfl | exact KK _ (Below.heap_alloc _ _ _ hltx))
                    (first
                      | (go_at_call 50
                         (with_reducible refine (hO _).mono ?_)
                         rintro e w2 ⟨rfl, rfl⟩))
                  all_goals
                    have hbW : Below w1.heap.size w1 (w1.alloc (.cells #[.int .i64 a, .int .i64 b, .int .i64 cc] 3)).drew := ((Below.refl _ _).alloc (Nat.le_refl _) _).drew
                    have hks : Blk (w1.alloc (.cells #[.int .i64 a, .int .i64 b, .int .i64 cc] 3)).drew w1.heap.size #[.int .i64 a, .int .i64 b, .int .i64 cc] 3 := Blk.new w1 _ _
                    generalize (w1.alloc (.cells #[.int .i64 a, .int .i64 b, .int .i64 cc] 3)).drew = W2 at hbW hks ⊢
                    obtain ⟨sb, hsb⟩ : ∃ sb, sb = w1.heap.size := ⟨_, rfl⟩
                    rw [← hsb] at hks ⊢
                    have F2 := Lib.hid (FrS.of_below hbW [])
                    have KX2 := Lib.hid (F2.out.blk KX1.out (fun e => by cases e))
                    have KC2 := Lib.hid (F2.out.blk KC1.out (fun e => by cases e))
                    have KW2 := Lib.hid (F2.out.blk KW1.out (fun e => by cases e))
                    have S12 := Lib.hid (S11.out.fr F2.out (fun e => by cases e))
                    have S22 := Lib.hid (S21.out.fr F2.out (fun e => by cases e))
                    have FW2 := Lib.hid (FW1.out.trans F2.out (fun i hi => by cases hi))
                    have BW2 := Lib.hid (below_next BW1.out hbW)
                    have hrow : SlN intC 1 [] W2 (.slice (some ⟨sb, 0, none⟩) k 3) ([a, b, cc].take k) := new_ints (W := w1) hks hk3 (by simp) (by omega) [] (fun i hi => by cases hi)
                    have HROW := Lib.hid hrow
                    have hkl : ([a, b, cc].take k).length = k := by simp; omega
                    have HKL := Lib.hid hkl
                    have hwcell : W2.cell? ⟨wc, 0, none⟩ = some (.map (some mw)) := KW2.out.c rfl
                    clear hbW hks hrow KK K0 hltx hsb hkl hO
                    go_wp2_with fail
                    go_loopw [58] (fun iv wr => ∃ j : Nat, iv = .int .i64 j ∧ j ≤ k ∧ wr = W2 ∧ ((Cx.rds ⟨op, d, a, b, cc, n⟩).take j).all (fun r => decide (r ∈ s.1)) = true) (fun iv _ => k - (intOf iv).toNat)
                    case atStart => exact ⟨0, rfl, Nat.zero_le _, rfl, rfl⟩
                    case round =>
                      obtain ⟨j, rfl, hj, rfl, hall⟩ := hrel
                      have hj0 : (0 : Int) ≤ (j : Int) := by omega
                      by_cases hjk : j < k
                      · obtain ⟨r, hr⟩ : ∃ r, ([a, b, cc].take k)[j]? = some r := ⟨_, List.getElem?_eq_getElem (by rw [HKL.out]; exact hjk)⟩
                        have c0 : wr.cell? ⟨sb, j, none⟩ = some (.int .i64 r) := by
                          obtain ⟨_, _, he, -, hx⟩ := HROW.out.form
                          injection he with he _ _
                          obtain ⟨b', o', e', -, -, hcl⟩ := hx wr [] (FrS.refl _ _) (fun i hi => by cases hi) j r hr
                          rw [← he] at e'
                          injection e' with e'
                          injection e' with e1 e2
                          subst e1 e2
                          have := hcl 0 _ rfl
                          simpa using this
                        have hjk' : (j : Int) < (k : Int) := by omega
                        have hlk := S12.out.lookup r
                        have hall2 : ((Cx.rds ⟨op, d, a, b, cc, n⟩).take (j + 1)).all (fun r => decide (r ∈ s.1)) = decide (r ∈ s.1) := by
                          rw [List.take_add_one, HRDS.out, hr, ← HRDS.out]; simp [hall]
                        have HBADR : Hid (decide (r ∈ s.1) = false → Cx.chk1 c.regs c.slots c.inputs.length ⟨op, d, a, b, cc, n⟩ s = none) := fun q => by
                          unfold Cx.chk1
                          rw [if_neg (by rw [HPL.out]; simp), if_pos]
                          rw [List.all_eq_false]
                          exact ⟨r, by rw [HRDS.out]; exact List.mem_of_getElem? hr, by rw [q]; simp⟩
                        generalize decide (r ∈ s.1) = B at hlk hall2 HBADR
                        have HALL2 := Lib.hid hall2
                        clear hall hr hall2
                        cases B
                        · go_wp2_with fail
                          go_ret
                          exact HNONE.out _ BW2.out (HBADR.out (by first | rfl | trivial))
                        · go_wp2_with fail
                          go_roundw
                          case rel => exact ⟨j + 1, by go_num, by omega, by first | rfl | trivial, HALL2.out⟩
                          case measure => simp [intOf]; omega
                      · have hjk2 : j = k := by omega
                        subst hjk2
                        have HALL : Hid ((Cx.rds ⟨op, d, a, b, cc, n⟩).all (fun r => decide (r ∈ s.1)) = true) := by
                          show _ = _
                          rw [List.take_of_length_le (by rw [HRDS.out, HKL.out]; exact Nat.le_refl _)] at hall
                          exact hall
                        clear hall
                        have y0 : wr.cell? ⟨xb, 0, none⟩ = some (.int .i64 op) := KX2.out.c rfl
                        have y1 : wr.cell? ⟨xb, 1, none⟩ = some (.int .i64 d) := KX2.out.c rfl
                        have y5 : wr.cell? ⟨xb, 5, none⟩ = some (.int .i64 n) := KX2.out.c rfl
                        have g1 : wr.cell? ⟨cb, 1, none⟩ = some (.int .i64 c.regs) := KC2.out.c rfl
                        have HCHK1 : Hid (Cx.chk1 c.regs c.slots c.inputs.length ⟨op, d, a, b, cc, n⟩ s = if op = 30 then (if n ∈ s.2 then none else some (s.1, n :: s.2)) else if d < 0 ∨ c.regs ≤ d ∨ (op = 21 ∧ s.2 ≠ []) then none else some (d :: s.1, s.2)) := by
                          show _ = _
                          unfold Cx.chk1
                          rw [if_neg (by rw [HPL.out]; simp), if_neg (by rw [HALL.out]; simp)]
                        by_cases h30 : op = 30
                        · subst h30
                          have hlk := S22.out.lookup n
                          have HCK : Hid (decide (n ∈ s.2) = true → Cx.chk1 c.regs c.slots c.inputs.length ⟨30, d, a, b, cc, n⟩ s = none) := fun q => by rw [HCHK1.out, if_pos rfl, if_pos (by simpa using q)]
                          have HCK2 : Hid (decide (n ∈ s.2) = false → Cx.chk1 c.regs c.slots c.inputs.length ⟨30, d, a, b, cc, n⟩ s = some (s.1, n :: s.2)) := fun q => by rw [HCHK1.out, if_pos rfl, if_neg (by simpa using q)]
                          generalize decide (n ∈ s.2) = B at hlk HCK HCK2
                          clear y1 g1 hwcell
                          cases B
                          · obtain ⟨L, hM, hL⟩ := S22.out.ex
                            have HL := Lib.hid hL
                            have HM := Lib.hid hM
                            clear hL
                            go_wp2_with (refine wpList_update_is rfl _ _ _ _ rfl keyJ Tryz.underlying118 HM.out rfl (n : Int) true rfl rfl ?_)
                            intro w4 hm4 hg4
                            have N1 : SetAt w4 ms (n :: s.2) := ⟨_, hm4, SetAt.puts HL.out n⟩
                            have N2 := S12.out.of_block (hg4.block mw S12.out.lt (fun e => by injection e with e; exact absurd e NE.out.2.2.2.2.1))
                            have N3 := FW2.out.grownIn hg4 (by simp)
                            have HN1 := Lib.hid N1
                            have HN2 := Lib.hid N2
                            have HN3 := Lib.hid N3
                            clear hm4 hg4 N1 N2 N3 hM
                            go_wp2_with fail
                            go_roundw
                            case rel => exact ⟨t + 1, (s.1, n :: s.2), by go_num, by omega, STEP.out.1 _ (HCK2.out (by first | rfl | trivial)), HN3.out, HN2.out, HN1.out⟩
                            case measure => simp [intOf]; omega
                          · go_wp2_with fail
                            go_ret
                            exact HNONE.out _ BW2.out (HCK.out (by first | rfl | trivial))
                        · have e30 : (op == 30) = false := by simpa using h30
                          by_cases hd0 : d < 0
                          · have HC1 : Hid (Cx.chk1 c.regs c.slots c.inputs.length ⟨op, d, a, b, cc, n⟩ s = none) := by show _ = _; rw [HCHK1.out, if_neg h30, if_pos (Or.inl hd0)]
                            clear h30
                            go_wp2_with fail
                            go_ret
                            exact HNONE.out _ BW2.out HC1.out
                          · by_cases hdr : c.regs ≤ d
                            · have HC1 : Hid (Cx.chk1 c.regs c.slots c.inputs.length ⟨op, d, a, b, cc, n⟩ s = none) := by show _ = _; rw [HCHK1.out, if_neg h30, if_pos (Or.inr (Or.inl hdr))]
                              clear h30
                              go_wp2_with fail
                              go_ret
                              exact HNONE.out _ BW2.out HC1.out
                            · obtain ⟨NS, hes, hze⟩ := S22.out.lens
                              by_cases h21 : op = 21
                              · subst h21
                                by_cases hsn : s.2 = []
                                · have HC1 : Hid (Cx.chk1 c.regs c.slots c.inputs.length ⟨21, d, a, b, cc, n⟩ s = some (d :: s.1, s.2)) := by show _ = _; rw [HCHK1.out, if_neg h30, if_neg (by rintro (q | q | q); exact hd0 q; exact hdr q; exact q.2 hsn)]
                                  have hsz : NS = 0 := hze.2 hsn
                                  subst hsz
                                  clear hze hsn h30
                                  obtain ⟨L, hM, hL⟩ := S12.out.ex
                                  have HL := Lib.hid hL
                                  have HM := Lib.hid hM
                                  clear hL
                                  go_wp2_with (refine wpList_update_is rfl _ _ _ _ rfl keyJ Tryz.underlying118 HM.out rfl (d : Int) true rfl rfl ?_)
                                  intro w4 hm4 hg4
                                  have N1 : SetAt w4 mw (d :: s.1) := ⟨_, hm4, SetAt.puts HL.out d⟩
                                  have N2 := S22.out.of_block (hg4.block ms S22.out.lt (fun e => by injection e with e; exact absurd e (Ne.symm NE.out.2.2.2.2.1)))
                                  have N3 := FW2.out.grownIn hg4 (by simp)
                                  have HN1 := Lib.hid N1
                                  have HN2 := Lib.hid N2
                                  have HN3 := Lib.hid N3
                                  clear hm4 hg4 N1 N2 N3 hM
                                  go_wp2_with fail
                                  go_roundw
                                  case rel => exact ⟨t + 1, (d :: s.1, s.2), by go_num, by omega, STEP.out.1 _ HC1.out, HN3.out, HN1.out, HN2.out⟩
                                  case measure => simp [intOf]; omega
                                · have HC1 : Hid (Cx.chk1 c.regs c.slots c.inputs.length ⟨21, d, a, b, cc, n⟩ s = none) := by show _ = _; rw [HCHK1.out, if_neg h30, if_pos (Or.inr (Or.inr ⟨rfl, hsn⟩))]
                                  have hsz : (0 : Int) < (NS : Int) := by have : NS ≠ 0 := fun q => hsn (hze.1 q); omega
                                  clear hze hsn h30
                                  go_wp2_with fail
                                  go_ret
                                  exact HNONE.out _ BW2.out HC1.out
                              · have HC1 : Hid (Cx.chk1 c.regs c.slots c.inputs.length ⟨op, d, a, b, cc, n⟩ s = some (d :: s.1, s.2)) := by show _ = _; rw [HCHK1.out, if_neg h30, if_neg (by rintro (q | q | q); exact hd0 q; exact hdr q; exact h21 q.1)]
                                have e21 : (op == 21) = false := by simpa using h21
                                clear hze hes h21 h30
                                obtain ⟨L, hM, hL⟩ := S12.out.ex
                                have HL := Lib.hid hL
                                have HM := Lib.hid hM
                                clear hL
                                go_wp2_with (refine wpList_update_is rfl _ _ _ _ rfl keyJ Tryz.underlying118 HM.out rfl (d : Int) true rfl rfl ?_)
                                intro w4 hm4 hg4
                                have N1 : SetAt w4 mw (d :: s.1) := ⟨_, hm4, SetAt.puts HL.out d⟩
                                have N2 := S22.out.of_block (hg4.block ms S22.out.lt (fun e => by injection e with e; exact absurd e (Ne.symm NE.out.2.2.2.2.1)))
                                have N3 := FW2.out.grownIn hg4 (by simp)
                                have HN1 := Lib.hid N1
                                have HN2 := Lib.hid N2
                                have HN3 := Lib.hid N3
                                clear hm4 hg4 N1 N2 N3 hM
                                go_wp2_with fail
                                go_roundw
                                case rel => exact ⟨t + 1, (d :: s.1, s.2), by go_num, by omega, STEP.out.1 _ HC1.out, HN3.out, HN1.out, HN2.out⟩
                                case measure => simp [intOf]; omega
              · have hte : t = c.ins.length := by omega
                subst hte
                have hchk := HCHK.out
                rw [List.take_length] at hchk
                have HOK := Lib.hid (okS_outs HSS.out hchk)
                have hcall := anyUn_any HKW.out HS1.out c.outs (.slice oa c.outs.length oc) (HO.out.below hbw) h2
                have g3 : wr.cell? ⟨cb, 3, none⟩ = some (.slice oa c.outs.length oc) := HKC.out.c rfl
                generalize (c.outs.any fun r => !decide (r ∈ s.1)) = B at hcall HOK
                clear hchk hbw
                cases B
                · go_wp2_with fail
                  refine hcall.mono ?_
                  rintro e w1 ⟨rfl, rfl⟩
                  go_wp2_with fail
                  go_ret
                  exact ⟨by rw [HOK.out]; rfl, HBW.out⟩
                · go_wp2_with fail
                  refine hcall.mono ?_
                  rintro e w1 ⟨rfl, rfl⟩
                  go_wp2_with fail
                  go_ret
                  exact ⟨by rw [HOK.out]; rfl, HBW.out⟩
end Go.Proofs.YtbdbhdcbdfbnnaaGreatDoor
