/- The law MachineSteps, whatever its arguments: the walk. -/
import Derived.Deep.DeepCutAuto
import Derived.Deep.CutBlock
import Derived.Test.YtbdbhdcbdfbnnaaGreatDoorJ46
import Derived.Test.YtbdbhdcbdfbnnaaGreatDoorJ47
set_option linter.unusedVariables false
set_option linter.unusedSimpArgs false
namespace Go.Proofs.YtbdbhdcbdfbnnaaGreatDoor
open Go.RowKit
set_option maxRecDepth 100000
theorem beq_self_intsX (l:List Int):(l==l)=true:=by simp
theorem stepS_outsX (c:Cx.Co) (m:Cx.Ms) (r:List Int):(Cx.stepS c m r).1.length≤c.outs.length:=by
 unfold Cx.stepS
 split
 ·simp
 ·split
  ·simp
  ·dsimp only
   split <;> simp
theorem rstep_eq (c:Cx.Co) (m:Cx.Ms) (inp:List Int) (hf:m.f=0) (hst:0≤m.steps):Cx.rstepS c m.sl (m.steps==0) inp=((Cx.stepS c m inp).1,(Cx.stepS c m inp).2.sl,((Cx.stepS c m inp).2.steps==0),(Cx.stepS c m inp).2.f):=by
 have hs:Cx.stepS c m inp=if Cx.frameS c.inputs inp=false then ([],{ m with f:=17 }) else
   let q:=Cx.runS inp m.sl (m.steps==0) ⟨List.replicate c.regs.toNat 0,m.sl,0⟩ c.ins
   if q.f≠0 then ([],{ m with f:=q.f }) else (c.outs.map fun r=>q.r.getD r.toNat 0,⟨q.nx,m.steps+1,0⟩):=by
  unfold Cx.stepS
  rw[if_neg (by rw[hf];simp)]
 rw[hs]
 unfold Cx.rstepS
 by_cases hb:Cx.frameS c.inputs inp=false
 ·rw[if_pos hb,if_pos hb]
 ·rw[if_neg hb,if_neg hb]
  dsimp only
  split
  ·rfl
  ·have e:((m.steps+1==0):Bool)=false:=by rw[beq_eq_false_iff_ne];omega
   simp only[e]
theorem MachAt.less {w:World} {M M':List Nat} {mb rb:Nat} {c:Cx.Co} {m:Cx.Ms} (h:MachAt w M mb rb c m) (h1:mb∈M') (h3:rb∈M') (h2:∀ i∈M',i∈M∨w.heap.size≤i):MachAt w M' mb rb c m:=by
 obtain⟨vi,vo,vn,vr,vs,r,k1,k2,k3,k4,k5,k6,k7⟩:=h.ex
 exact⟨⟨vi,vo,vn,vr,vs,r,k1,k2.more h2,k3.more h2,k4.more h2,k5,k6,k7.more h2⟩,h1,h3,h.ne⟩
set_option maxHeartbeats 4000000 in
theorem machineSteps_any (c : Cx.Co) (vi vo vn : Value) (rows : List (List Int)) (vr : Value) (w : World) (G : GlM w) (hc : CodeIn w c vi vo vn) (hr : Sg 1 RwP w vr rows) (h64 : ∀ r ∈ rows, ∀ n ∈ r, -9223372036854775808 ≤ n ∧ n ≤ 9223372036854775807) :
    Calls Tryz.prog 3 #[.agg #[vi, .int .i64 c.regs, .int .i64 c.slots, vo, vn], vr] w fun e w' => e = .returned (.bool true) ∧ Below w.heap.size w w' := by
  obtain ⟨ia, ic, rfl, -, -⟩ := hc.i.form
  obtain ⟨oa, oc, rfl, -, -⟩ := hc.o.form
  obtain ⟨na, nc, rfl, -, -⟩ := hc.n.form
  obtain ⟨qa, qc, rfl, hql, hqa⟩ := hr.form RwP.keeps
  have k1 := Blk.new w #[.slice ia c.ins.length ic, .int .i64 c.regs, .int .i64 c.slots, .slice oa c.outs.length oc, .slice na c.inputs.length nc] 25
  have f1 : Below w.heap.size w (w.alloc (.cells #[.slice ia c.ins.length ic, .int .i64 c.regs, .int .i64 c.slots, .slice oa c.outs.length oc, .slice na c.inputs.length nc] 25)) := (Below.refl _ _).alloc (Nat.le_refl _) _
  go_enter Tryz.func3, Tryz.ntmps3
  go_wp2_with fail
  generalize (w.alloc (.cells #[.slice ia c.ins.length ic, .int .i64 c.regs, .int .i64 c.slots, .slice oa c.outs.length oc, .slice na c.inputs.length nc] 25)) = V at k1 f1 ⊢
  obtain ⟨rm, hrm⟩ : ∃ n, n = rows.length := ⟨_, rfl⟩
  have HG := Lib.hid G
  have HB := Lib.hid f1
  have HC := Lib.hid hc
  have HR := Lib.hid hr
  have HQ := Lib.hid hqa
  have K1 := Lib.hid k1
  have hcC : V.cell? ⟨w.heap.size, 0, none⟩ = some (.slice ia c.ins.length ic) := k1.c rfl
  clear hqa hql k1 f1 G hc hr
  refine (smallC_any V c ia oa na ic oc nc).mono ?_
  rintro e V2 ⟨rfl, hb2⟩
  have hR := fun W (hW : Below V.heap.size V W) => smallR_any W rows _ (HR.out.below RwP.keeps (below_next HB.out hW))
  cases hsc : smallC c with
  | false =>
    go_wp2_with fail
    refine (live_any (HG.out.below (below_next HB.out hb2))).mono ?_
    rintro e w7 ⟨rfl, hb7⟩
    have HB7 := Lib.hid (below_next (below_next HB.out hb2) hb7)
    clear hb7 hb2
    go_wp2_with fail
    go_ret
    exact ⟨rfl, HB7.out⟩
  | true =>
    have hR2 := hR V2 hb2
    have HB2 := Lib.hid hb2
    clear hb2 hR
    go_wp2_with fail
    refine hR2.mono ?_
    rintro e V3 ⟨rfl, rfl⟩
    cases hsr : smallR rows with
    | false =>
      go_wp2_with fail
      refine (live_any (HG.out.below (below_next HB.out HB2.out))).mono ?_
      rintro e w7 ⟨rfl, hb7⟩
      have HB7 := Lib.hid (below_next (below_next HB.out HB2.out) hb7)
      clear hb7
      go_wp2_with fail
      go_ret
      exact ⟨rfl, HB7.out⟩
    | true =>
      clear hR2
      obtain ⟨cl1, cl2, cl3, cl4, cl5⟩ := smallC_parts hsc
      obtain ⟨rl1, rl2⟩ := smallR_parts hsr
      have kc := K1.out.below HB2.out
      have d0 : V3.cell? ⟨w.heap.size, 0, none⟩ = some (.slice ia c.ins.length ic) := kc.c rfl
      have d1 : V3.cell? ⟨w.heap.size, 1, none⟩ = some (.int .i64 c.regs) := kc.c rfl
      have d2 : V3.cell? ⟨w.heap.size, 2, none⟩ = some (.int .i64 c.slots) := kc.c rfl
      have d3 : V3.cell? ⟨w.heap.size, 3, none⟩ = some (.slice oa c.outs.length oc) := kc.c rfl
      have d4 : V3.cell? ⟨w.heap.size, 4, none⟩ = some (.slice na c.inputs.length nc) := kc.c rfl
      have HBV := Lib.hid (below_next HB.out HB2.out)
      have HC3 := Lib.hid (HC.out.below HBV.out)
      have hown := own_any V3 c _ oa na oc nc HC3.out.i (by omega)
      have KC := Lib.hid kc
      have HVS : Hid (w.heap.size < V3.heap.size) := kc.lt
      clear kc K1 hcC
      go_wp2_with fail
      refine hown.mono ?_
      rintro e V4 ⟨ja, jc, rfl, hj, hb4⟩
      have hnew := new_any V4 c _ _ _ hj (HC3.out.o.below hb4) (HC3.out.n.below hb4) (by omega) (by omega) (by omega) HC3.out.h64
      have HB4 := Lib.hid (below_next HBV.out hb4)
      have KC4 := Lib.hid (KC.out.below hb4)
      have HS4 := Lib.hid hb4.size
      clear hown hj hb4 d0 d1 d2 d3 d4
      go_wp2_with fail
      refine hnew.mono ?_
      rintro e V5 ⟨hb5, hres⟩
      have HB5 := Lib.hid (below_next HB4.out hb5)
      have kc := KC4.out.below hb5
      have d0 : V5.cell? ⟨w.heap.size, 0, none⟩ = some (.slice ia c.ins.length ic) := kc.c rfl
      have d1 : V5.cell? ⟨w.heap.size, 1, none⟩ = some (.int .i64 c.regs) := kc.c rfl
      have d2 : V5.cell? ⟨w.heap.size, 2, none⟩ = some (.int .i64 c.slots) := kc.c rfl
      have d3 : V5.cell? ⟨w.heap.size, 3, none⟩ = some (.slice oa c.outs.length oc) := kc.c rfl
      have d4 : V5.cell? ⟨w.heap.size, 4, none⟩ = some (.slice na c.inputs.length nc) := kc.c rfl
      have HC5 := Lib.hid (HC.out.below HB5.out)
      have KC5 := Lib.hid kc
      have hchk := rcheck_any V5 c _ _ _ HC5.out.i HC5.out.o HC5.out.n (by omega) (by omega) (by omega) HC5.out.h64
      unfold CheckPost at hchk
      clear hnew kc hb5
      cases hok : Cx.okS c with
      | false =>
        rw [hok, if_neg (by decide)] at hres
        subst hres
        rw [hok, if_neg (by decide)] at hchk
        go_wp2_with fail
        refine hchk.mono ?_
        rintro e V6 ⟨rfl, hb6⟩
        have HB6 := Lib.hid (below_next HB5.out hb6)
        clear hchk hb6 d0 d1 d2 d3 d4
        go_wp2_with fail
        refine (live_any (HG.out.below HB6.out)).mono ?_
        rintro e w7 ⟨rfl, hb7⟩
        have HB7 := Lib.hid (below_next HB6.out hb7)
        clear hb7
        go_wp2_with fail
        go_ret
        exact ⟨rfl, HB7.out⟩
      | true =>
        rw [hok, if_pos rfl] at hres
        obtain ⟨mb, rb, rfl, hmb, hrb, hml, hrl, hM⟩ := hres
        have HM5 := Lib.hid (hM [] (fun i hi => by cases hi))
        have HMB : Hid (V4.heap.size ≤ mb ∧ V4.heap.size ≤ rb ∧ mb < V5.heap.size ∧ rb < V5.heap.size) := ⟨hmb, hrb, hml, hrl⟩
        rw [hok, if_pos rfl] at hchk
        clear hM hmb hrb hml hrl
        go_wp2_with fail
        refine hchk.mono ?_
        rintro e V6 ⟨rfl, hb6⟩
        have HB6 := Lib.hid (below_next HB5.out hb6)
        have kc6 := KC5.out.below hb6
        have HM6 := Lib.hid (HM5.out.below hb6)
        have HZ6 := Lib.hid hb6.size
        clear hchk hb6 d0 d1 d2 d3 d4
        have d0 : V6.cell? ⟨w.heap.size, 0, none⟩ = some (.slice ia c.ins.length ic) := kc6.c rfl
        have d1 : V6.cell? ⟨w.heap.size, 1, none⟩ = some (.int .i64 c.regs) := kc6.c rfl
        have d2 : V6.cell? ⟨w.heap.size, 2, none⟩ = some (.int .i64 c.slots) := kc6.c rfl
        have d3 : V6.cell? ⟨w.heap.size, 3, none⟩ = some (.slice oa c.outs.length oc) := kc6.c rfl
        have d4 : V6.cell? ⟨w.heap.size, 4, none⟩ = some (.slice na c.inputs.length nc) := kc6.c rfl
        have KC6 := Lib.hid kc6
        have hbeg := Begin_any V6 c ia oa na ic oc nc (by have := (Cx.okS_ok hok).size; omega)
        clear kc6
        go_wp2_with fail
        refine hbeg.mono ?_
        rintro e V7 ⟨vs, rfl, hb7, hvs⟩
        have HB7 := Lib.hid (below_next HB6.out hb7)
        have kc7 := KC6.out.below hb7
        have HM7 := Lib.hid (HM6.out.below hb7)
        have HZ7 := Lib.hid hb7.size
        have h0 := (hvs [] (fun i hi => by cases hi)).form
        obtain ⟨va, vc, rfl, -⟩ := h0
        have HVS7 := Lib.hid hvs
        have KC7 := Lib.hid kc7
        clear hbeg hb7 kc7 d0 d1 d2 d3 d4 hvs
        rw [List.length_replicate] at HVS7 ⊢
        go_wp2_with fail
        have k8 := Blk.new V7 #[.slice va c.slots.toNat vc, .bool true] 40
        have f8 : Below V7.heap.size V7 (V7.alloc (.cells #[.slice va c.slots.toNat vc, .bool true] 40)) := (Below.refl _ _).alloc (Nat.le_refl _) _
        generalize (V7.alloc (.cells #[.slice va c.slots.toNat vc, .bool true] 40)) = V at k8 f8 ⊢
        obtain ⟨sb, hsb⟩ : ∃ sb, sb = V7.heap.size := ⟨_, rfl⟩
        rw [← hsb] at k8 ⊢
        have HNE : Hid (w.heap.size < mb ∧ w.heap.size < rb ∧ mb < sb ∧ rb < sb ∧ sb < V.heap.size) := (by
          have h1 := HMB.out; have h2 := HVS.out; have h3 := HS4.out; have h4 := HZ6.out; have h5 := HZ7.out; have h6 := k8.lt
          exact ⟨by omega, by omega, by omega, by omega, h6⟩ : w.heap.size < mb ∧ w.heap.size < rb ∧ mb < sb ∧ rb < sb ∧ sb < V.heap.size)
        have hsub : ∀ i ∈ [mb, rb, sb], i ∈ [mb, rb] ∨ V7.heap.size ≤ i := fun i hi => by
          simp only [List.mem_cons, List.not_mem_nil, or_false] at hi ⊢
          rcases hi with rfl | rfl | rfl
          · exact Or.inl (Or.inl rfl)
          · exact Or.inl (Or.inr rfl)
          · right; omega
        have HMV : Hid (MachAt V [mb, rb, sb] mb rb c (Cx.beginS c)) := (HM7.out.more (by simp +contextual) hsub).below f8
        have HSV : Hid (SlN intC 1 [mb, rb, sb] V (.slice va c.slots.toNat vc) (Cx.beginS c).sl) := ((HVS7.out [mb, rb] (fun i hi => by
          simp only [List.mem_cons, List.not_mem_nil, or_false] at hi
          have h1 := HMB.out; have h2 := HZ6.out
          rcases hi with rfl | rfl <;> omega)).more hsub).below f8
        have HKS := Lib.hid k8
        have HBV := Lib.hid (below_next HB7.out f8)
        have HKC := Lib.hid (KC7.out.below f8)
        rw [← hrm]
        have rl0 : rm ≤ 20 := by omega
        have HRM := Lib.hid hrm
        clear hrm HB2 HB4 HB6 HB7 HMB HS4 HVS KC KC4 KC5 KC6 KC7 HC5 HM5 HM6 HM7 HZ6 HZ7 HVS7 k8 f8 hsb hsub HC3
        go_loopw [8, 9, 10] (fun fv sv iv wr => ∃ t : Nat, fv = .int .i64 (Cx.runM c (Cx.beginS c) (rows.take t)).f ∧ sv = .int .i64 (Cx.runM c (Cx.beginS c) (rows.take t)).steps ∧ iv = .int .i64 t ∧ t ≤ rm ∧ FrS [mb, rb, sb] V wr ∧ MachAt wr [mb, rb, sb] mb rb c (Cx.runM c (Cx.beginS c) (rows.take t)) ∧ ∃ vs, Blk wr sb #[vs, .bool ((Cx.runM c (Cx.beginS c) (rows.take t)).steps == 0)] 40 ∧ SlN intC 1 [mb, rb, sb] wr vs (Cx.runM c (Cx.beginS c) (rows.take t)).sl) (fun _ _ iv _ => rm - (intOf iv).toNat)
        case atStart => exact ⟨0, rfl, rfl, rfl, Nat.zero_le _, FrS.refl _ _, HMV.out, _, HKS.out, HSV.out⟩
        case round =>
          obtain ⟨t, rfl, rfl, rfl, ht, hF, hW, vs, hks, hvs⟩ := hrel
          obtain ⟨w1, rfl⟩ : ∃ w1, w1 = wr := ⟨_, rfl⟩
          have hmem : ∀ i ∈ [mb, rb, sb], w.heap.size < i ∧ i < w1.heap.size := fun i hi => by
            simp only [List.mem_cons, List.not_mem_nil, or_false] at hi
            have := HNE.out; have := hF.size
            rcases hi with rfl | rfl | rfl <;> omega
          have hB : Below w.heap.size w w1 := FrS.below HBV.out hF HBV.out.size (fun i hi => Nat.le_of_lt (hmem i hi).1)
          have hk1 := hF.blk HKC.out (fun hi => Nat.lt_irrefl _ (hmem _ hi).1)
          have HMEM := Lib.hid hmem
          have HB := Lib.hid hB
          have HF := Lib.hid hF
          have HW := Lib.hid hW
          have HK1 := Lib.hid hk1
          have HKS1 := Lib.hid hks
          have HVS1 := Lib.hid hvs
          have ht0 : (0 : Int) ≤ (t : Int) := by omega
          have hMS := MsOk.at hok (rows := rows) (by rw [← HRM.out]; exact rl0) t
          obtain ⟨m, hm⟩ : ∃ m, m = Cx.runM c (Cx.beginS c) (rows.take t) := ⟨_, rfl⟩
          rw [← hm] at HW HKS1 HVS1 hMS ⊢
          have HMS := Lib.hid hMS
          have HMM := Lib.hid hm
          clear hB hF hW hm hMS hk1 hmem hks hvs
          by_cases hlt : t < rm
          · obtain ⟨r, hr⟩ : ∃ r, rows[t]? = some r := ⟨_, List.getElem?_eq_getElem (by have := HRM.out; omega)⟩
            have hrin : r ∈ rows := List.mem_of_getElem? hr
            obtain ⟨rb', ro, rcs, rfl, ⟨ru, rfl, hru⟩, hrc⟩ := HQ.out w (Below.refl _ _) t r hr
            have hc0 : w.cell? ⟨rb', ro + t * 1 + 0, none⟩ = some ru := hrc 0 _ rfl
            rw [Nat.mul_one, Nat.add_zero] at hc0
            have hrs : SlN intC 1 [mb, rb, sb] w ru r := hru.apart (fun i hi => Nat.le_of_lt (HMEM.out i hi).1)
            obtain ⟨ra, rc, rfl, -, -⟩ := hru.form
            have hrbw : rb' < w.heap.size := World.block_lt_of_cell? w _ hc0
            have htm : (t : Int) < (rm : Int) := by omega
            have HRR := Lib.hid hr
            have HRS := Lib.hid hrs
            have HR6 : Hid (r.length ≤ 60) := rl2 r hrin
            have HR64 := Lib.hid (h64 r hrin)
            have C0 := Lib.hid hc0
            have RBW := Lib.hid hrbw
            have hsl : m.sl.length ≤ 300 := by rw [HMS.out.len]; omega
            obtain ⟨va1, vc1, rfl, -, -⟩ := HVS1.out.form
            have hcp := copy_any HW.out (by omega) (Cx.okS_ok hok).size.1 (by omega) (fun i hi => (HMEM.out i hi).2)
            clear hru hrc hrs hr hrin hc0 hrbw
            go_wp2_with fail
            refine hcp.mono ?_
            rintro e w2 ⟨ob, pb, rfl, hob, hpb, hol, hpl, hb2, hO2, hW2⟩
            have s0 : w2.cell? ⟨sb, 0, none⟩ = some (.slice va1 m.sl.length vc1) := (HKS1.out.below hb2).c rfl
            have hb02 := below_next HB.out hb2
            have c2 : w2.cell? ⟨rb', ro + t, none⟩ = some (.slice ra r.length rc) := (hb02.cell (p := ⟨rb', ro + t, none⟩) RBW.out).trans C0.out
            have HNO : Hid (mb < ob ∧ rb < ob ∧ sb < ob ∧ mb < pb ∧ rb < pb ∧ sb < pb ∧ ob < w2.heap.size ∧ pb < w2.heap.size) := (by
              have h1 := HMEM.out mb (by simp); have h2 := HMEM.out rb (by simp); have h3 := HMEM.out sb (by simp)
              exact ⟨by omega, by omega, by omega, by omega, by omega, by omega, hol, hpl⟩ : mb < ob ∧ rb < ob ∧ sb < ob ∧ mb < pb ∧ rb < pb ∧ sb < pb ∧ ob < w2.heap.size ∧ pb < w2.heap.size)
            have hM2 : ∀ i ∈ [ob, pb, mb, rb, sb], i < w2.heap.size := fun i hi => by
              have h1 := HNO.out; have h2 := HNE.out
              simp only [List.mem_cons, List.not_mem_nil, or_false] at hi
              rcases hi with rfl | rfl | rfl | rfl | rfl <;> omega
            have hstep := step_any hW2 hok HMS.out (by omega) (by omega) hM2 r _ ((HRS.out.below hb02).more (fun i hi => Or.inl (by simp only [List.mem_cons, List.not_mem_nil, or_false] at hi ⊢; rcases hi with rfl | rfl <;> simp))) HR64.out (by have := HR6.out; omega)
            have HM2 := Lib.hid hM2
            have HO2 := Lib.hid hO2
            have HB2 := Lib.hid hb02
            have HF2 := Lib.hid (HF.out.next hb2)
            have HKS2 := Lib.hid (HKS1.out.below hb2)
            have HVS2 := Lib.hid (HVS1.out.below hb2)
            have HK2 := Lib.hid (HK1.out.below hb2)
            clear hcp hob hpb hol hpl hb2 hO2 hW2 hb02 hM2
            go_wp2_with fail
            refine hstep.mono ?_
            rintro e w3 ⟨ov, rfl, hF3, hW3, hO3⟩
            have hOO := hO3 [] (fun i hi => by cases hi)
            obtain ⟨oa1, oc1, rfl, -, -⟩ := hOO.form
            have hsubs : ∀ i ∈ [mb, rb], i ∈ [mb, rb, sb] := fun i hi => by simp only [List.mem_cons, List.not_mem_nil, or_false] at hi ⊢; rcases hi with rfl | rfl <;> simp
            have hsub5 : ∀ i ∈ [mb, rb], i ∈ [ob, pb, mb, rb, sb] := fun i hi => by simp only [List.mem_cons, List.not_mem_nil, or_false] at hi ⊢; rcases hi with rfl | rfl <;> simp
            have hO3m : MachAt w3 [ob, pb, mb, rb, sb] ob pb c m := HO2.out.fr hF3 hsub5 (fun q => by simp only [List.mem_cons, List.not_mem_nil, or_false] at q; have := HNO.out; omega) (fun _ q => by simp only [List.mem_cons, List.not_mem_nil, or_false] at q; have := HNO.out; omega)
            have hks3 := hF3.blk HKS2.out (fun q => by simp only [List.mem_cons, List.not_mem_nil, or_false] at q; have := HNE.out; omega)
            have hvs3 := HVS2.out.fr hF3 hsubs
            have hk3 := hF3.blk HK2.out (fun q => by simp only [List.mem_cons, List.not_mem_nil, or_false] at q; have := HNE.out; omega)
            have hb3 : Below w.heap.size w w3 := FrS.below HB2.out hF3 HB2.out.size (fun i hi => by simp only [List.mem_cons, List.not_mem_nil, or_false] at hi; have := HNE.out; rcases hi with rfl | rfl <;> omega)
            have HF3 := Lib.hid (HF2.out.trans hF3 (fun i hi _ => hsubs i hi))
            have hcs := Cx.step_cases c m r
            have HREQ := Lib.hid (fun q => rstep_eq c m r q HMS.out.steps.1)
            have hstt := HMS.out.steps
            have HOUTS : Hid ((Cx.stepS c m r).1.length ≤ 60) := Nat.le_trans (stepS_outsX c m r) cl4
            have HNXT := Lib.hid (Cx.runM_take c (Cx.beginS c) HRR.out)
            rw [← HMM.out] at HNXT
            have HOK2 : Hid (MsOk c (Cx.stepS c m r).2 1000) := by rw [← HNXT.out]; exact MsOk.at hok (by rw [← HRM.out]; exact rl0) _
            generalize Cx.stepS c m r = q at *
            obtain ⟨o, m2⟩ := q
            simp only at *
            have HW3 := Lib.hid hW3
            have HO3 := Lib.hid hO3m
            have HOO := Lib.hid hOO
            have HOX := Lib.hid hO3
            have HKS3 := Lib.hid hks3
            have HVS3 := Lib.hid hvs3
            have HK3 := Lib.hid hk3
            have HB3 := Lib.hid hb3
            have HZ3 := Lib.hid hF3.size
            clear hstep hF3 hW3 hO3 hOO hO3m hks3 hvs3 hk3 hb3 s0 c2
            have hmemsub : ∀ i ∈ [mb, rb, sb], i ∈ [ob, pb, mb, rb, sb] ∨ w3.heap.size ≤ i := fun i hi => Or.inl (by simp only [List.mem_cons, List.not_mem_nil, or_false] at hi ⊢; rcases hi with rfl | rfl | rfl <;> simp)
            have HSUB := Lib.hid hmemsub
            clear hmemsub
            by_cases hf0 : m.f = 0
            · have HRQ := Lib.hid (HREQ.out hf0)
              have hne0 : ((0 : Int) != 0) = false := rfl
              have HF0 := Lib.hid hf0
              rw [hf0]
              have HCS := Lib.hid hcs
              clear hcs hf0
              have SC : ∀ W, Below w3.heap.size w3 W → W.cell? ⟨w.heap.size, 0, none⟩ = some (.slice ia c.ins.length ic) ∧ W.cell? ⟨w.heap.size, 1, none⟩ = some (.int .i64 c.regs) ∧ W.cell? ⟨w.heap.size, 2, none⟩ = some (.int .i64 c.slots) ∧ W.cell? ⟨w.heap.size, 3, none⟩ = some (.slice oa c.outs.length oc) ∧ W.cell? ⟨w.heap.size, 4, none⟩ = some (.slice na c.inputs.length nc) ∧ W.cell? ⟨sb, 0, none⟩ = some (.slice va1 m.sl.length vc1) ∧ W.cell? ⟨sb, 1, none⟩ = some (.bool (m.steps == 0)) ∧ W.cell? ⟨rb', ro + t, none⟩ = some (.slice ra r.length rc) := fun W hb => by
                have h1 := HK3.out.below hb
                have h2 := HKS3.out.below hb
                exact ⟨h1.c rfl, h1.c rfl, h1.c rfl, h1.c rfl, h1.c rfl, h2.c rfl, h2.c rfl, ((below_next HB3.out hb).cell (p := ⟨rb', ro + t, none⟩) RBW.out).trans C0.out⟩
              have ST : ∀ W, Below w3.heap.size w3 W → Calls Tryz.prog 13 #[.agg #[.slice ia c.ins.length ic, .int .i64 c.regs, .int .i64 c.slots, .slice oa c.outs.length oc, .slice na c.inputs.length nc], .agg #[.slice va1 m.sl.length vc1, .bool (m.steps == 0)], .slice ra r.length rc] W (RStepPost c W (.slice va1 m.sl.length vc1) m.sl (m.steps == 0) r) := fun W hb =>
                rStep_any W c _ _ _ (HC.out.below (below_next HB3.out hb)) hok m.sl _ _ (HVS3.out.below hb).sl HMS.out.len HMS.out.fits r _ ((HRS.out.below (below_next HB3.out hb)).sl) (by have := HR6.out; omega) (by omega)
              unfold RStepPost at ST
              rw [HRQ.out] at ST
              go_wp2_with fail
              generalize (m.steps == 0) = B1 at *
              have B0 := Below.refl w3.heap.size w3
              have BD := B0.drew
              have HS0 := SC _ B0
              have BDA := (B0.alloc (Nat.le_refl _) (.cells #[.slice none 0 0, .bool false] 40)).drew
              have KZ : Hid (Blk (w3.alloc (.cells #[.slice none 0 0, .bool false] 40)).drew w3.heap.size #[.slice none 0 0, .bool false] 40) := Blk.new w3 _ _
              have HSDA := SC _ BDA
              have HVS4 : Hid (SlN intC 1 [w3.heap.size, mb, rb, sb] (w3.alloc (.cells #[.slice none 0 0, .bool false] 40)).drew (.slice va1 m.sl.length vc1) m.sl) := (HVS3.out.more (fun i hi => by
                rcases List.mem_cons.1 hi with rfl | hi
                · exact Or.inr (Nat.le_refl _)
                · exact Or.inl hi)).below BDA
              have HMS5 : Hid (∀ i ∈ [w3.heap.size], i < (w3.alloc (.cells #[.slice none 0 0, .bool false] 40)).drew.heap.size) := fun i hi => by rw [List.mem_singleton.1 hi]; exact KZ.out.lt
              have HMS4a : Hid (∀ i ∈ [mb, rb, sb], i < (w3.alloc (.cells #[.slice none 0 0, .bool false] 40)).drew.heap.size) := fun i hi => Nat.lt_of_lt_of_le (HM2.out i (by simp only [List.mem_cons, List.not_mem_nil, or_false] at hi ⊢; rcases hi with rfl | rfl | rfl <;> simp)) (Nat.le_trans HZ3.out BDA.size)
              have HMS4 : Hid (∀ i ∈ [w3.heap.size, mb, rb, sb], i < (w3.alloc (.cells #[.slice none 0 0, .bool false] 40)).drew.heap.size) := fun i hi => by
                rcases List.mem_cons.1 hi with rfl | hi
                · exact KZ.out.lt
                · exact HMS4a.out i hi
              have HSD := SC _ BD
              have HMS3 : Hid (∀ i ∈ [mb, rb, sb], i < w3.drew.heap.size) := fun i hi => Nat.lt_of_lt_of_le (HM2.out i (by simp only [List.mem_cons, List.not_mem_nil, or_false] at hi ⊢; rcases hi with rfl | rfl | rfl <;> simp)) HZ3.out
              go_upto_region 20 with fail
              go_cut [15, 16, 17] (fun bv pv gv wx => ∃ (a : Option Addr) (cc nb : Nat) (vs' : Value), bv = .slice a o.length cc ∧ pv = .pointer (some ⟨nb, 0, none⟩) ∧ gv = .int .i64 m2.f ∧ Below w3.heap.size w3 wx ∧ w3.heap.size ≤ nb ∧ Blk wx nb #[vs', .bool (m2.steps == 0)] 40 ∧ SlN intC 1 [mb, rb, sb] wx bv o ∧ SlN intC 1 [mb, rb, sb] wx vs' m2.sl)
              case first =>
                go_region_held3 (fun W => W.cell? ⟨w.heap.size, 0, none⟩ = some (.slice ia c.ins.length ic) ∧ W.cell? ⟨w.heap.size, 1, none⟩ = some (.int .i64 c.regs) ∧ W.cell? ⟨w.heap.size, 2, none⟩ = some (.int .i64 c.slots) ∧ W.cell? ⟨w.heap.size, 3, none⟩ = some (.slice oa c.outs.length oc) ∧ W.cell? ⟨w.heap.size, 4, none⟩ = some (.slice na c.inputs.length nc) ∧ W.cell? ⟨sb, 0, none⟩ = some (.slice va1 m.sl.length vc1) ∧ W.cell? ⟨sb, 1, none⟩ = some (.bool B1) ∧ W.cell? ⟨rb', ro + t, none⟩ = some (.slice ra r.length rc))
                  (with_reducible first | exact HS0 | exact HSD | exact HSA | exact HSB | exact HSDA | exact HSC _ _ | exact HSC _ _ _ _ | fail)
                  (first
                    | (go_at_call 13
                       (with_reducible refine (ST _ BD).mono ?_)
                       rintro e wA ⟨u, vs', rfl, hbA, hu0, hvA⟩
                       have hu := hu0 [mb, rb, sb] HMS3.out
                       obtain ⟨xa, xc, rfl, -, -⟩ := hu.form
                       have hvB := hvA [mb, rb, sb] HMS3.out (HVS3.out.below BD)
                       obtain ⟨ya, yc, rfl, -, -⟩ := hvB.form
                       have HBA := below_next BD hbA
                       have HSA := SC _ HBA
                       have HSB := SC _ (HBA.alloc HBA.size (.cells #[.slice none 0 0, .bool false] 40))
                       have HSC := fun y z => SC _ (HBA.alloc HBA.size (.cells #[y, z] 40)))
                    | (go_at_call 13
                       (with_reducible refine (ST _ BDA).mono ?_)
                       rintro e wA ⟨u, vs', rfl, hbA, hu0, hvA⟩
                       have hu5 := hu0 [w3.heap.size, mb, rb, sb] HMS4.out
                       obtain ⟨xa, xc, rfl, -, -⟩ := hu5.form
                       have hvB := hvA [w3.heap.size, mb, rb, sb] HMS4.out HVS4.out
                       obtain ⟨ya, yc, rfl, -, -⟩ := hvB.form
                       have HBA2 := below_next BDA hbA
                       have HSA := SC _ HBA2
                       have kz : Blk wA w3.heap.size #[.slice none 0 0, .bool false] 40 := KZ.out.below hbA
                       have n0 : wA.cell? ⟨w3.heap.size, 0, none⟩ = some (.slice none 0 0) := kz.c rfl
                       have n1 : wA.cell? ⟨w3.heap.size, 1, none⟩ = some (.bool false) := kz.c rfl
                       have z0 : wA.frozen? ⟨w3.heap.size, 0, none⟩ = false := kz.z (v := .slice none 0 0) rfl
                       have z1 : wA.frozen? ⟨w3.heap.size, 1, none⟩ = false := kz.z (v := .bool false) rfl
                       have HSC := fun i j y z => SC _ ((((FrS.of_below HBA2 []).setCell (p := w3.heap.size) (i := i) (Or.inr (Nat.le_refl _)) y).setCell (p := w3.heap.size) (i := j) (Or.inr (Nat.le_refl _)) z).toBelow))
                    | fail)
                all_goals
                  first
                    | (have HCH := HBA.size
                       have hbE : Below w3.heap.size w3 (wA.alloc (.cells #[.slice ya m2.sl.length yc, .bool (m2.steps == 0)] 40)) := HBA.alloc HBA.size _
                       have hkE := Blk.new wA #[.slice ya m2.sl.length yc, .bool (m2.steps == 0)] 40
                       have hbA2 : Below wA.heap.size wA (wA.alloc (.cells #[.slice ya m2.sl.length yc, .bool (m2.steps == 0)] 40)) := (Below.refl _ _).alloc (Nat.le_refl _) _
                       have hE1 := hu.below hbA2
                       have hE2 := hvB.below hbA2
                       have HE0 := Lib.hid HBA.size
                       have HE := Lib.hid (And.intro hbE (And.intro hkE (And.intro hE1 hE2)))
                       clear hbE hkE hbA2 hE1 hE2 HSA HSB HSC HS0 HSD SC ST
                       go_wp2_with fail
                       go_meet
                       exact ⟨_, _, _, _, rfl, rfl, rfl, HE.out.1, HE0.out, HE.out.2.1, HE.out.2.2.1, HE.out.2.2.2⟩)
                    | (have hu4 : ∀ {Z : World}, FrS [w3.heap.size] wA Z → SlN intC 1 [mb, rb, sb] Z (.slice xa o.length xc) o := fun hZ => (hu5.fr hZ (fun i hi => by rw [List.mem_singleton.1 hi]; simp)).more (fun i hi => Or.inl (List.mem_cons_of_mem _ hi))
                       have hv4 : ∀ {Z : World}, FrS [w3.heap.size] wA Z → SlN intC 1 [mb, rb, sb] Z (.slice ya m2.sl.length yc) m2.sl := fun hZ => (hvB.fr hZ (fun i hi => by rw [List.mem_singleton.1 hi]; simp)).more (fun i hi => Or.inl (List.mem_cons_of_mem _ hi))
                       have hFE : FrS [w3.heap.size] wA ((wA.setCell ⟨w3.heap.size, 0, none⟩ (.slice ya m2.sl.length yc)).setCell ⟨w3.heap.size, 1, none⟩ (.bool (m2.steps == 0))) := ((FrS.refl _ _).setCell (Or.inl (by simp)) _).setCell (Or.inl (by simp)) _
                       have hkE : Blk ((wA.setCell ⟨w3.heap.size, 0, none⟩ (.slice ya m2.sl.length yc)).setCell ⟨w3.heap.size, 1, none⟩ (.bool (m2.steps == 0))) w3.heap.size #[.slice ya m2.sl.length yc, .bool (m2.steps == 0)] 40 := (kz.puti 0 _).puti 1 _
                       have hbE : Below w3.heap.size w3 ((wA.setCell ⟨w3.heap.size, 0, none⟩ (.slice ya m2.sl.length yc)).setCell ⟨w3.heap.size, 1, none⟩ (.bool (m2.steps == 0))) := FrS.below HBA2 hFE HBA2.size (fun i hi => by rw [List.mem_singleton.1 hi]; exact Nat.le_refl _)
                       have hE1 := (hu4 hFE)
                       have hE2 := (hv4 hFE)
                       have HE := Lib.hid (And.intro hbE (And.intro hkE (And.intro hE1 hE2)))
                       clear hbE hkE hE1 hE2 hu4 hv4 HSA HSC HS0 HSD SC ST n0 n1 z0 z1 kz
                       go_wp2_with fail
                       go_meet
                       exact ⟨_, _, _, _, rfl, rfl, rfl, HE.out.1, Nat.le_refl _, HE.out.2.1, HE.out.2.2.1, HE.out.2.2.2⟩)
              case rest =>
                obtain ⟨ba, bc, nb, vs2, rfl, rfl, rfl, hbx, hnb, hkn, hbo, hvn⟩ := hcut
                obtain ⟨ya, yc, rfl, -, -⟩ := hvn.form
                have h3 := hkn.c (i := 0) rfl
                have h4 := hkn.c (i := 1) rfl
                have hks := HKS3.out.below hbx
                have s0 : wc.cell? ⟨sb, 0, none⟩ = some (.slice va1 m.sl.length vc1) := hks.c rfl
                have s1 : wc.cell? ⟨sb, 1, none⟩ = some (.bool B1) := hks.c rfl
                have y0 : wc.frozen? ⟨sb, 0, none⟩ = false := hks.z (v := .slice va1 m.sl.length vc1) rfl
                have y1 : wc.frozen? ⟨sb, 1, none⟩ = false := hks.z (v := .bool B1) rfl
                have hFS : FrS [sb] wc ((wc.setCell ⟨sb, 0, none⟩ (.slice ya m2.sl.length yc)).setCell ⟨sb, 1, none⟩ (.bool (m2.steps == 0))) := ((FrS.refl _ _).setCell (Or.inl (by simp)) _).setCell (Or.inl (by simp)) _
                have hkZ : Blk ((wc.setCell ⟨sb, 0, none⟩ (.slice ya m2.sl.length yc)).setCell ⟨sb, 1, none⟩ (.bool (m2.steps == 0))) sb #[.slice ya m2.sl.length yc, .bool (m2.steps == 0)] 40 := (hks.puti 0 _).puti 1 _
                have HBX := Lib.hid hbx
                have HBO := Lib.hid hbo
                have HVN := Lib.hid hvn
                clear hbx hbo hvn hkn hks
                have hcs2 : ((m2.f == 0) = true ∧ m2.f = 0 ∧ wrap64 (m.steps + 1) = m2.steps ∧ IntKind.i64.wrap (m.steps + 1) = m2.steps) ∨ ((m2.f == 0) = false ∧ m2.steps = m.steps) := by
                  rcases HCS.out with ⟨q1, _⟩ | ⟨_, q2, q3, _⟩ | ⟨_, q2, q3⟩
                  · exact absurd HF0.out q1
                  · right; exact ⟨by simpa using q2, q3⟩
                  · left
                    have hw : wrap64 (m.steps + 1) = m2.steps := by rw [q3]; unfold wrap64; omega
                    exact ⟨by simpa using q2, q2, hw, by rw [← hw]; exact IntWalk.i64_left _⟩
                rcases hcs2 with ⟨q1, q2, q3, q4⟩ | ⟨q1, q2⟩
                · have HQ := Lib.hid q2
                  clear q2
                  go_wp2_with fail
                  generalize ((wc.setCell ⟨sb, 0, none⟩ (.slice ya m2.sl.length yc)).setCell ⟨sb, 1, none⟩ (.bool (m2.steps == 0))) = Z at hFS hkZ ⊢
                  have hbZ : Below w.heap.size w Z := FrS.below (below_next HB3.out HBX.out) hFS (below_next HB3.out HBX.out).size (fun i hi => by rw [List.mem_singleton.1 hi]; have := HNE.out; omega)
                  have hWZ : MachAt Z [mb, rb, sb] mb rb c m2 := ((HW3.out.less (by simp) (by simp) HSUB.out).below HBX.out).fr hFS (fun i hi => by rw [List.mem_singleton.1 hi]; simp) (fun q => by have := List.mem_singleton.1 q; have := HNE.out; omega) (fun _ q => by have := List.mem_singleton.1 q; have := HNE.out; omega)
                  have hOZ : MachAt Z [ob, pb, mb, rb, sb] ob pb c m := (HO3.out.below HBX.out).fr hFS (fun i hi => by rw [List.mem_singleton.1 hi]; simp) (fun q => by have := List.mem_singleton.1 q; have := HNO.out; omega) (fun _ q => by have := List.mem_singleton.1 q; have := HNO.out; omega)
                  have hA : Sl intC 1 Z (.slice oa1 o.length oc1) o := (((HOX.out [sb] (fun i hi => by rw [List.mem_singleton.1 hi]; exact HM2.out sb (by simp))).below HBX.out).fr hFS (fun i hi => hi)).sl
                  have hBo : Sl intC 1 Z (.slice ba o.length bc) o := (HBO.out.fr hFS (fun i hi => by rw [List.mem_singleton.1 hi]; simp)).sl
                  have hVn : SlN intC 1 [mb, rb, sb] Z (.slice ya m2.sl.length yc) m2.sl := HVN.out.fr hFS (fun i hi => by rw [List.mem_singleton.1 hi]; simp)
                  have hWas : Sl intC 1 Z (.slice va1 m.sl.length vc1) m.sl := ((HVS3.out.below HBX.out).fr hFS (fun i hi => by rw [List.mem_singleton.1 hi]; simp)).sl
                  have hFZ : FrS [mb, rb, sb] V Z := ((HF3.out.next HBX.out).trans hFS (fun i hi _ => by rw [List.mem_singleton.1 hi]; simp))
                  have hI1 := Ints_any o o _ _ Z.drew (show Sl intC 1 Z _ _ from hA) (show Sl intC 1 Z _ _ from hBo) (by have := HOUTS.out; omega)
                  rw [beq_self_intsX] at hI1
                  have hsl2 : m2.sl.length ≤ 300 := by rw [HOK2.out.len]; omega
                  have hFt := fun q => fault_any (hWZ.drawn q)
                  have hSp := fun q => steps_any (hWZ.drawn q)
                  have hSt := fun q => state_any (hWZ.drawn q) (by omega)
                  have hSo := fun W (hb : Below Z.heap.size Z W) => state_any (hOZ.below hb) (by omega)
                  have KK : ∀ W, Below Z.heap.size Z W → W.cell? ⟨sb, 0, none⟩ = some (.slice ya m2.sl.length yc) := fun W hb => (hkZ.below hb).c rfl
                  have BDz := (Below.refl Z.heap.size Z).drew
                  have HKA := KK _ (Below.refl _ _)
                  have HKB := KK _ BDz
                  have hne1 : ((m2.f : Int) != m2.f) = false := by simp
                  have hne2 : ((m2.steps : Int) != m2.steps) = false := by simp
                  have HWZ := Lib.hid hWZ
                  have HVnZ := Lib.hid hVn
                  have HFZ := Lib.hid hFZ
                  have HkZ := Lib.hid hkZ
                  clear hFS hkZ hbZ hWZ hOZ hA hBo hFZ s0 s1 y0 y1 h3 h4
                  go_region_held3 (fun W => W.cell? ⟨sb, 0, none⟩ = some (.slice ya m2.sl.length yc))
                    (with_reducible first | exact HKA | exact HKB | exact HKC1 | exact HKC2 | exact HKD | exact HKE | exact HKF | fail)
                    (first
                      | (go_at_call 14
                         (with_reducible refine hI3.mono ?_)
                         rintro e w9 ⟨rfl, q9, rfl⟩
                         have HB9 := below_drawn HB8 q9
                         have HKF := KK _ HB9)
                      | (go_at_call 17
                         (with_reducible refine (hSo _ HB7).mono ?_)
                         rintro e w8 ⟨sv3, rfl, hsv3, hb8⟩
                         have HB8 := below_next HB7 hb8
                         have HKE := KK _ HB8
                         have hsl3 := (hsv3 [] (fun i hi => by cases hi)).sl
                         obtain ⟨sa3, sc3, rfl, -, -⟩ := hsl3.form
                         have hI3 := Ints_any m.sl m.sl _ _ w8 hsl3 (hWas.below HB8) (by omega)
                         rw [beq_self_intsX] at hI3)
                      | (go_at_call 14
                         (with_reducible refine hI2.mono ?_)
                         rintro e w7 ⟨rfl, q7, rfl⟩
                         have HB7 := below_drawn HB6 q7
                         have HKD := KK _ HB7)
                      | (go_at_call 17
                         (with_reducible refine (hSt (1 + q5)).mono ?_)
                         rintro e w6 ⟨sv2, rfl, hsv2, hb6⟩
                         have HB6 := below_next HB5z hb6
                         have HKC2 := KK _ HB6
                         have hsl4 := (hsv2 [] (fun i hi => by cases hi)).sl
                         obtain ⟨sa2, sc2, rfl, -, -⟩ := hsl4.form
                         have hI2 := Ints_any m2.sl m2.sl _ _ w6 hsl4 (hVn.below HB6).sl (by omega)
                         rw [beq_self_intsX] at hI2)
                      | (go_at_call 16
                         (with_reducible refine (hSp (1 + q5)).mono ?_)
                         rintro e w6 ⟨rfl, rfl⟩)
                      | (go_at_call 15
                         (with_reducible refine (hFt (1 + q5)).mono ?_)
                         rintro e w6 ⟨rfl, rfl⟩)
                      | (go_at_call 14
                         (with_reducible refine hI1.mono ?_)
                         rintro e w5 ⟨rfl, q5, rfl⟩
                         have HB5z := below_drawn (Below.refl Z.heap.size Z) (1 + q5)
                         have HKC1 := KK _ HB5z)
                      | fail)
                  have HFE := Lib.hid (HFZ.out.next HB9)
                  have HWE := Lib.hid (HWZ.out.below HB9)
                  have HkE := Lib.hid (HkZ.out.below HB9)
                  have HVE := Lib.hid (HVnZ.out.below HB9)
                  clear hI1 hI2 hI3 hFt hSp hSt hSo hsv2 hsv3 hsl3 hsl4 hb6 hb8 HB5z HB6 HB7 HB8 HB9 HKA HKB HKC1 HKC2 HKD HKE HKF BDz KK hVn hWas
                  go_wp2_with fail
                  go_roundw
                  case rel =>
                    refine ⟨t + 1, ?_, ?_, by go_num, by omega, HFE.out, ?_, .slice ya m2.sl.length yc, ?_, ?_⟩
                    · rw [HNXT.out]
                    · rw [HNXT.out]
                    · rw [HNXT.out]; exact HWE.out
                    · rw [HNXT.out]; exact HkE.out
                    · rw [HNXT.out]; exact HVE.out
                  case measure => simp [intOf]; omega
                · rw [← q2]
                  have HQ := Lib.hid q2
                  clear q2
                  go_wp2_with fail
                  generalize ((wc.setCell ⟨sb, 0, none⟩ (.slice ya m2.sl.length yc)).setCell ⟨sb, 1, none⟩ (.bool (m2.steps == 0))) = Z at hFS hkZ ⊢
                  have hbZ : Below w.heap.size w Z := FrS.below (below_next HB3.out HBX.out) hFS (below_next HB3.out HBX.out).size (fun i hi => by rw [List.mem_singleton.1 hi]; have := HNE.out; omega)
                  have hWZ : MachAt Z [mb, rb, sb] mb rb c m2 := ((HW3.out.less (by simp) (by simp) HSUB.out).below HBX.out).fr hFS (fun i hi => by rw [List.mem_singleton.1 hi]; simp) (fun q => by have := List.mem_singleton.1 q; have := HNE.out; omega) (fun _ q => by have := List.mem_singleton.1 q; have := HNE.out; omega)
                  have hOZ : MachAt Z [ob, pb, mb, rb, sb] ob pb c m := (HO3.out.below HBX.out).fr hFS (fun i hi => by rw [List.mem_singleton.1 hi]; simp) (fun q => by have := List.mem_singleton.1 q; have := HNO.out; omega) (fun _ q => by have := List.mem_singleton.1 q; have := HNO.out; omega)
                  have hA : Sl intC 1 Z (.slice oa1 o.length oc1) o := (((HOX.out [sb] (fun i hi => by rw [List.mem_singleton.1 hi]; exact HM2.out sb (by simp))).below HBX.out).fr hFS (fun i hi => hi)).sl
                  have hBo : Sl intC 1 Z (.slice ba o.length bc) o := (HBO.out.fr hFS (fun i hi => by rw [List.mem_singleton.1 hi]; simp)).sl
                  have hVn : SlN intC 1 [mb, rb, sb] Z (.slice ya m2.sl.length yc) m2.sl := HVN.out.fr hFS (fun i hi => by rw [List.mem_singleton.1 hi]; simp)
                  have hWas : Sl intC 1 Z (.slice va1 m.sl.length vc1) m.sl := ((HVS3.out.below HBX.out).fr hFS (fun i hi => by rw [List.mem_singleton.1 hi]; simp)).sl
                  have hFZ : FrS [mb, rb, sb] V Z := ((HF3.out.next HBX.out).trans hFS (fun i hi _ => by rw [List.mem_singleton.1 hi]; simp))
                  have hI1 := Ints_any o o _ _ Z.drew (show Sl intC 1 Z _ _ from hA) (show Sl intC 1 Z _ _ from hBo) (by have := HOUTS.out; omega)
                  rw [beq_self_intsX] at hI1
                  have hsl2 : m2.sl.length ≤ 300 := by rw [HOK2.out.len]; omega
                  have hFt := fun q => fault_any (hWZ.drawn q)
                  have hSp := fun q => steps_any (hWZ.drawn q)
                  have hSt := fun q => state_any (hWZ.drawn q) (by omega)
                  have hSo := fun W (hb : Below Z.heap.size Z W) => state_any (hOZ.below hb) (by omega)
                  have KK : ∀ W, Below Z.heap.size Z W → W.cell? ⟨sb, 0, none⟩ = some (.slice ya m2.sl.length yc) := fun W hb => (hkZ.below hb).c rfl
                  have BDz := (Below.refl Z.heap.size Z).drew
                  have HKA := KK _ (Below.refl _ _)
                  have HKB := KK _ BDz
                  have hne1 : ((m2.f : Int) != m2.f) = false := by simp
                  have hne2 : ((m2.steps : Int) != m2.steps) = false := by simp
                  have HWZ := Lib.hid hWZ
                  have HVnZ := Lib.hid hVn
                  have HFZ := Lib.hid hFZ
                  have HkZ := Lib.hid hkZ
                  clear hFS hkZ hbZ hWZ hOZ hA hBo hFZ s0 s1 y0 y1 h3 h4
                  go_region_held3 (fun W => W.cell? ⟨sb, 0, none⟩ = some (.slice ya m2.sl.length yc))
                    (with_reducible first | exact HKA | exact HKB | exact HKC1 | exact HKC2 | exact HKD | exact HKE | exact HKF | fail)
                    (first
                      | (go_at_call 14
                         (with_reducible refine hI3.mono ?_)
                         rintro e w9 ⟨rfl, q9, rfl⟩
                         have HB9 := below_drawn HB8 q9
                         have HKF := KK _ HB9)
                      | (go_at_call 17
                         (with_reducible refine (hSo _ HB7).mono ?_)
                         rintro e w8 ⟨sv3, rfl, hsv3, hb8⟩
                         have HB8 := below_next HB7 hb8
                         have HKE := KK _ HB8
                         have hsl3 := (hsv3 [] (fun i hi => by cases hi)).sl
                         obtain ⟨sa3, sc3, rfl, -, -⟩ := hsl3.form
                         have hI3 := Ints_any m.sl m.sl _ _ w8 hsl3 (hWas.below HB8) (by omega)
                         rw [beq_self_intsX] at hI3)
                      | (go_at_call 14
                         (with_reducible refine hI2.mono ?_)
                         rintro e w7 ⟨rfl, q7, rfl⟩
                         have HB7 := below_drawn HB6 q7
                         have HKD := KK _ HB7)
                      | (go_at_call 17
                         (with_reducible refine (hSt (1 + q5)).mono ?_)
                         rintro e w6 ⟨sv2, rfl, hsv2, hb6⟩
                         have HB6 := below_next HB5z hb6
                         have HKC2 := KK _ HB6
                         have hsl4 := (hsv2 [] (fun i hi => by cases hi)).sl
                         obtain ⟨sa2, sc2, rfl, -, -⟩ := hsl4.form
                         have hI2 := Ints_any m2.sl m2.sl _ _ w6 hsl4 (hVn.below HB6).sl (by omega)
                         rw [beq_self_intsX] at hI2)
                      | (go_at_call 16
                         (with_reducible refine (hSp (1 + q5)).mono ?_)
                         rintro e w6 ⟨rfl, rfl⟩)
                      | (go_at_call 15
                         (with_reducible refine (hFt (1 + q5)).mono ?_)
                         rintro e w6 ⟨rfl, rfl⟩)
                      | (go_at_call 14
                         (with_reducible refine hI1.mono ?_)
                         rintro e w5 ⟨rfl, q5, rfl⟩
                         have HB5z := below_drawn (Below.refl Z.heap.size Z) (1 + q5)
                         have HKC1 := KK _ HB5z)
                      | fail)
                  have HFE := Lib.hid (HFZ.out.next HB9)
                  have HWE := Lib.hid (HWZ.out.below HB9)
                  have HkE := Lib.hid (HkZ.out.below HB9)
                  have HVE := Lib.hid (HVnZ.out.below HB9)
                  clear hI1 hI2 hI3 hFt hSp hSt hSo hsv2 hsv3 hsl3 hsl4 hb6 hb8 HB5z HB6 HB7 HB8 HB9 HKA HKB HKC1 HKC2 HKD HKE HKF BDz KK hVn hWas
                  go_wp2_with fail
                  go_roundw
                  case rel =>
                    refine ⟨t + 1, ?_, ?_, by go_num, by omega, HFE.out, ?_, .slice ya m2.sl.length yc, ?_, ?_⟩
                    · rw [HNXT.out]
                    · rw [HNXT.out]
                    · rw [HNXT.out]; exact HWE.out
                    · rw [HNXT.out]; exact HkE.out
                    · rw [HNXT.out]; exact HVE.out
                  case measure => simp [intOf]; omega
            · have hx := hcs
              have hm2 : m2 = m ∧ o = [] := by
                rcases hcs with ⟨_, q2, q3⟩ | ⟨q1, _⟩ | ⟨q1, _⟩
                · exact ⟨q2, q3⟩
                · exact absurd q1 hf0
                · exact absurd q1 hf0
              obtain ⟨rfl, rfl⟩ := hm2
              have x1 : (m2.f != 0) = true := by simpa using hf0
              have x2 : (m2.f != m2.f) = false := by simp
              have x3 : ((([] : List Int).length : Nat) : Int) = 0 := rfl
              clear hx hcs hf0
              go_wp2_with fail
              go_roundw
              case rel =>
                refine ⟨t + 1, ?_, ?_, by go_num, by omega, HF3.out, ?_, .slice va1 m2.sl.length vc1, ?_, ?_⟩
                · rw [HNXT.out]
                · rw [HNXT.out]
                · rw [HNXT.out]; exact HW3.out.less (by simp) (by simp) HSUB.out
                · rw [HNXT.out]; exact HKS3.out
                · rw [HNXT.out]; exact HVS3.out
              case measure => simp [intOf]; omega
          · have hte : t = rm := by omega
            subst hte
            go_wp2_with fail
            refine (live_any (HG.out.below HB.out)).mono ?_
            rintro e w7 ⟨rfl, hb7⟩
            have HB7 := Lib.hid (below_next HB.out hb7)
            clear hb7
            go_wp2_with fail
            go_ret
            exact ⟨rfl, HB7.out⟩
end Go.Proofs.YtbdbhdcbdfbnnaaGreatDoor
