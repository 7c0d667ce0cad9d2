/- What the law of D4A needs of its own. -/
import Derived.WalkKit
import Derived.WalkSpells
import Derived.Deep.Onto
import Derived.Deep.AppendLies
import Derived.Deep.Draws
import Derived.OwnWalk
import Derived.Test.YtdmelebgdaiinaaGreatDoorProg
import Derived.Shelf.Abstract
import Derived.Lib.Strings
import Derived.WalkLawsBesides
import Derived.Outline
import Derived.Laws.EntriesVeiled
import Derived.Deep.RegionHeld3
import Derived.Deep.QuietTactic
import Derived.BigQuiet
import Derived.StillTailTactics
import Derived.Laws.OwnMore
import Derived.Lib.SliceRun
import Derived.Lib.Hide
import Derived.LoopN
import Derived.Deep.Cut
import Derived.Lib.Walk
import Derived.Deep.Upon
import Derived.Test.YtdmelebgdaiinaaGreatDoorRows
import Derived.ProofKit
import Derived.OpenShut
import Derived.Lib.SmallJoins
import Derived.Deep.Slices
import Derived.Deep.Matrix
import Derived.ChangeSlices
import Derived.Orders
import Derived.Tactics
import Derived.Laws.IdiomCopy
import Derived.Laws.Cells
import Derived.Below
import Derived.Laws.Entries
import Derived.Laws.Strings
import Derived.Laws.StructEq
import Derived.Laws.RangeString
import Derived.Laws.Runes
import Derived.Laws.Append
import Derived.KernelRfl
import Derived.RangeFuncSeq
import Derived.RangeFuncLeaves
import Derived.RangeFuncRecord
import Derived.RangeFuncCalls
import Derived.OrdersIn
import Derived.TacticsIn
import Derived.Test.YtdmelebgdaiinaaGreatDoorChecked
import Derived.Recover
import Derived.RangeFuncNested
import Derived.RangeFuncBound
import Derived.OwnWalkIn
import Derived.TacticsInMore
import Derived.LoopNIn
import Derived.LoopIn
import Derived.Maps.Own
import Derived.Deep.DeepCutAuto
import Derived.Deep.CutBlock
import Derived.Test.YtdmelebgdaiinaaGreatDoorTie
import Derived.Lib.LaidU8
import Derived.SliceStrings
import Derived.LaidLaws
import Derived.HandedShaped
import Derived.Lay
import Derived.SevenTiedAt
import Derived.Test.YtdmelebgdaiinaaGreatDoorCards
import Derived.ChangeMaps5
import Derived.Test.YtdmelebgdaiinaaGreatDoorJ1
import Derived.Test.YtdmelebgdaiinaaGreatDoorJ2
import Derived.Test.YtdmelebgdaiinaaGreatDoorJ3
import Derived.Test.YtdmelebgdaiinaaGreatDoorJ4
import Derived.Test.YtdmelebgdaiinaaGreatDoorJ5
import Derived.Test.YtdmelebgdaiinaaGreatDoorJ6
import Derived.Test.YtdmelebgdaiinaaGreatDoorJ7
import Derived.Test.YtdmelebgdaiinaaGreatDoorJ8
import Derived.Test.YtdmelebgdaiinaaGreatDoorJ9
import Derived.Test.YtdmelebgdaiinaaGreatDoorJ10
import Derived.Test.YtdmelebgdaiinaaGreatDoorJ11
import Derived.Test.YtdmelebgdaiinaaGreatDoorJ12
import Derived.Test.YtdmelebgdaiinaaGreatDoorJ13
import Derived.Test.YtdmelebgdaiinaaGreatDoorJ14
import Derived.Test.YtdmelebgdaiinaaGreatDoorJ15
import Derived.Test.YtdmelebgdaiinaaGreatDoorJ16
import Derived.Test.YtdmelebgdaiinaaGreatDoorJ17
import Derived.Test.YtdmelebgdaiinaaGreatDoorJ18
import Derived.Test.YtdmelebgdaiinaaGreatDoorJ19
import Derived.Test.YtdmelebgdaiinaaGreatDoorJ20
import Derived.Test.YtdmelebgdaiinaaGreatDoorJ21
import Derived.Test.YtdmelebgdaiinaaGreatDoorJ22
import Derived.Test.YtdmelebgdaiinaaGreatDoorJ23
import Derived.Test.YtdmelebgdaiinaaGreatDoorJ24
import Derived.Test.YtdmelebgdaiinaaGreatDoorJ25
import Derived.Test.YtdmelebgdaiinaaGreatDoorJ26
import Derived.Test.YtdmelebgdaiinaaGreatDoorJ27
import Derived.Test.YtdmelebgdaiinaaGreatDoorJ28
import Derived.Test.YtdmelebgdaiinaaGreatDoorJ29
import Derived.Test.YtdmelebgdaiinaaGreatDoorJ30
import Derived.Test.YtdmelebgdaiinaaGreatDoorJ31
import Derived.Test.YtdmelebgdaiinaaGreatDoorJ32
import Derived.Test.YtdmelebgdaiinaaGreatDoorJ33
import Derived.Test.YtdmelebgdaiinaaGreatDoorJ34
import Derived.Test.YtdmelebgdaiinaaGreatDoorJ35
import Derived.Test.YtdmelebgdaiinaaGreatDoorJ36
import Derived.Test.YtdmelebgdaiinaaGreatDoorJ37
import Derived.Test.YtdmelebgdaiinaaGreatDoorJ38
import Derived.Test.YtdmelebgdaiinaaGreatDoorJ39
import Derived.Test.YtdmelebgdaiinaaGreatDoorJ40
import Derived.Test.YtdmelebgdaiinaaGreatDoorJ41
import Derived.Test.YtdmelebgdaiinaaGreatDoorJ42
import Derived.Test.YtdmelebgdaiinaaGreatDoorJ43
import Derived.Test.YtdmelebgdaiinaaGreatDoorJ44
set_option linter.unusedVariables false
set_option linter.unusedSimpArgs false
namespace Go.Proofs.YtdmelebgdaiinaaGreatDoor
open Go.RowKit
set_option maxRecDepth 100000
theorem beq_self_ints (l:List Int):(l==l)=true:=by simp
theorem stepS_outs (c:Cx.Co) (m:Cx.Ms) (r:List Int):(Cx.stepS c m r).1.length≤c.outs.length:=by
 unfold Cx.stepS
 split
 ·simp
 ·split
  ·simp
  ·dsimp only
   split <;> simp
set_option maxHeartbeats 4000000 in
theorem machineSize_any (c : Cx.Co) (vi vo vn : Value) (rows : List (List Int)) (vr : Value) (w : World) (G : GlM w) (hc : CodeIn w c vi vo vn) (hr : Sg 1 RwP w vr rows) (h64 : ∀ r ∈ rows, ∀ n ∈ r, -9223372036854775808 ≤ n ∧ n ≤ 9223372036854775807) :
    Calls Tryz.prog 5 #[.agg #[vi, .int .i64 c.regs, .int .i64 c.slots, vo, vn], vr] w fun e w' => e = .returned (.bool true) ∧ Below w.heap.size w w' := by
  obtain ⟨ia, ic, rfl, -, -⟩ := hc.i.form
  obtain ⟨oa, oc, rfl, -, -⟩ := hc.o.form
  obtain ⟨na, nc, rfl, -, -⟩ := hc.n.form
  obtain ⟨qa, qc, rfl, hql, hqa⟩ := hr.form RwP.keeps
  have k1 := Blk.new w #[.slice ia c.ins.length ic, .int .i64 c.regs, .int .i64 c.slots, .slice oa c.outs.length oc, .slice na c.inputs.length nc] 25
  have f1 : Below w.heap.size w (w.alloc (.cells #[.slice ia c.ins.length ic, .int .i64 c.regs, .int .i64 c.slots, .slice oa c.outs.length oc, .slice na c.inputs.length nc] 25)) := (Below.refl _ _).alloc (Nat.le_refl _) _
  go_enter Tryz.func5, Tryz.ntmps5
  go_wp2_with fail
  generalize (w.alloc (.cells #[.slice ia c.ins.length ic, .int .i64 c.regs, .int .i64 c.slots, .slice oa c.outs.length oc, .slice na c.inputs.length nc] 25)) = V at k1 f1 ⊢
  obtain ⟨rm, hrm⟩ : ∃ n, n = rows.length := ⟨_, rfl⟩
  have HG := Lib.hid G
  have HB := Lib.hid f1
  have HC := Lib.hid hc
  have HR := Lib.hid hr
  have HQ := Lib.hid hqa
  have K1 := Lib.hid k1
  have hcC : V.cell? ⟨w.heap.size, 0, none⟩ = some (.slice ia c.ins.length ic) := k1.c rfl
  clear hqa hql k1 f1 G hc hr
  refine (smallC_any V c ia oa na ic oc nc).mono ?_
  rintro e V2 ⟨rfl, hb2⟩
  have hR := fun W (hW : Below V.heap.size V W) => smallR_any W rows _ (HR.out.below RwP.keeps (below_next HB.out hW))
  cases hsc : smallC c with
  | false =>
    go_wp2_with fail
    refine (live_any (HG.out.below (below_next HB.out hb2))).mono ?_
    rintro e w7 ⟨rfl, hb7⟩
    have HB7 := Lib.hid (below_next (below_next HB.out hb2) hb7)
    clear hb7 hb2
    go_wp2_with fail
    go_ret
    exact ⟨rfl, HB7.out⟩
  | true =>
    have hR2 := hR V2 hb2
    have HB2 := Lib.hid hb2
    clear hb2 hR
    go_wp2_with fail
    refine hR2.mono ?_
    rintro e V3 ⟨rfl, rfl⟩
    cases hsr : smallR rows with
    | false =>
      go_wp2_with fail
      refine (live_any (HG.out.below (below_next HB.out HB2.out))).mono ?_
      rintro e w7 ⟨rfl, hb7⟩
      have HB7 := Lib.hid (below_next (below_next HB.out HB2.out) hb7)
      clear hb7
      go_wp2_with fail
      go_ret
      exact ⟨rfl, HB7.out⟩
    | true =>
      clear hR2
      obtain ⟨cl1, cl2, cl3, cl4, cl5⟩ := smallC_parts hsc
      obtain ⟨rl1, rl2⟩ := smallR_parts hsr
      have kc := K1.out.below HB2.out
      have KC := Lib.hid kc
      have d0 : V3.cell? ⟨w.heap.size, 0, none⟩ = some (.slice ia c.ins.length ic) := kc.c rfl
      have d1 : V3.cell? ⟨w.heap.size, 1, none⟩ = some (.int .i64 c.regs) := kc.c rfl
      have d2 : V3.cell? ⟨w.heap.size, 2, none⟩ = some (.int .i64 c.slots) := kc.c rfl
      have d3 : V3.cell? ⟨w.heap.size, 3, none⟩ = some (.slice oa c.outs.length oc) := kc.c rfl
      have d4 : V3.cell? ⟨w.heap.size, 4, none⟩ = some (.slice na c.inputs.length nc) := kc.c rfl
      have HBV := Lib.hid (below_next HB.out HB2.out)
      have HC3 := Lib.hid (HC.out.below HBV.out)
      have hown := own_any V3 c _ oa na oc nc HC3.out.i (by omega)
      have HVS : Hid (w.heap.size < V3.heap.size) := kc.lt
      clear kc K1 hcC
      go_wp2_with fail
      refine hown.mono ?_
      rintro e V4 ⟨ja, jc, rfl, hj, hb4⟩
      have hnew := new_any V4 c _ _ _ hj (HC3.out.o.below hb4) (HC3.out.n.below hb4) (by omega) (by omega) (by omega) HC3.out.h64
      have HB4 := Lib.hid (below_next HBV.out hb4)
      have KC4 := Lib.hid (KC.out.below hb4)
      have HS4 := Lib.hid hb4.size
      clear hown hj hb4 d0 d1 d2 d3 d4 KC
      go_wp2_with fail
      refine hnew.mono ?_
      rintro e V5 ⟨hb5, hres⟩
      have HB5 := Lib.hid (below_next HB4.out hb5)
      have kc := KC4.out.below hb5
      have d0 : V5.cell? ⟨w.heap.size, 0, none⟩ = some (.slice ia c.ins.length ic) := kc.c rfl
      have d1 : V5.cell? ⟨w.heap.size, 1, none⟩ = some (.int .i64 c.regs) := kc.c rfl
      have d2 : V5.cell? ⟨w.heap.size, 2, none⟩ = some (.int .i64 c.slots) := kc.c rfl
      have d3 : V5.cell? ⟨w.heap.size, 3, none⟩ = some (.slice oa c.outs.length oc) := kc.c rfl
      have d4 : V5.cell? ⟨w.heap.size, 4, none⟩ = some (.slice na c.inputs.length nc) := kc.c rfl
      have HC5 := Lib.hid (HC.out.below HB5.out)
      have hown := own_any V5 c _ oa na oc nc HC5.out.i (by omega)
      have KC5 := Lib.hid kc
      have HS5 := Lib.hid hb5.size
      have HRES := Lib.hid hres
      clear hnew hb5 kc hres KC4 HC3
      have hres := HRES.out
      cases hok : Cx.okS c with
      | false =>
        rw [hok, if_neg (by decide)] at hres
        subst hres
        go_wp2_with fail
        refine hown.mono ?_
        rintro e V6 ⟨ka, kc, rfl, hk, hb6⟩
        have hnew := new_any V6 c _ _ _ hk (HC5.out.o.below hb6) (HC5.out.n.below hb6) (by omega) (by omega) (by omega) HC5.out.h64
        have HB6 := Lib.hid (below_next HB5.out hb6)
        clear hown hk hb6 d0 d1 d2 d3 d4
        go_wp2_with fail
        refine hnew.mono ?_
        rintro e V7 ⟨hb7, hres⟩
        have HB7 := Lib.hid (below_next HB6.out hb7)
        rw [hok, if_neg (by decide)] at hres
        subst hres
        clear hnew hb7
        go_wp2_with fail
        refine (live_any (HG.out.below HB7.out)).mono ?_
        rintro e w7 ⟨rfl, hb7⟩
        have HB8 := Lib.hid (below_next HB7.out hb7)
        clear hb7
        go_wp2_with fail
        go_ret
        exact ⟨rfl, HB8.out⟩
      | true =>
        rw [hok, if_pos rfl] at hres
        obtain ⟨mb, rb, rfl, hmb, hrb, hml, hrl, hM⟩ := hres
        have HM5 := Lib.hid (hM [] (fun i hi => by cases hi))
        have HMB : Hid (V4.heap.size ≤ mb ∧ V4.heap.size ≤ rb ∧ mb < V5.heap.size ∧ rb < V5.heap.size) := ⟨hmb, hrb, hml, hrl⟩
        clear hM hmb hrb hml hrl HRES
        go_wp2_with fail
        refine hown.mono ?_
        rintro e V6 ⟨ka, kc, rfl, hk, hb6⟩
        have hnew := new_any V6 c _ _ _ hk (HC5.out.o.below hb6) (HC5.out.n.below hb6) (by omega) (by omega) (by omega) HC5.out.h64
        have HB6 := Lib.hid (below_next HB5.out hb6)
        have HH6 := Lib.hid hb6
        clear hown hk hb6 d0 d1 d2 d3 d4
        go_wp2_with fail
        refine hnew.mono ?_
        rintro e V7 ⟨hb7, hres⟩
        have HB7 := Lib.hid (below_next HB6.out hb7)
        have HH7 := Lib.hid (below_next HH6.out hb7)
        rw [hok, if_pos rfl] at hres
        obtain ⟨kb, qb, rfl, hkb, hqb, hkl, hql, hK⟩ := hres
        have h56 := HH6.out.size
        have h57 := HH7.out.size
        have HNE : Hid (w.heap.size < mb ∧ w.heap.size < rb ∧ mb < kb ∧ mb < qb ∧ rb < kb ∧ rb < qb ∧ kb < V7.heap.size ∧ qb < V7.heap.size) := (by have := HMB.out; have := HVS.out; have := HS4.out; omega : w.heap.size < mb ∧ w.heap.size < rb ∧ mb < kb ∧ mb < qb ∧ rb < kb ∧ rb < qb ∧ kb < V7.heap.size ∧ qb < V7.heap.size)
        have HM7 : Hid (MachAt V7 [mb, rb, kb, qb] mb rb c (Cx.beginS c)) := (HM5.out.more (by simp +contextual) (fun i hi => by
          simp only [List.mem_cons, List.not_mem_nil, or_false] at hi ⊢
          rcases hi with rfl | rfl | rfl | rfl
          · exact Or.inl (Or.inl rfl)
          · exact Or.inl (Or.inr rfl)
          · right; omega
          · right; omega)).below HH7.out
        have HK7 : Hid (MachAt V7 [mb, rb, kb, qb] kb qb c (Cx.beginS c)) := (hK [mb, rb] (fun i hi => by
          simp only [List.mem_cons, List.not_mem_nil, or_false] at hi
          have := HMB.out
          rcases hi with rfl | rfl <;> omega)).more (by simp +contextual) (fun i hi => by
          simp only [List.mem_cons, List.not_mem_nil, or_false] at hi ⊢
          rcases hi with rfl | rfl | rfl | rfl <;> simp)
        have KC7 := Lib.hid (KC5.out.below HH7.out)
        rw [← hrm]
        have rl0 : rm ≤ 20 := by omega
        have HRM := Lib.hid hrm
        clear hK hkb hqb hkl hql hnew hrm HB2 HBV HB4 hb7 h56 h57 HMB HS4 HS5 HVS KC5 HC5 HB6 HH6 HH7 HM5
        go_wp2_with fail
        go_loopw [9] (fun iv wr => ∃ t : Nat, iv = .int .i64 t ∧ t ≤ rm ∧ FrS [mb, rb, kb, qb] V7 wr ∧ MachAt wr [mb, rb, kb, qb] mb rb c (Cx.runM c (Cx.beginS c) (rows.take t)) ∧ MachAt wr [mb, rb, kb, qb] kb qb c (Cx.runM c (Cx.beginS c) (rows.take t))) (fun iv _ => rm - (intOf iv).toNat)
        case atStart => exact ⟨0, rfl, Nat.zero_le _, FrS.refl _ _, HM7.out, HK7.out⟩
        case round =>
          obtain ⟨t, rfl, ht, hF, hW, hX⟩ := hrel
          obtain ⟨w1, rfl⟩ : ∃ w1, w1 = wr := ⟨_, rfl⟩
          have hmem : ∀ i ∈ [mb, rb, kb, qb], w.heap.size < i ∧ i < w1.heap.size := fun i hi => by
            simp only [List.mem_cons, List.not_mem_nil, or_false] at hi
            have := HNE.out; have := hF.size
            rcases hi with rfl | rfl | rfl | rfl <;> omega
          have hB : Below w.heap.size w w1 := FrS.below HB7.out hF HB7.out.size (fun i hi => Nat.le_of_lt (hmem i hi).1)
          have hk1 := hF.blk KC7.out (fun hi => Nat.lt_irrefl _ (hmem _ hi).1)
          have HMEM := Lib.hid hmem
          have HB := Lib.hid hB
          have HF := Lib.hid hF
          have HW := Lib.hid hW
          have HX := Lib.hid hX
          have HK1 := Lib.hid hk1
          have ht0 : (0 : Int) ≤ (t : Int) := by omega
          have hMS := MsOk.at hok (rows := rows) (by rw [← HRM.out]; exact rl0) t
          obtain ⟨m, hm⟩ : ∃ m, m = Cx.runM c (Cx.beginS c) (rows.take t) := ⟨_, rfl⟩
          rw [← hm] at HW HX hMS
          have HMS := Lib.hid hMS
          have HMM := Lib.hid hm
          clear hB hF hW hX hm hMS hk1 hmem
          by_cases hlt : t < rm
          · obtain ⟨r, hr⟩ : ∃ r, rows[t]? = some r := ⟨_, List.getElem?_eq_getElem (by have := HRM.out; omega)⟩
            have hrin : r ∈ rows := List.mem_of_getElem? hr
            obtain ⟨rb', ro, rcs, rfl, ⟨ru, rfl, hru⟩, hrc⟩ := HQ.out w (Below.refl _ _) t r hr
            have hc0 : w.cell? ⟨rb', ro + t * 1 + 0, none⟩ = some ru := hrc 0 _ rfl
            rw [Nat.mul_one, Nat.add_zero] at hc0
            have hrs : SlN intC 1 [mb, rb, kb, qb] w ru r := hru.apart (fun i hi => Nat.le_of_lt (HMEM.out i hi).1)
            obtain ⟨ra, rc, rfl, -, -⟩ := hru.form
            have hrbw : rb' < w.heap.size := World.block_lt_of_cell? w _ hc0
            have htm : (t : Int) < (rm : Int) := by omega
            have HRR := Lib.hid hr
            have HRS := Lib.hid hrs
            have HR6 : Hid (r.length ≤ 60) := rl2 r hrin
            have HR64 := Lib.hid (h64 r hrin)
            have c1 : w1.cell? ⟨rb', ro + t, none⟩ = some (.slice ra r.length rc) := (HB.out.cell (p := ⟨rb', ro + t, none⟩) hrbw).trans hc0
            have hstep := step_any HW.out hok HMS.out (by omega) (by omega) (fun i hi => (HMEM.out i hi).2) r _ ((HRS.out.below HB.out).more (fun i hi => Or.inl (by simp only [List.mem_cons, List.not_mem_nil, or_false] at hi ⊢; rcases hi with rfl | rfl <;> simp))) HR64.out (by have := HR6.out; omega)
            have C0 := Lib.hid hc0
            have RBW := Lib.hid hrbw
            clear hru hrc hrs hr hrin hc0 hrbw
            go_wp2_with fail
            refine hstep.mono ?_
            rintro e w2 ⟨ov, rfl, hF2, hW2, hO2⟩
            have hfm : ∀ i ∈ [mb, rb], i ∈ [mb, rb, kb, qb] := fun i hi => by simp only [List.mem_cons, List.not_mem_nil, or_false] at hi ⊢; rcases hi with rfl | rfl <;> simp
            have hX2 : MachAt w2 [mb, rb, kb, qb] kb qb c m := HX.out.fr hF2 hfm (fun q => by simp only [List.mem_cons, List.not_mem_nil, or_false] at q; have := HNE.out; omega) (fun _ q => by simp only [List.mem_cons, List.not_mem_nil, or_false] at q; have := HNE.out; omega)
            have HMEM2 : Hid (∀ i ∈ [mb, rb, kb, qb], i < w2.heap.size) := fun i hi => Nat.lt_of_lt_of_le (HMEM.out i hi).2 hF2.size
            have hB2 : Below w.heap.size w w2 := FrS.below HB.out hF2 HB.out.size (fun i hi => Nat.le_of_lt (HMEM.out i (hfm i hi)).1)
            have hO := hO2 [mb, rb, kb, qb] (fun i hi => (HMEM.out i hi).2)
            obtain ⟨oa1, oc1, rfl, -, -⟩ := hO.form
            have c2 : w2.cell? ⟨rb', ro + t, none⟩ = some (.slice ra r.length rc) := (hB2.cell (p := ⟨rb', ro + t, none⟩) RBW.out).trans C0.out
            have hk2 := hF2.blk HK1.out (fun hi => Nat.lt_irrefl _ (HMEM.out _ (hfm _ hi)).1)
            have HF2 := Lib.hid (HF.out.trans hF2 (fun i hi _ => hfm i hi))
            have HW2 := Lib.hid hW2
            have hstep2 := step_any hX2 hok HMS.out (by omega) (by omega) HMEM2.out r _ ((HRS.out.below hB2).more (fun i hi => Or.inl (by simp only [List.mem_cons, List.not_mem_nil, or_false] at hi ⊢; rcases hi with rfl | rfl <;> simp))) HR64.out (by have := HR6.out; omega)
            have HO2 := Lib.hid hO
            have HK2 := Lib.hid hk2
            have HB2 := Lib.hid hB2
            obtain ⟨o, ho⟩ : ∃ o, o = (Cx.stepS c m r).1 := ⟨_, rfl⟩
            obtain ⟨m2, hm2⟩ : ∃ m2, m2 = (Cx.stepS c m r).2 := ⟨_, rfl⟩
            have HST : Hid (Cx.stepS c m r = (o, m2)) := by rw [ho, hm2]; rfl
            rw [← ho] at HO2 ⊢
            rw [← hm2] at HW2 ⊢
            have HOL : Hid (o.length ≤ 60) := by
              rw [ho]
              exact Nat.le_trans (stepS_outs c m r) cl4
            have HM2 : Hid (m2 = Cx.runM c (Cx.beginS c) (rows.take (t + 1))) := by
              show _ = _
              rw [Cx.runM_take c _ HRR.out, ← HMM.out]; exact hm2
            have HM2S : Hid (m2.sl.length = c.slots.toNat) := by
              show _ = _
              rw [HM2.out, (MsOk.at hok (by rw [← HRM.out]; exact rl0) _).len]
            clear hstep hF2 hW2 hO2 hX2 hB2 hO c1 hk2 ho hm2
            go_wp2_with fail
            refine hstep2.mono ?_
            rintro e w3 ⟨ov, rfl, hF3, hX3, hO3⟩
            rw [HST.out] at hX3 hO3 ⊢
            have hgm : ∀ i ∈ [kb, qb], i ∈ [mb, rb, kb, qb] := fun i hi => by simp only [List.mem_cons, List.not_mem_nil, or_false] at hi ⊢; rcases hi with rfl | rfl <;> simp
            have hW3 : MachAt w3 [mb, rb, kb, qb] mb rb c m2 := HW2.out.fr hF3 hgm (fun q => by simp only [List.mem_cons, List.not_mem_nil, or_false] at q; have := HNE.out; omega) (fun _ q => by simp only [List.mem_cons, List.not_mem_nil, or_false] at q; have := HNE.out; omega)
            have hX3 : MachAt w3 [mb, rb, kb, qb] kb qb c m2 := hX3
            have hk3 := hF3.blk HK2.out (fun hi => Nat.lt_irrefl _ (HMEM.out _ (hgm _ hi)).1)
            have hA : Sl intC 1 w3 (.slice oa1 o.length oc1) o := (HO2.out.fr hF3 hgm).sl
            have hb : Sl intC 1 w3 ov o := (hO3 [] (fun i hi => by cases hi)).sl
            obtain ⟨oa2, oc2, rfl, -, -⟩ := hb.form
            have hI1 := Ints_any o o _ _ w3.drew (show Sl intC 1 w3 _ _ from hA) (show Sl intC 1 w3 _ _ from hb) (by have := HOL.out; omega)
            rw [beq_self_ints] at hI1
            have hslm : m2.sl.length ≤ 1000000 := by rw [HM2S.out]; omega
            have hS1 := fun q => state_any (hW3.drawn q) hslm
            have hSm := fun W (hb : Below w3.heap.size w3 W) => state_any (hW3.below hb) hslm
            have hSk := fun W (hb : Below w3.heap.size w3 W) => state_any (hX3.below hb) hslm
            have KK : ∀ W, Below w3.heap.size w3 W → W.cell? ⟨w.heap.size, 2, none⟩ = some (.int .i64 c.slots) := fun W hb => (hk3.below hb).c rfl
            have BD := (Below.refl w3.heap.size w3).drew
            have HKA := KK _ (Below.refl _ _)
            have HKB := KK _ BD
            have hne1 : ((m2.f : Int) != m2.f) = false := by simp
            have hcs : ((c.slots.toNat : Nat) : Int) = c.slots := by
              have := (Cx.okS_ok hok).size.2.2.1
              omega
            have hne2 : (((m2.sl.length : Nat) : Int) != c.slots) = false := by rw [HM2S.out, hcs]; simp
            have HF3 := Lib.hid (HF2.out.trans hF3 (fun i hi _ => hgm i hi))
            have HW3 := Lib.hid hW3
            have HX3 := Lib.hid hX3
            clear hstep2 hF3 hO3 hA hb hgm hk3 hcs hW3 hX3 c2
            go_wp2_with fail
            go_region_held3 (fun w' => w'.cell? ⟨w.heap.size, 2, none⟩ = some (.int .i64 c.slots))
              (with_reducible first | exact HKA | exact HKB | exact HKC | exact HKD | exact HKE | exact HKF | exact HKG | fail)
              (first
                | (go_at_call 18
                   (with_reducible refine hI2.mono ?_)
                   rintro e w9 ⟨rfl, q9, rfl⟩
                   have HB9 := below_drawn HB8 q9
                   have HKG := KK _ HB9)
                | (go_at_call 21
                   (with_reducible refine hS3.mono ?_)
                   rintro e w8 ⟨sv3, rfl, hsv3, hb8⟩
                   have HB8 := below_next HB7 hb8
                   have HKF := KK _ HB8
                   have hsl3 := (hsv3 [] (fun i hi => by cases hi)).sl
                   obtain ⟨sa3, sc3, rfl, -, -⟩ := hsl3.form
                   have hI2 := Ints_any m2.sl m2.sl _ _ w8 (hsl2.below hb8) hsl3 (by omega)
                   rw [beq_self_ints] at hI2)
                | (go_at_call 21
                   (with_reducible refine hS2.mono ?_)
                   rintro e w7 ⟨sv2, rfl, hsv2, hb7⟩
                   have HB7 := below_next HB6 hb7
                   have HKE := KK _ HB7
                   have hsl2 := (hsv2 [] (fun i hi => by cases hi)).sl
                   obtain ⟨sa2, sc2, rfl, -, -⟩ := hsl2.form
                   have hS3 := hSk _ HB7)
                | (go_at_call 21
                   (with_reducible refine hS1q.mono ?_)
                   rintro e w6 ⟨sv1, rfl, hsv1, hb6⟩
                   have HB6 := below_next HB5 hb6
                   have HKD := KK _ HB6
                   have hsl1 := (hsv1 [] (fun i hi => by cases hi)).sl
                   obtain ⟨sa1, sc1, rfl, -, -⟩ := hsl1.form
                   have hS2 := hSm _ HB6)
                | (go_at_call 18
                   (with_reducible refine hI1.mono ?_)
                   rintro e w5 ⟨rfl, q5, rfl⟩
                   have HB5 := below_drawn (Below.refl w3.heap.size w3) (1 + q5)
                   have HKC := KK _ HB5
                   have hS1q := hS1 (1 + q5))
                | fail)
            have HFE := Lib.hid (HF3.out.next HB9)
            have HWE := Lib.hid (HW3.out.below HB9)
            have HXE := Lib.hid (HX3.out.below HB9)
            clear hI1 hI2 hS1 hS1q hS2 hS3 hSm hSk hsv1 hsv2 hsv3 hsl1 hsl2 hsl3 hb6 hb7 hb8 HB5 HB6 HB7 HB8 HB9 HKA HKB HKC HKD HKE HKF HKG BD KK
            go_wp2_with fail
            go_roundw
            case rel => exact ⟨t + 1, by go_num, by omega, HFE.out, by rw [← HM2.out]; exact HWE.out, by rw [← HM2.out]; exact HXE.out⟩
            case measure => simp [intOf]; omega
          · have hte : t = rm := by omega
            subst hte
            go_wp2_with fail
            refine (live_any (HG.out.below HB.out)).mono ?_
            rintro e w7 ⟨rfl, hb7⟩
            have HB7 := Lib.hid (below_next HB.out hb7)
            clear hb7
            go_wp2_with fail
            go_ret
            exact ⟨rfl, HB7.out⟩
end Go.Proofs.YtdmelebgdaiinaaGreatDoor
namespace Go.Proofs.YtdmelebgdaiinaaGreatDoor
open Go.ChangeShapes Go.WideShapes Go.ChangeAt Go.RowKit Go.Deep
set_option maxRecDepth 100000 in
theorem machineSize_lifted (os:Os) (started:os.Started) (H:Type) (enc:TypeId×Value→H) :
  ReturnsInHanded {} Tryz.checked os 5 .any (fun w args=>(Rows.machineSizeSpec.pre enc Tryz.prog Tryz.f5 Rows.machineSizeRow.domain false w args∧laidMetH Tryz.prog Rows.machineSizeRow.laid w)∧sizedMet enc Tryz.prog Tryz.f5 (OpenSpec.ofChange Rows.machineSizeSpec) false w args)
   (Rows.machineSizeSpec.post enc Tryz.prog Tryz.f5 false true false false):=by
 refine handed_shaped_and (C:=Tryz.checked) (X:=fun w _=>laidMetH Tryz.prog Rows.machineSizeRow.laid w) (fun _ _ _ hh h=>h.of_heap hh) own started (by kernel_rfl) Tryz.func5
  (ChangeSpec.witness_shaped (enc:=enc) (C:=Tryz.checked) (os:=os) (X:=fun w _=>laidMetH Tryz.prog Rows.machineSizeRow.laid w) false (World.laidAll Tryz.prog os Rows.machineSizeRow.laid) #[.agg #[.slice none 0 0,.int .i64 0,.int .i64 0,.slice none 0 0,.slice none 0 0],.slice none 0 0] 8 (World.laidAll_os _ _ _)
   (World.shaped_of_ZipB (by kernel_rfl) (by kernel_rfl)) (by kernel_rfl) (by kernel_rfl) (by kernel_rfl)
   (by rw[MakeChecks.laidMetH_plain _ _ _ (by kernel_rfl)];exact laidMet_laidAll _ (by kernel_rfl) (by kernel_rfl))) ?_
 intro W base args ds gs before hval0 hW hL hsh
 have hW':=hW
 obtain⟨p,q,hA0,hV,rfl,hfz,hnd⟩:=hW
 have hA:DataW.TrodAll enc Tryz.prog W 0 (fun _=>true) true Tryz.f5.params.toList args.toList ds p:=hA0
 have hval:∀ (j:Nat) t v,Tryz.f5.params[j]?=some t→args[j]?=some v→Value.okWide Tryz.prog W .any base t v:=hval0
 rw[Tryz.params5] at hA hval
 obtain⟨v0,vs0,d0,ds0,p0,q0,hargs0,rfl,rfl,h0,r0⟩:=trodAll_cons hA
 obtain⟨v1,vs1,d1,ds1,p1,q1,hargs1,rfl,rfl,h1,r1⟩:=trodAll_cons r0
 obtain⟨rfl,rfl,rfl⟩:=trodAll_nil r1
 obtain rfl:args=#[v0,v1]:=by cases args;simp_all
 obtain⟨rfl,rfl⟩:=trodVars_none hV
 have k0:=h0
 have k1:=h1
 have lt0:∀ x∈p0,x.block<W.heap.size:=by obtain⟨m,hm⟩:=k0;exact DataW.trod_lt m _ _ _ hm
 have lt1:∀ x∈p1,x.block<W.heap.size:=by obtain⟨m,hm⟩:=k1;exact DataW.trod_lt m _ _ _ hm
 obtain⟨l0,vi0,vo0,vn0,rfl,s0⟩:=codeV_in (hval 0 25 v0 rfl rfl) h0
 obtain⟨n1,g1⟩:=h1
 obtain⟨aa1,bb1,cc1,rfl⟩:=okWide_slice Tryz.underlying26 (hval 1 26 v1 rfl rfl)
 obtain⟨l1,s1,hm1,hz1⟩:=rows_inD g1
 clear hA0 hval0
 have G:GlM W:=glm_of (show laidMetH Tryz.prog Rows.machineNilRow.laid W from hL)
 refine (machineSize_any l0 _ _ _ l1 _ W G s0 s1 (fun r hr=>(hz1 r hr).2)).mono fun e W' h=>?_
 obtain⟨he,bel⟩:=h
 subst he
 exact⟨_,rfl,_,_,_,[],_,[],hW',trodAll_mk1 (shut_bool Tryz.underlying4 _),trodAll_cons_mk (Below.trod laidOut (by kernel_rfl) (of_decide_eq_true (by kernel_rfl)) k0 bel lt0) (trodAll_cons_mk (Below.trod laidOut (by kernel_rfl) (of_decide_eq_true (by kernel_rfl)) k1 bel lt1) trodAll_mk0),rfl,bel.frame _,fun h=>by cases h⟩
end Go.Proofs.YtdmelebgdaiinaaGreatDoor
namespace Go.Proofs.YtdmelebgdaiinaaGreatDoor
open Go.ChangeShapes Go.WideShapes
theorem machineSize_and {a b:Bool} (ha:a=true) (hb:b=true):(a&&b)=true:=by rw[ha,hb];rfl
set_option maxRecDepth 100000 in
set_option maxHeartbeats 100000000 in
theorem machineSize_joined:joinedFacts Tryz.prog 5 Tryz.f5 Rows.machineSizeSpec Rows.machineSizeRow=true:=by
 unfold joinedFacts
 repeat' (with_reducible refine machineSize_and ?_ ?_)
 all_goals (as_aux_lemma=>kernel_rfl)
theorem machineSize_wf:Rows.machineSizeRow.wfByText (OpenSpec.ofChange Rows.machineSizeSpec)=true:=by kernel_rfl
theorem machineSize_main:Tryz.pinned.checked.prog.mainIs=some (Rows.machineSizeCard.stood.harness.1,Rows.machineSizeCard.stood.harness.2.toList):=by kernel_rfl
theorem machineSize_named : Tryz.prog.funcNamed "bailment/bailmentlaw18.MachineSize" = some 5 := by kernel_rfl
theorem machineSize_looks:true=Tryz.pinned.checked.prog.looks []:=by kernel_rfl
theorem machineSize_stand:([25,26].all fun u=>!Tryz.prog.wantsStandIn u)=true:=by kernel_rfl
theorem machineSize_goes:false=Rows.machineSizeRow.goesBy Tryz.pinned.checked.prog:=by kernel_rfl
end Go.Proofs.YtdmelebgdaiinaaGreatDoor
