/- The reference's splitter: Split: the walk. The reference's atoms: few expressions, the same expressions, an atom's number, expressions over atoms: the walk. May an expression be one over so many atoms, as the reference finds it: the walk. -/
import Derived.Deep.RegionHeld3
import Derived.IntWalk
import Derived.Deep.DeepMust
import Derived.Test.YtjnpkdpljmkpiaaGreatDoorJ27
import Derived.Test.YtjnpkdpljmkpiaaGreatDoorJ28
import Derived.Test.YtjnpkdpljmkpiaaGreatDoorJ33
import Derived.Test.YtjnpkdpljmkpiaaGreatDoorJ34
namespace Go.Proofs.YtjnpkdpljmkpiaaGreatDoor
namespace R
open Go.RowKit Go.Shelf Tx
theorem step_app {P : Program} {w : World} {ops : Array Oper} {o : Oper} {a : Act} {K : Act → World → Prop} {Q : Exit → Act → World → Prop} {E : Prop} {t e size bytes : Nat} (R : RowTy P t e size bytes) (hgd : o.guard = none) (s x : Operand)
    (ho : o.op = .call { callee := .builtin .append, args := #[s, x], argTypes := #[t, t] })
    (base : Nat) (v : Value) (n : Nat) (xs : List Value) (hs : a.eval s = v) (hown : w.ownsRow base e size v n xs)
    (ad : Addr) (c : Nat) (news : List Value) (hx : a.eval x = .slice (some ad) 1 c) (hl : news.length = size) (hnews : ∀ j u, news[j]? = some u → w.cell? (ad.add j) = some u) (h1 : ∀ u ∈ news, u.oneCell' = true)
    (hn : (n + 1) * (bytes + 1) ≤ 140737488355328) (hbase : base ≤ w.heap.size) (H : Nat) (hH : w.heap.size = H)
    (h : ∀ g cap w', w'.ownsRow base e size (.slice (some ⟨g, 0, none⟩) (n + 1) cap) (n + 1) (xs ++ news) → w.grownBy w' v.ownBlock → (v.ownBlock = some g ∨ g = H) → g < w'.heap.size → n + 1 ≤ cap → K (a.put o.dst (.slice (some ⟨g, 0, none⟩) (n + 1) cap)) w') :
    if Region.wanted o (yielded ops a.tmps) = true then Oper.wp P o a w K Q else E := by
  obtain ⟨i, z, hi, hz, hsize, hby, hzs⟩ := R.ex
  have hb : (n + 1) * bytes ≤ 140737488355328 := Nat.le_trans (Nat.mul_le_mul_left _ (by omega)) hn
  have hm : n + 1 ≤ maxLen := by
    have : (n + 1) * 1 ≤ (n + 1) * (bytes + 1) := Nat.mul_le_mul_left _ (by omega)
    unfold maxLen; omega
  refine step_append_lies _ hgd s x t ho base e i z size bytes R.ht hi hz hsize hby hzs R.pos v n xs hs hown ad 1 c news hx (by rw [hl]; omega) hnews h1 (by omega) hm hb hbase H hH ?_
  intro g cap w' ho' hg hat hlt
  refine h g cap w' ho' hg hat hlt ?_
  rcases ho'.2 with ⟨h0, _⟩ | ⟨g', cap', cur, h0, _, _, hc, _⟩
  · cases h0
  · cases h0; exact hc
set_option maxRecDepth 100000 in
set_option maxHeartbeats 8000000 in
theorem Split_any (l : List (List Nd)) (v : Value) (w : World) (hl : l.length ≤ 100) (hM : ∀ e ∈ l, e.length ≤ 1000) (hv : Sg 1 IsL w v l) :
    Calls Tryz.prog 15 #[v] w (SplitPost l w) := by
  obtain ⟨a, c, rfl, hc, hx⟩ := hv.form keepsL
  obtain ⟨n, hn⟩ : ∃ n, n = l.length := ⟨_, rfl⟩
  rw [← hn] at hc hl ⊢
  have HN := Lib.hid hn
  have HX := Lib.hid hx
  clear hn hx hv
  go_enter Tryz.func15, Tryz.ntmps15
  go_wp2_with fail
  have HLP : Hid (∀ (A : Prop), A → A) := fun _ h => h
  go_loopw [5] (fun iv wr => ∃ t : Nat, iv = .int .i64 t ∧ t ≤ n ∧ (l.take t).any (fun y => !mayB y) = false ∧ Below w.heap.size w wr) (fun iv _ => n - (intOf iv).toNat)
  case atStart => exact ⟨0, rfl, Nat.zero_le _, rfl, Below.refl _ _⟩
  case round =>
  obtain ⟨t, rfl, ht, hno, hbw⟩ := hrel
  by_cases hlt : t < n
  · obtain ⟨e, he⟩ : ∃ e, l[t]? = some e := ⟨_, List.getElem?_eq_getElem (by have := HN.out; omega)⟩
    obtain ⟨b, o, cs, rfl, ⟨u, rfl, hu⟩, hcell⟩ := HX.out wr hbw t e he
    have cu := hcell 0 u rfl
    simp only [Nat.mul_one, Nat.add_zero] at cu
    have hel := hM e (List.mem_of_getElem? he)
    have hmc := rMay_any e u wr (by omega) hu
    obtain ⟨ua, uc, rfl, -, -⟩ := hu.form
    obtain ⟨q, hq⟩ : ∃ q, q = mayB e := ⟨_, rfl⟩
    rw [← hq] at hmc
    have HQ := Lib.hid hq
    have HE := Lib.hid he
    have HNO := Lib.hid hno
    have HBW := Lib.hid hbw
    have htn : (t : Int) < (n : Int) := by omega
    have ht0 : (0 : Int) ≤ (t : Int) := by omega
    clear he hcell hu hq hno hbw
    go_wp2_with fail
    refine hmc.mono ?_
    rintro r w1 ⟨rfl, hb1⟩
    have HB1 := Lib.hid (below_next HBW.out hb1)
    clear hmc hb1
    cases q
    · have HR : Hid (splitR l = ([], [], 1)) := by
        show _ = _
        unfold splitR; rw [if_pos]
        rw [List.any_eq_true]
        exact ⟨e, List.mem_of_getElem? HE.out, by rw [← HQ.out]; rfl⟩
      go_wp2_with fail
      go_ret3
      exact ⟨.slice none 0 0, .slice none 0 0, by rw [HR.out]; rfl, by rw [HR.out]; exact RwE.nil_ _ _, by rw [HR.out]; exact RwE.nil_ _ _, HB1.out⟩
    · have HNN : Hid ((l.take (t + 1)).any (fun y => !mayB y) = false) := by show _ = _; rw [any_upTo _ HE.out, HNO.out, ← HQ.out]; rfl
      go_wp2_with fail
      go_roundw
      case rel => exact ⟨t + 1, by go_num, by omega, HNN.out, HB1.out⟩
      case measure => simp [intOf]; omega
  have hte : t = n := by omega
  subst hte
  rw [List.take_of_length_le (by have := HN.out; omega)] at hno
  have HBAD : Hid (l.any (fun y => !mayB y) = false) := hno
  obtain ⟨w1, rfl⟩ : ∃ w1 : World, w1 = wr := ⟨_, rfl⟩
  have HB1 := Lib.hid hbw
  have hb1 := hbw
  clear hno hbw
  obtain ⟨n, hnn⟩ : ∃ n, n = t := ⟨_, rfl⟩
  rw [← hnn] at hc hl HN ht hlt ⊢
  clear hnn
  · have HMAY : Hid (∀ e ∈ l, mayB e = true) := fun e he => by
      have := List.any_eq_false.1 HBAD.out e he
      simpa using this
    have nb1 := (Below.refl w1.heap.size w1).alloc (Nat.le_refl _) (.cells #[.slice none 0 0] Tsp)
    have ks := Blk.new w1 #[.slice none 0 0] Tsp
    obtain ⟨W1, hW1⟩ : ∃ W1, W1 = w1.alloc (.cells #[.slice none 0 0] Tsp) := ⟨_, rfl⟩
    rw [← hW1] at ks nb1
    have HW1 := Lib.hid hW1
    have HKS := Lib.hid ks
    have HNB1 := Lib.hid nb1
    obtain ⟨sp, hsp⟩ : ∃ sp, sp = w1.heap.size := ⟨_, rfl⟩
    have HSP := Lib.hid hsp
    have hspw : w.heap.size ≤ sp := by rw [hsp]; exact hb1.size
    clear hW1 ks nb1 hb1 hsp
    go_wp2_with fail
    rw [← HW1.out, ← HSP.out]
    clear HW1
    go_loopw [7, 8] (fun ov iv wr => ∃ (t : Nat) (av' : Value), iv = .int .i64 t ∧ t ≤ n ∧ RwE sp wr ov ((splitT (l.take t)).1.map (Fo.flat 0)) ∧ Blk wr sp #[av'] Tsp ∧ RwE sp wr av' (splitT (l.take t)).2 ∧ Below sp w1 wr ∧ (∀ g, ov.ownBlock = some g → av'.ownBlock ≠ some g)) (fun _ iv _ => n - (intOf iv).toNat)
    case atStart => exact ⟨0, .slice none 0 0, rfl, Nat.zero_le _, RwE.nil_ _ _, by rw [HSP.out]; exact HKS.out, RwE.nil_ _ _, by rw [HSP.out]; exact HNB1.out, fun g hg => by cases hg⟩
    case round =>
      obtain ⟨t, av', rfl, ht, hP, hS, hA, hB, hd⟩ := hrel
      have hspl := hS.lt
      obtain ⟨pa, pc, hpv, hpc⟩ := hP.len
      rw [List.length_map, splitT_len, List.length_take, Nat.min_eq_left (by have := HN.out; omega)] at hpv hpc
      subst hpv
      have hBw : Below w.heap.size w wr := HB1.out.trans (hB.mono hspw)
      by_cases hlt : t < n
      · obtain ⟨e, he⟩ : ∃ e, l[t]? = some e := ⟨_, List.getElem?_eq_getElem (by have := HN.out; omega)⟩
        have hmem := List.mem_of_getElem? he
        have hmay := HMAY.out e hmem
        have hel := hM e hmem
        obtain ⟨b, o, cs, rfl, ⟨u, rfl, hu⟩, hcell⟩ := HX.out wr hBw t e he
        obtain ⟨b', o', cs', hbb, ⟨u', rfl, hu'⟩, hcell'⟩ := HX.out w (Below.refl _ _) t e he
        cases hbb
        have hbw0 : b < w.heap.size := World.block_lt_of_cell? w _ (hcell' 0 u' rfl)
        have cu := hcell 0 u rfl
        simp only [Nat.mul_one, Nat.add_zero] at cu
        clear hu' hcell'
        have hne := (may_one hmay).2.2.2
        have hsub := Norm_any e u wr.drew (by omega) (Sl.below hu ((Below.refl _ _).drew))
        rw [sub_last hmay] at hsub
        obtain ⟨ua, uc, rfl, -, -⟩ := hu.form
        obtain ⟨el, hel2⟩ : ∃ el, el = e.length := ⟨_, rfl⟩
        rw [← hel2] at cu hel hne hsub
        have HEL := Lib.hid hel2
        have HMY := Lib.hid hmay
        have HNX := Lib.hid (splitT_next he)
        have htn : (t : Int) < (n : Int) := by omega
        have ht0 : (0 : Int) ≤ (t : Int) := by omega
        have HP := Lib.hid hP
        have HS := Lib.hid hS
        have HA := Lib.hid hA
        have HB := Lib.hid hB
        have HD := Lib.hid hd
        have HBW := Lib.hid hBw
        clear he hmem hmay hcell hu hel2 hP hS hA hB hd hBw
        go_wp2_with fail
        have HK1 : wr.drew.cell? ⟨b, o + t, none⟩ = some (.slice ua el uc) := cu
        have hbl : b < wr.heap.size := World.block_lt_of_cell? wr _ cu
        have HCU := Lib.hid cu
        have hwr : IntKind.i64.wrap ((el : Int) - 1) = (el : Int) - 1 := IntWalk.i64_in _ (by omega)
        go_region_held3 (fun w' => w'.cell? ⟨b, o + t, none⟩ = some (.slice ua el uc))
          (first | exact HK4 | exact HKA _ | exact HK3 | exact HK2 | exact HK1 | exact cu)
          (first
            | ((refine step_app rowE (by rfl) _ _ (by rfl) sp (.slice pa t pc) t vs (by rfl) (hrow.alloc _) ⟨w3.heap.size, 0, none⟩ 1 [.slice ya yl yc] (by rfl) rfl (World.news_of_block (heap_alloc_new w3 _)) (by simp [Value.oneCell']) (by omega) (by simp; omega) (w3.heap.size + 1) (by simp) ?_); intro g4 cap w4 hown hgrow hat hlt4 hcap; have HK4 : w4.cell? ⟨b, o + t, none⟩ = some (.slice ua el uc) := HKG w4 hgrow)
            | (go_at_call 47
               go_must (with_reducible refine hcall.mono ?_)
               rintro r w3 ⟨v3, av3, rfl, ho3, hS3, hA3, hG3⟩
               have HK3 : w3.cell? ⟨b, o + t, none⟩ = some (.slice ua el uc) := (World.cell?_of_block (hG3.block b (by have := HSZ2.out; omega) (by omega) (fun e => by have := (HA2.out.low b e).1; omega))).trans HK2
               obtain ⟨hP3, hd3⟩ := hG3.rwE HS2.out HA2.out HP2.out HD.out
               rw [HTR.out] at ho3 hA3
               obtain ⟨F3, hF3⟩ : ∃ F3, F3 = (Ux.cutF (treeL e) (splitT (l.take t)).2).1 := ⟨_, rfl⟩
               rw [← hF3] at ho3
               obtain ⟨ya, yc, rfl, hyc⟩ := ho3.form
               obtain ⟨yl, hyl⟩ : ∃ yl, yl = (F3.flat 0).length := ⟨_, rfl⟩
               rw [← hyl] at ho3 hyc ⊢
               have hlen3 : ((splitT (l.take t)).1.map (Fo.flat 0)).length = t := by
                 rw [List.length_map, splitT_len, List.length_take]; have := HN.out; omega
               obtain ⟨vs, hrow, hvs⟩ := hP3.row
               rw [hlen3] at hrow
               have hn3 : sp ≤ w3.heap.size := by have := hS3.lt; omega
               have HO3 := Lib.hid (ho3.mono (b2 := sp) (by have := HSZ2.out; omega))
               have HS3 := Lib.hid hS3
               have HA3 := Lib.hid hA3
               have HB3 : Hid (Below sp w1 w3) := hG3.below HB2.out (by have := HSZ2.out; omega) (Nat.le_refl _) (fun g hg => (HA2.out.low g hg).1)
               have HVS := Lib.hid hvs
               have HD3 := Lib.hid hd3
               have HF3 := Lib.hid hF3
               have HLEN3 := Lib.hid hlen3
               have HLOW := Lib.hid (fun g hg => hP3.low g hg)
               have HNS : Hid ((Value.slice pa t pc).ownBlock ≠ some sp) := fun e => by
                 rcases hrow.2 with ⟨h1, _⟩ | ⟨g, cap, cur, h1, _, hg, _⟩
                 · rw [h1] at e; cases e
                 · rw [h1] at e; cases e
                   have := hS3; unfold Blk at this; rw [this] at hg; cases hg
               clear hcall ho3 hS3 hA3 hG3 hvs hd3 hF3 hyl hP3 hlen3 HS2 HA2 HP2 HB2 HD
               have HX0 : True := trivial
               have HKA : ∀ A : Obj, (w3.alloc A).cell? ⟨b, o + t, none⟩ = some (.slice ua el uc) := fun A => (World.cell?_of_block (Below.heap_alloc _ _ _ (by show b < _; omega))).trans HK3
               have HKG : ∀ w4, (w3.alloc (.cells #[.slice ya yl yc] 30)).grownBy w4 (Value.slice pa t pc).ownBlock → w4.cell? ⟨b, o + t, none⟩ = some (.slice ua el uc) := fun w4 hg => (World.cell?_of_block (hg.block b (by show b < (w3.heap.push _).size; simp; omega) (fun e => by have := (HLOW.out b e.symm).1; omega))).trans (HKA _))
            | (go_at_call 22
               (with_reducible refine hsub.mono ?_)
               rintro r w2 ⟨ev, rfl, hE, hb2⟩
               have hb2 : Below wr.heap.size wr w2 := ⟨hb2.os, hb2.tape, hb2.output, hb2.size, hb2.block⟩
               have hE : OwnE wr.heap.size w2 ev ((T e (el - 1)).flat 0) := hE
               have HK2 : w2.cell? ⟨b, o + t, none⟩ = some (.slice ua el uc) := (hb2.cell hbl).trans HCU.out
               obtain ⟨ea, ec, hev, hec⟩ := hE.form
               have hTe : T e (el - 1) = treeL e := by rw [HEL.out]; rfl
               rw [hTe] at hE hev hec
               have hEl : ((treeL e).flat 0).length = el := by
                 rw [Fo.flat_len, HEL.out]; exact may_size HMY.out
               rw [hEl] at hev hec
               subst hev
               obtain ⟨E, hEE⟩ : ∃ E, E = (treeL e).flat 0 := ⟨_, rfl⟩
               rw [← hEE] at hE hEl
               have hfew := splitT_few 1000 (l.take t) (fun y hy => by
                 have h1 := List.mem_of_mem_take hy
                 rw [may_size (HMAY.out y h1)]; exact hM y h1)
               have htr : T E (E.length - 1) = treeL e := by rw [hEE]; exact tree_norm HMY.out
               have hll : (l.take t).length ≤ 100 := by rw [List.length_take]; omega
               have hmul : (l.take t).length * 1000 ≤ 100000 := by omega
               have hcin : CutIn E sp sp (el - 1) (splitT (l.take t)).2 w2 (.slice ea el ec) av' :=
                 { may := by rw [hEE]; exact may_norm HMY.out
                   few := by rw [hEl]; omega
                   lt := by rw [hEl]; omega
                   row := hE.mono (Nat.le_of_lt hspl)
                   here := HS.out.below hb2
                   atoms := HA.out.below hb2
                   sp := Nat.le_refl _
                   many := by
                     have h1 : el - 1 = E.length - 1 := by rw [hEl]
                     rw [h1, htr, may_size HMY.out]
                     have := HEL.out
                     have := hfew.1
                     omega
                   lens := fun y hy => by have := hfew.2 y hy; omega }
               have hcall := cut_any E sp sp (.slice ea el ec) (el - 1) (splitT (l.take t)).2 w2 av' hcin
               have HTR : Hid (T E (el - 1) = treeL e) := by
                 show _ = _
                 rw [← htr, hEl, HEL.out]
               have hcast : ((el - 1 : Nat) : Int) = (el : Int) - 1 := by omega
               rw [hcast] at hcall
               have HS2 := Lib.hid (HS.out.below hb2)
               have HA2 := Lib.hid (HA.out.below hb2)
               have HP2 := Lib.hid (HP.out.below hb2)
               have HB2 := Lib.hid (HB.out.trans (hb2.mono (Nat.le_of_lt hspl)))
               have HSZ2 : Hid (wr.heap.size ≤ w2.heap.size) := hb2.size
               clear hsub hE hb2 hTe hEl hEE hfew htr hcin hcast hmul hll HS HA HP HB hec))
        clear hwr
        have hgr : Gr w3 (.slice pa t pc) w4 (.slice (some ⟨g4, 0, none⟩) (t + 1) cap) := gr_append hgrow hat
        have HP4 : Hid (RwE sp w4 (.slice (some ⟨g4, 0, none⟩) (t + 1) cap) ((splitT (l.take (t + 1))).1.map (Fo.flat 0))) := by
          show RwE _ _ _ _
          rw [HNX.out, List.map_append, List.map_cons, List.map_nil, ← HF3.out]
          exact RwE.push HLEN3.out hrow HVS.out HO3.out hown hgrow
        have HS4 : Hid (Blk w4 sp #[av3] Tsp) := hgr.blk HS3.out HNS.out
        have HA4 : Hid (RwE sp w4 av3 (splitT (l.take (t + 1))).2) := by
          show RwE _ _ _ _
          rw [HNX.out]; exact HA3.out.gr hgr hrow HD3.out
        have HB4 : Hid (Below sp w1 w4) := Gr.below HB3.out hgr hn3 (fun g hg => (HLOW.out g hg).1)
        have HD4 : Hid (∀ g, (Value.slice (some ⟨g4, 0, none⟩) (t + 1) cap).ownBlock = some g → av3.ownBlock ≠ some g) := fun g hg e => by
          cases hg
          rcases hat with h | h
          · exact HD3.out g4 h e
          · have := (HA3.out.low g4 e).2; omega
        clear hown hgrow hat hgr hrow hlt4 hcap
        go_wp2_with fail
        go_roundw
        case rel => exact ⟨t + 1, av3, by go_num, by omega, HP4.out, HS4.out, HA4.out, HB4.out, HD4.out⟩
        case measure => simp [intOf]; omega
      · have hte : t = n := by omega
        subst hte
        have hfull : l.take t = l := List.take_of_length_le (by have := HN.out; omega)
        rw [hfull] at hP hA
        obtain ⟨cs, fs⟩ := one_cell hS
        obtain ⟨aa, ac, rfl, hac⟩ := hA.len
        obtain ⟨al, hal⟩ : ∃ al, al = (splitT l).2.length := ⟨_, rfl⟩
        rw [← hal] at cs
        have HP := Lib.hid (hP.mono hspw)
        have HA := Lib.hid (hA.mono hspw)
        have HBW := Lib.hid hBw
        have HAL := Lib.hid hal
        by_cases hmany : 30 < al
        · have HR : Hid (splitR l = ([], [], 7)) := by
            show _ = _
            unfold splitR; rw [HBAD.out]; simp only [Bool.false_eq_true, if_false]; rw [if_pos (by rw [← HAL.out]; exact hmany)]
          have hm2 : decide ((30 : Int) < (al : Int)) = true := decide_eq_true (by omega)
          clear hP hA hBw hal hd hS hB hac
          go_wp2_with fail
          go_ret3
          exact ⟨.slice none 0 0, .slice none 0 0, by rw [HR.out]; rfl, by rw [HR.out]; exact RwE.nil_ _ _, by rw [HR.out]; exact RwE.nil_ _ _, HBW.out⟩
        · have HR : Hid (splitR l = ((splitT l).2, (splitT l).1.map (Fo.flat 0), 0)) := by
            show _ = _
            unfold splitR; rw [HBAD.out]; simp only [Bool.false_eq_true, if_false]; rw [if_neg (by rw [← HAL.out]; exact hmany)]
          have hm2 : decide ((30 : Int) < (al : Int)) = false := decide_eq_false (by omega)
          clear hP hA hBw hal hd hS hB hac
          go_wp2_with fail
          go_ret3
          exact ⟨.slice aa al ac, .slice pa t pc, by rw [HR.out]; rfl, by rw [HR.out, HAL.out]; exact HA.out, by rw [HR.out]; exact HP.out, HBW.out⟩
end R
end Go.Proofs.YtjnpkdpljmkpiaaGreatDoor
namespace Go.Proofs.YtjnpkdpljmkpiaaGreatDoor
open Go.RowKit Go.Shelf Tx
def fewB (l : List (List Nd)) : Bool := decide (l.length ≤ 30) && l.all fun e => decide (e.length ≤ 200)
set_option maxRecDepth 100000 in
set_option maxHeartbeats 1000000 in
theorem Few_any (l : List (List Nd)) (v : Value) (w : World) (hlm : l.length ≤ maxLen) (hM : ∀ e ∈ l, e.length ≤ maxLen) (hv : Sg 1 IsL w v l) :
    Calls Tryz.prog 12 #[v] w fun r w' => r = .returned (.bool (fewB l)) ∧ w' = w := by
  unfold maxLen at hlm hM
  obtain ⟨a, c, rfl, hc, hx⟩ := hv.form keepsL
  obtain ⟨n, hn⟩ : ∃ n, n = l.length := ⟨_, rfl⟩
  rw [← hn] at hc hlm ⊢
  have HN := Lib.hid hn
  have HX := Lib.hid hx
  have HM := Lib.hid hM
  clear hn hx hv hM
  by_cases h30 : n ≤ 30
  · have e1 : decide ((30 : Int) < (n : Int)) = false := decide_eq_false (by omega)
    go_enter Tryz.func12, Tryz.ntmps12
    go_wp2_with fail
    go_loopw [3] (fun iv wr => ∃ t : Nat, iv = .int .i64 t ∧ t ≤ n ∧ (l.take t).all (fun e => decide (e.length ≤ 200)) = true ∧ wr = w) (fun iv _ => n - (intOf iv).toNat)
    case atStart => exact ⟨0, rfl, Nat.zero_le _, rfl, rfl⟩
    case round =>
      obtain ⟨t, rfl, ht, hok, hW⟩ := hrel
      subst hW
      by_cases hlt : t < n
      · obtain ⟨e, he⟩ : ∃ e, l[t]? = some e := ⟨_, List.getElem?_eq_getElem (by have := HN.out; omega)⟩
        obtain ⟨b, o, cs, rfl, ⟨u, rfl, hu⟩, hcell⟩ := HX.out wr (Below.refl _ _) t e he
        have cu := hcell 0 u rfl
        simp only [Nat.mul_one, Nat.add_zero] at cu
        obtain ⟨ua, uc, rfl, -, -⟩ := hu.form
        have hem := HM.out e (List.mem_of_getElem? he)
        obtain ⟨el, hel⟩ : ∃ el, el = e.length := ⟨_, rfl⟩
        rw [← hel] at cu hem
        have HEL := Lib.hid hel
        have HE := Lib.hid he
        have HOK := Lib.hid hok
        have htn : (t : Int) < (n : Int) := by omega
        have ht0 : (0 : Int) ≤ (t : Int) := by omega
        clear hel he hcell hu hok
        by_cases h2 : el ≤ 200
        · have HNN : Hid ((l.take (t + 1)).all (fun e => decide (e.length ≤ 200)) = true) := by
            show _ = _
            rw [take_at HE.out, List.all_append, HOK.out]; simp [← HEL.out, h2]
          have e2 : decide ((200 : Int) < (el : Int)) = false := decide_eq_false (by omega)
          go_wp2_with fail
          go_roundw
          case rel => exact ⟨t + 1, by go_num, by omega, HNN.out, by trivial⟩
          case measure => simp [intOf]; omega
        · have HF : Hid (fewB l = false) := by
            show _ = _
            unfold fewB
            rw [Bool.and_eq_false_iff]; right
            rw [List.all_eq_false]
            exact ⟨e, List.mem_of_getElem? HE.out, by simp [← HEL.out, h2]⟩
          have e2 : decide ((200 : Int) < (el : Int)) = true := decide_eq_true (by omega)
          go_wp2_with fail
          go_ret
          exact ⟨ret_bool HF.out.symm, rfl⟩
      · have hte : t = n := by omega
        subst hte
        have HF : Hid (fewB l = true) := by
          show _ = _
          unfold fewB
          rw [List.take_of_length_le (by have := HN.out; omega)] at hok
          rw [hok, decide_eq_true (by have := HN.out; omega)]; rfl
        clear hok
        go_wp2_with fail
        go_ret
        exact ⟨ret_bool HF.out.symm, rfl⟩
  · have e1 : decide ((30 : Int) < (n : Int)) = true := decide_eq_true (by omega)
    have HF : Hid (fewB l = false) := by
      show _ = _
      unfold fewB; rw [decide_eq_false (by have := HN.out; omega)]; rfl
    go_enter Tryz.func12, Tryz.ntmps12
    go_wp2_with fail
    go_ret
    exact ⟨ret_bool HF.out.symm, rfl⟩
set_option maxRecDepth 100000 in
set_option maxHeartbeats 2000000 in
theorem Exprs_any (A B : List (List Nd)) (u v : Value) (w : World) (hAl : A.length ≤ 1000000) (hBl : B.length ≤ 1000000) (hA : ∀ e ∈ A, e.length ≤ 1000000000) (hB : ∀ e ∈ B, e.length ≤ 1000000000) (hu : Sg 1 IsL w u A) (hv : Sg 1 IsL w v B) :
    Calls Tryz.prog 16 #[u, v] w fun r w' => r = .returned (.bool (decide (A = B))) ∧ ∃ k, w' = w.drewN k := by
  obtain ⟨a, c, rfl, hc, hx⟩ := hu.form keepsL
  obtain ⟨a2, c2, rfl, hc2, hx2⟩ := hv.form keepsL
  obtain ⟨n, hn⟩ : ∃ n, n = A.length := ⟨_, rfl⟩
  obtain ⟨m, hm⟩ : ∃ m, m = B.length := ⟨_, rfl⟩
  have HX := Lib.hid hx
  have HX2 := Lib.hid hx2
  rw [← hn] at hAl hc ⊢
  rw [← hm] at hBl hc2 ⊢
  have HN := Lib.hid hn
  have HM := Lib.hid hm
  have HAA := Lib.hid hA
  have HBB := Lib.hid hB
  clear hu hv hx hx2 hn hm hA hB
  by_cases hl : n = m
  · subst hl
    have e0 : ((n : Int) != (n : Int)) = false := by simp
    go_enter Tryz.func16, Tryz.ntmps16
    go_wp2_with fail
    go_loopw [5] (fun i wr => ∃ t : Nat, i = .int .i64 t ∧ t ≤ n ∧ (∀ j, j < t → A[j]? = B[j]?) ∧ ∃ k, wr = w.drewN k) (fun i _ => n - (intOf i).toNat)
    case atStart => exact ⟨0, rfl, Nat.zero_le _, fun j h => by omega, 0, rfl⟩
    case round =>
      obtain ⟨t, rfl, ht, hok, k, hk⟩ := hrel
      by_cases hlt : t < n
      · obtain ⟨x, hx⟩ : ∃ x, A[t]? = some x := ⟨_, List.getElem?_eq_getElem (by have := HN.out; omega)⟩
        obtain ⟨y, hy⟩ : ∃ y, B[t]? = some y := ⟨_, List.getElem?_eq_getElem (by have := HM.out; omega)⟩
        have hbw : Below w.heap.size w wr := by rw [hk]; exact below_drawn (Below.refl _ _) k
        obtain ⟨b, o, cs, rfl, ⟨p, rfl, hp⟩, hcell⟩ := HX.out _ hbw t x hx
        obtain ⟨b2, o2, cs2, rfl, ⟨q, rfl, hq⟩, hcell2⟩ := HX2.out _ hbw t y hy
        have c0 := hcell 0 p rfl
        have d0 := hcell2 0 q rfl
        simp only [Nat.mul_one, Nat.add_zero] at c0 d0
        have hsame : ∀ nq, Calls Tryz.prog 20 #[p, q] (wr.drewN nq) fun r w' => r = .returned (.bool (decide (x = y))) ∧ ∃ k, w' = (wr.drewN nq).drewN k := fun nq =>
          Same_any x y p q (wr.drewN nq) (HAA.out x (List.mem_of_getElem? hx)) (HBB.out y (List.mem_of_getElem? hy)) (Sl.below hp (below_drawn (Below.refl _ _) nq)) (Sl.below hq (below_drawn (Below.refl _ _) nq))
        obtain ⟨d, hd⟩ : ∃ d, d = decide (x = y) := ⟨_, rfl⟩
        rw [← hd] at hsame
        obtain ⟨pa, pc, rfl, -, -⟩ := hp.form
        obtain ⟨qa, qc, rfl, -, -⟩ := hq.form
        have HXX := Lib.hid hx
        have HYY := Lib.hid hy
        have HD := Lib.hid hd
        have HOK := Lib.hid hok
        have HK := Lib.hid hk
        have htn : (t : Int) < (n : Int) := by omega
        have ht0 : (0 : Int) ≤ (t : Int) := by omega
        clear hx hy hd hok hk hcell hcell2 hbw hp hq
        cases d
        · have HF : Hid (decide (A = B) = false) := by
            show _ = _
            rw [decide_eq_false_iff_not]
            intro h
            have h1 := HXX.out
            rw [h, HYY.out] at h1
            have h2 := HD.out
            rw [Option.some.inj h1] at h2
            simp at h2
          go_wp2_with fail
          go_quiet ((go_at_call 20; exact Calls.quiet_of (hsame _)))
          go_wp2_with fail
          go_ret
          exact ⟨ret_bool HF.out.symm, _, by rw [HK.out, World.drewN_drewN]⟩
        · have HALL : Hid (∀ j, j < t + 1 → A[j]? = B[j]?) := fun j hj => by
            by_cases h : j = t
            · subst h
              rw [HXX.out, HYY.out]
              have := HD.out
              rw [of_decide_eq_true this.symm]
            · exact HOK.out j (by omega)
          go_wp2_with fail
          go_quiet ((go_at_call 20; exact Calls.quiet_of (hsame _)))
          go_wp2_with fail
          go_roundw
          case rel => exact ⟨t + 1, by go_num, by omega, HALL.out, _, by rw [HK.out, World.drewN_drewN]⟩
          case measure => simp [intOf]; omega
      · have hte : t = n := by omega
        subst hte
        have HF : Hid (decide (A = B) = true) := by
          show _ = _
          rw [decide_eq_true_iff]
          apply List.ext_getElem?
          intro j
          rcases Nat.lt_or_ge j t with h | h
          · exact hok j h
          · rw [List.getElem?_eq_none (by have := HN.out; omega), List.getElem?_eq_none (by have := HM.out; omega)]
        have HK := Lib.hid hk
        clear hok hk
        go_wp2_with fail
        go_ret
        exact ⟨ret_bool HF.out.symm, k, HK.out⟩
  · have e0 : ((n : Int) != (m : Int)) = true := by rw [bne_iff_ne]; omega
    have HF : Hid (decide (A = B) = false) := by
      show _ = _
      rw [decide_eq_false_iff_not]
      intro h
      exact hl (by rw [HN.out, HM.out, h])
    clear hl
    go_enter Tryz.func16, Tryz.ntmps16
    go_wp2_with fail
    go_ret
    exact ⟨ret_bool HF.out.symm, 0, rfl⟩
def numI (s : ByteArray) (most : Nat) : Int := match Ux.numOf s most with
  | some k => k
  | none => -1
theorem numI_at {s : ByteArray} {most k : Nat} (hk : k < most) (h : Ux.atomName k = s) : numI s most = (k : Int) := by
  unfold numI; rw [Ux.numOf_some.2 ⟨hk, h⟩]
theorem numI_none {s : ByteArray} {most : Nat} (h : ∀ k, k < most → Ux.atomName k ≠ s) : numI s most = -1 := by
  unfold numI
  have : Ux.numOf s most = none := by
    cases hq : Ux.numOf s most with
    | none => rfl
    | some k => obtain ⟨h1, h2⟩ := Ux.numOf_some.1 hq; exact absurd h2 (h k h1)
  rw [this]
set_option maxRecDepth 100000 in
set_option maxHeartbeats 1000000 in
theorem Number_any (s : ByteArray) (most : Nat) (hm : most ≤ 1000000) (w : World) :
    Calls Tryz.prog 52 #[.string s, .int .i64 most] w fun r w' => r = .returned (.int .i64 (numI s most)) ∧ Below w.heap.size w w' := by
  obtain ⟨nb, hnb⟩ : ∃ nb, nb = w.heap.size := ⟨_, rfl⟩
  have HNB := Lib.hid hnb
  clear hnb
  go_enter Tryz.func52, Tryz.ntmps52
  go_wp2_with fail
  go_loopw [5] (fun iv wr => ∃ t : Nat, iv = .int .i64 t ∧ t ≤ most ∧ (∀ j, j < t → Ux.atomName j ≠ s) ∧ Below nb w wr) (fun iv _ => most - (intOf iv).toNat)
  case atStart => exact ⟨0, rfl, Nat.zero_le _, (fun j h => by omega), Below.refl _ _⟩
  case round =>
    obtain ⟨t, rfl, ht, hno, hb⟩ := hrel
    have HNO := Lib.hid hno
    have HB : Hid (Below w.heap.size w wr) := by show Below _ _ _; rw [← HNB.out]; exact hb
    clear hno hb
    by_cases hlt : t < most
    · have hit := rDigits_any t (by omega) wr
      have htn : (t : Int) < (most : Int) := by omega
      have ht0 : (0 : Int) ≤ (t : Int) := by omega
      go_wp2_with fail
      refine hit.mono ?_
      rintro r w5 ⟨tx, rfl, htx, hb5⟩
      have htxs : tx.size ≤ 20 := by
        have h5 := (Fx.dec_is t).2.2.2.2 9 (by omega)
        rw [← list_size, htx]; omega
      have hnm : (⟨#[63]⟩ : ByteArray) ++ tx = Ux.atomName t := by
        refine bytes_ext ?_
        rw [concat_bytes, htx]; simp [Ux.atomName]
      obtain ⟨nm, hnme⟩ : ∃ nm, nm = (⟨#[63]⟩ : ByteArray) ++ tx := ⟨_, rfl⟩
      obtain ⟨d, hd⟩ : ∃ d, d = (s.toList == ((⟨#[63]⟩ : ByteArray) ++ tx).toList) := ⟨_, rfl⟩
      have hd2 : d = decide (s = Ux.atomName t) := by
        rw [hd, ← hnm, Bool.eq_iff_iff, beq_iff_eq, decide_eq_true_eq, Lib.toList_data, Lib.toList_data]
        exact ⟨fun h => bytes_ext h, fun h => by rw [h]⟩
      have HB5 := Lib.hid (below_next HB.out hb5)
      have HD := Lib.hid hd2
      have hdd := hd.symm
      clear hit hb5 htx hnm hnme hd hd2
      cases d
      · have HNN : Hid (∀ j, j < t + 1 → Ux.atomName j ≠ s) := fun j hj => by
          by_cases h : j = t
          · subst h; have := of_decide_eq_false HD.out.symm; exact fun e => this e.symm
          · exact HNO.out j (by omega)
        go_wp2_with fail
        go_roundw
        case rel => exact ⟨t + 1, by go_num, by omega, HNN.out, by rw [HNB.out]; exact HB5.out⟩
        case measure => simp [intOf]; omega
      · have HF : Hid (numI s most = (t : Int)) := numI_at hlt (of_decide_eq_true HD.out.symm).symm
        go_wp2_with fail
        go_ret
        exact ⟨by rw [HF.out]; rfl, HB5.out⟩
    · have hte : t = most := by omega
      subst hte
      have HF : Hid (numI s t = -1) := numI_none HNO.out
      go_wp2_with fail
      go_ret
      exact ⟨by rw [HF.out]; rfl, HB.out⟩
end Go.Proofs.YtjnpkdpljmkpiaaGreatDoor
namespace Go.Proofs.YtjnpkdpljmkpiaaGreatDoor
open Go.RowKit Go.Shelf Tx
theorem numI_case (s : ByteArray) (most : Nat) : (∃ k, k < most ∧ Ux.numOf s most = some k ∧ numI s most = (k : Int)) ∨ (Ux.numOf s most = none ∧ numI s most = -1) := by
  unfold numI
  cases h : Ux.numOf s most with
  | none => exact Or.inr ⟨rfl, rfl⟩
  | some k => exact Or.inl ⟨k, (Ux.numOf_some.1 h).1, rfl, rfl⟩
theorem mayA_no {e : List Nd} {most t : Nat} {x : Nd} (hx : e[t]? = some x) (h : Ux.nodeA most x = false) : Ux.mayA e most = false := by
  cases hq : Ux.mayA e most with
  | false => rfl
  | true =>
    unfold Ux.mayA at hq
    rw [Bool.and_eq_true] at hq
    have h1 := List.all_eq_true.1 hq.2 x (List.mem_of_getElem? hx)
    rw [h] at h1; cases h1
theorem mayA_yes {e : List Nd} {most : Nat} (hm : mayB e = true) (h : ∀ (j : Nat) (x : Nd), e[j]? = some x → Ux.nodeA most x = true) : Ux.mayA e most = true := by
  unfold Ux.mayA
  rw [hm, Bool.true_and, List.all_eq_true]
  intro x hx
  obtain ⟨j, hj⟩ := List.mem_iff_getElem?.1 hx
  exact h j x hj
set_option maxRecDepth 100000 in
set_option maxHeartbeats 4000000 in
theorem rMayA_any (e : List Nd) (v : Value) (most : Nat) (w : World) (he : e.length ≤ 1000000000) (hm : most ≤ 1000000) (hv : IsE w v e) :
    Calls Tryz.prog 26 #[v, .int .i64 most] w fun r w' => r = .returned (.bool (Ux.mayA e most)) ∧ Below w.heap.size w w' := by
  have hmay := rMay_any e v w he hv
  obtain ⟨a, c, rfl, hcl, hx⟩ := hv.form
  obtain ⟨n, hn⟩ : ∃ n, n = e.length := ⟨_, rfl⟩
  rw [← hn] at hcl he hmay ⊢
  have HN := Lib.hid hn
  have HX := Lib.hid hx
  obtain ⟨nb, hnb⟩ : ∃ nb, nb = w.heap.size := ⟨_, rfl⟩
  have HNB := Lib.hid hnb
  clear hn hx hv hnb
  cases hmy : mayB e with
  | false =>
    have HF : Hid (Ux.mayA e most = false) := by unfold Ux.mayA; rw [hmy]; rfl
    rw [hmy] at hmay
    clear hmy
    go_enter Tryz.func26, Tryz.ntmps26
    go_wp2_with fail
    refine hmay.mono ?_
    rintro r w1 ⟨rfl, hb1⟩
    clear hmay
    go_wp2_with fail
    go_ret
    exact ⟨by rw [HF.out]; rfl, hb1⟩
  | true =>
    have HMY := Lib.hid hmy
    rw [hmy] at hmay
    clear hmy
    go_enter Tryz.func26, Tryz.ntmps26
    go_wp2_with fail
    refine hmay.mono ?_
    rintro r w1 ⟨rfl, hb1⟩
    clear hmay
    have HB1 : Hid (Below nb w w1) := by show Below _ _ _; rw [HNB.out]; exact hb1
    clear hb1
    go_wp2_with fail
    go_loopw [5] (fun iv wr => ∃ t : Nat, iv = .int .i64 t ∧ t ≤ n ∧ (∀ (j : Nat) (x : Nd), j < t → e[j]? = some x → Ux.nodeA most x = true) ∧ Below nb w wr) (fun iv _ => n - (intOf iv).toNat)
    case atStart => exact ⟨0, rfl, Nat.zero_le _, fun j x h => by omega, HB1.out⟩
    case round =>
      obtain ⟨t, rfl, ht, hok, hB⟩ := hrel
      have HOK := Lib.hid hok
      have HB : Hid (Below w.heap.size w wr) := by show Below _ _ _; rw [← HNB.out]; exact hB
      clear hok hB
      by_cases hlt : t < n
      · obtain ⟨x, hx⟩ : ∃ x, e[t]? = some x := ⟨_, List.getElem?_eq_getElem (by have := HN.out; omega)⟩
        obtain ⟨b, o, rfl, hcell⟩ := HX.out wr HB.out t x hx
        obtain ⟨c0, c1, c2, c3, c4, c5⟩ := nd_cells hcell
        have HXX := Lib.hid hx
        have htn : (t : Int) < (n : Int) := by omega
        have ht0 : (0 : Int) ≤ (t : Int) := by omega
        clear hx hcell c1 c2 c3 c4
        have hlog := R.rIs_any x.op wr
        obtain ⟨L, hL⟩ : ∃ L, L = Ux.isLogic x.op := ⟨_, rfl⟩
        rw [← hL] at hlog
        have HLL := Lib.hid hL
        clear hL
        obtain ⟨q, hq⟩ : ∃ q, q = (x.op != 3) := ⟨_, rfl⟩
        have HQ := Lib.hid hq
        have hqq := hq.symm
        clear hq
        have HND : Hid (Ux.nodeA most x = (L || (!q && (Ux.numOf x.s most).isSome))) := by
          show _ = _
          unfold Ux.nodeA; rw [HLL.out, HQ.out]; simp only [bne, Bool.not_not]
        have HOKS : Hid (Ux.nodeA most x = true → ∀ (j : Nat) (y : Nd), j < t + 1 → e[j]? = some y → Ux.nodeA most y = true) := fun h0 j y hj hy => by
          by_cases h : j = t
          · subst h; rw [HXX.out] at hy; cases hy; exact h0
          · exact HOK.out j y (by omega) hy
        cases L
        · cases q
          · have hnum := Number_any x.s most hm wr
            rcases numI_case x.s most with ⟨k, hk, h1, h2⟩ | ⟨h1, h2⟩
            · rw [h2] at hnum
              have HT : Hid (Ux.nodeA most x = true) := by show _ = _; rw [HND.out, h1]; rfl
              have HO2 := Lib.hid (HOKS.out HT.out)
              have hk0 : ¬ ((k : Int) < 0) := by omega
              clear h1 h2
              go_wp2_with fail
              refine hlog.mono ?_
              rintro r w3 ⟨rfl, rfl⟩
              go_wp2_with fail
              refine hnum.mono ?_
              rintro r w4 ⟨rfl, hb4⟩
              have HB4 := Lib.hid (below_next HB.out hb4)
              clear hb4 hnum hlog
              go_wp2_with fail
              go_roundw
              case rel => exact ⟨t + 1, by go_num, by omega, HO2.out, by rw [HNB.out]; exact HB4.out⟩
              case measure => simp [intOf]; omega
            · rw [h2] at hnum
              have HF : Hid (Ux.mayA e most = false) := mayA_no HXX.out (by rw [HND.out, h1]; rfl)
              clear h1 h2
              go_wp2_with fail
              refine hlog.mono ?_
              rintro r w3 ⟨rfl, rfl⟩
              go_wp2_with fail
              refine hnum.mono ?_
              rintro r w4 ⟨rfl, hb4⟩
              have HB4 := Lib.hid (below_next HB.out hb4)
              clear hb4 hnum hlog
              go_wp2_with fail
              go_ret
              exact ⟨by rw [HF.out]; rfl, HB4.out⟩
          · have HF : Hid (Ux.mayA e most = false) := mayA_no HXX.out (by rw [HND.out]; rfl)
            go_wp2_with fail
            refine hlog.mono ?_
            rintro r w3 ⟨rfl, rfl⟩
            go_wp2_with fail
            go_ret
            exact ⟨by rw [HF.out]; rfl, HB.out⟩
        · have HT : Hid (Ux.nodeA most x = true) := by show _ = _; rw [HND.out]; rfl
          have HO2 := Lib.hid (HOKS.out HT.out)
          go_wp2_with fail
          refine hlog.mono ?_
          rintro r w3 ⟨rfl, rfl⟩
          go_wp2_with fail
          go_roundw
          case rel => exact ⟨t + 1, by go_num, by omega, HO2.out, by rw [HNB.out]; exact HB.out⟩
          case measure => simp [intOf]; omega
      · have hte : t = n := by omega
        subst hte
        have HT : Hid (Ux.mayA e most = true) := mayA_yes HMY.out fun j x hj => HOK.out j x (by have := (List.getElem?_eq_some_iff.1 hj).1; have := HN.out; omega) hj
        go_wp2_with fail
        go_ret
        exact ⟨by rw [HT.out]; rfl, HB.out⟩
end Go.Proofs.YtjnpkdpljmkpiaaGreatDoor
