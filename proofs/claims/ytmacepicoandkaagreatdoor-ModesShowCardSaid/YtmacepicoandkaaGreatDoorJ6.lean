/- May an expression be: the walk, its loops. The nodes of which a node is made, in order: the walk. -/
import Derived.OneCell
import Derived.Test.YtmacepicoandkaaGreatDoorJ5
set_option linter.unusedVariables false
set_option linter.unusedSimpArgs false
namespace Go.Proofs.YtmacepicoandkaaGreatDoor
open Go.RowKit Go.Shelf Tx
theorem replicate_one (n:Nat):(List.replicate n false).map vB=List.replicate n (Value.bool false):=by simp
set_option maxRecDepth 100000 in
set_option maxHeartbeats 8000000 in
theorem May_any (e:List Nd) (v:Value) (w:World) (he:e.length≤1000000000) (hv:IsE w v e) :
  Calls Tryz.prog 22 #[v] w fun r w'=>r=.returned (.bool (mayB e))∧Below w.heap.size w w':=by
 have HVV:=Lib.hid hv
 obtain⟨a,c,rfl,hc,hx⟩:=hv.form
 obtain⟨i0,hi,hz0,hz1,hz2⟩:=info_parts infoB
 obtain⟨n,hn⟩ : ∃ n,n=e.length:=⟨_,rfl⟩
 rw[← hn] at hc he HVV ⊢
 have HN:Hid (n=e.length):=hn
 have HX:Hid (∀ W,Below w.heap.size w W→∀ i x,e[i]?=some x→∃ b o,a=some ⟨b,o,none⟩∧∀ j u,(ndL x)[j]?=some u→W.cell? ⟨b,o+i * 6+j,none⟩=some u):=hx
 clear hn hx hv
 by_cases h0:n=0
 ·have HF:Hid (mayB e=false):=may_no fun h=>by have:=h.ne;have:=HN.out;omega
  subst h0
  go_enter Tryz.func22,Tryz.ntmps22
  go_wp2_with fail
  go_ret
  exact⟨by (rw[HF.out];first | done | rfl),Below.refl _ _⟩
 have e0:((n:Int)==0)=false:=by rw[beq_eq_false_iff_ne];omega
 by_cases h5:5000<n
 ·have HF:Hid (mayB e=false):=may_no fun h=>by have:=h.len;have:=HN.out;omega
  have h5':(5000:Int)<(n:Int):=by omega
  go_enter Tryz.func22,Tryz.ntmps22
  go_wp2_with fail
  go_ret
  exact⟨by (rw[HF.out];first | done | rfl),Below.refl _ _⟩
 have h5':¬ (5000:Int)<(n:Int):=by omega
 obtain⟨z,hz⟩ : ∃ z,e[n - 1]?=some z:=⟨_,List.getElem?_eq_getElem (by have:=HN.out;omega)⟩
 have hlast:e.getLastD dft=z:=by rw[List.getLastD_eq_getLast?,List.getLast?_eq_getElem?,← HN.out,hz];rfl
 obtain⟨zb,zo,rfl,hzc⟩:=HX.out w (Below.refl _ _) (n - 1) z hz
 have cz:=hzc 0 _ rfl
 simp only[Nat.add_zero] at cz
 have hn1:(0:Int)≤(n:Int) - 1:=by omega
 have ht1:((n:Int) - 1).toNat=n - 1:=by omega
 by_cases h28:z.op=28
 ·have HF:Hid (mayB e=false):=may_no fun h=>h.last (by rw[hlast];exact h28)
  have e28:(z.op==28)=true:=by simp[h28]
  clear h28 hlast hz hzc
  go_enter Tryz.func22,Tryz.ntmps22
  go_wp2_with fail
  go_ret
  exact⟨by (rw[HF.out];first | done | rfl),Below.refl _ _⟩
 have e28:(z.op==28)=false:=by rw[beq_eq_false_iff_ne];exact h28
 have HLAST:Hid ((e.getLastD dft).op≠28):=by show _≠_;rw[hlast];exact h28
 clear h28 hlast hz hzc
 go_enter Tryz.func22,Tryz.ntmps22
 go_wp2_with (at_make;refine wpList_make_full _ rfl _ _ 27 rfl w.heap.size 4 i0 (.bool false) 1 Tryz.underlying27 hi hz0 hz1 _ _ _ _ n rfl rfl rfl rfl ?_ ?_ ?_ ?_;rotate_right;intro w2 hown2 hgrow2)
 case refine_1=>first | omega | (rw[hz2];omega)
 case refine_2=>first | exact Nat.le_refl _ | (unfold maxLen;omega)
 have hB2:Below w.heap.size w w2:=(Below.refl _ _).grown hgrow2 (Nat.le_refl _) (by simp)
 have hR2:RowL vB 4 w.heap.size w2 w.heap.size n (List.replicate n false):=by
  unfold RowL
  have:=hown2
  simp only[Value.cells,Nat.mul_one,toList_madeCells_one] at this
  rw[replicate_one];exact this
 clear hown2 hgrow2 hi hz0 hz1 hz2 cz e28
 obtain⟨bx,hbx⟩ : ∃ bx,bx=w.heap.size:=⟨_,rfl⟩
 rw[← hbx] at hB2 hR2 ⊢
 have HBX:Hid (bx=w.heap.size):=hbx
 clear hbx
 go_loopw [32] (fun i wr=>∃ (k:Nat) (U:List Bool),i=.int .i64 k∧k≤n∧RowL vB 4 bx wr bx n U∧MayLp e k (allK (e.take k)) U∧Below bx w wr) (fun i _=>n - (intOf i).toNat)
 case atStart=>exact⟨0,_,rfl,Nat.zero_le _,hR2,by rw[HN.out];exact MayLp.start e,hB2⟩
 case round =>
  obtain⟨k,U,rfl,hk,hR,hM,hB⟩:=hrel
  clear hB2 hR2
  by_cases hlt:k<n
  ·obtain⟨x,hx⟩ : ∃ x,e[k]?=some x:=⟨_,List.getElem?_eq_getElem (by have:=HN.out;omega)⟩
   obtain⟨b,o,hab,hcell⟩:=HX.out wr (by rw[← HBX.out];exact hB) k x hx
   cases hab
   obtain⟨c0,c1,c2,c3,c4,c5⟩:=nd_cells hcell
   have HXX:=Lib.hid hx
   have hkn:(k:Int)<(n:Int):=by omega
   have hk0:(0:Int)≤(k:Int):=by omega
   clear hx hcell
   have nb:=(Below.refl wr.heap.size wr).alloc (Nat.le_refl _) (.cells (ndA x) 85)
   have kb:=Blk.new wr (ndA x) 85
   go_wp2_with fail
   generalize hW1:wr.alloc (.cells #[.int .i64 x.op,.int .i64 x.a,.int .i64 x.b,.int .i64 x.c,.int .i64 x.n,.string x.s] 85)=W1
   have hltb:=hR.lt.2
   obtain⟨nbk,hnbk⟩ : ∃ q,q=wr.heap.size:=⟨_,rfl⟩
   have hR1:RowL vB 4 bx W1 bx n U:=by rw[← hW1];exact hR.below nb
   have hB1:Below bx w W1:=by rw[← hW1];exact hB.trans (nb.mono (by omega))
   have kb1:Blk W1 nbk #[.int .i64 x.op,.int .i64 x.a,.int .i64 x.b,.int .i64 x.c,.int .i64 x.n,.string x.s] 85:=by rw[← hW1,hnbk];exact kb
   have hbk:bx<nbk:=by omega
   rw[← hnbk]
   clear hW1 hnbk kb nb c0 c1 c2 c3 c4 c5 hR hB hltb
   refine (isNode_any x _).mono ?_
   rintro r w1 ⟨rfl,hb1⟩
   cases hnb:nodeB x with
   | false =>
    have HF:Hid (mayB e=false):=may_no fun h=>by have:=(h.node k x HXX.out).1;rw[hnb] at this;cases this
    have hB2:Below bx w w1:=hB1.trans (hb1.mono (Nat.le_of_lt hR1.lt.2))
    clear hnb
    go_wp2_with fail
    go_ret
    exact⟨by (rw[HF.out];first | done | rfl),by rw[← HBX.out];exact hB2⟩
   | true =>
    have HNB:=Lib.hid hnb
    clear hnb
    have hR2:=hR1.below hb1
    have hB2:Below bx w w1:=hB1.trans (hb1.mono (Nat.le_of_lt hR1.lt.2))
    have kb2:=kb1.below hb1
    obtain⟨c0,c1,c2,c3,c4,c5⟩:=six_cells kb2
    clear hR1 hB1 kb1 hb1
    go_wp2_with fail
    refine (Kids_any x _).mono ?_
    rintro r w2 ⟨kv,rfl,hkr0,hb2⟩
    have hR3:=hR2.below hb2
    have hB3:Below bx w w2:=hB2.trans (hb2.mono (Nat.le_of_lt hR2.lt.2))
    have kb3:=kb2.below hb2
    have hkr:=hkr0.mono (b2:=bx+1) (Nat.lt_of_lt_of_le hbk (Nat.le_of_lt kb2.lt))
    obtain⟨ka,kc,hkv,hkc⟩:=hkr.form
    subst hkv
    obtain⟨kn,hkn2⟩ : ∃ kn,kn=(kids x).length:=⟨_,rfl⟩
    have h3:=kids_len x
    rw[← hkn2] at hkr hkc h3 ⊢
    have HKN:=Lib.hid hkn2
    clear hkn2 hkr0 hR2 hB2 kb2 hb2 c0 c1 c2 c3 c4 c5
    go_wp2_with fail
    obtain⟨wo,rfl⟩ : ∃ wo:World,wo=wr:=⟨_,rfl⟩
    go_loopw [43] (fun i wr=>∃ (t:Nat) (U:List Bool),i=.int .i64 t∧t≤kn∧RowL vB 4 bx wr bx n U∧MayLp e k (allK (e.take k)++(kids x).take t) U∧Below bx w wr∧RowI (bx+1) wr (.slice ka kn kc) (kids x) ∧
     Blk wr nbk #[.int .i64 x.op,.int .i64 x.a,.int .i64 x.b,.int .i64 x.c,.int .i64 x.n,.string x.s] 85∧(∀ t' y,t'<t→(kids x)[t']?=some y→0≤y∧y<(k:Int)∧((e.getD y.toNat dft).op==28)=argWant x t')) (fun i _=>kn - (intOf i).toNat)
    case atStart=>exact⟨0,U,rfl,Nat.zero_le _,hR3,by rw[List.take_zero,List.append_nil];exact hM,hB3,hkr,kb3,fun t' y h=>by omega⟩
    case round =>
     obtain⟨t,U,rfl,ht,hR,hM,hB,hkr,kb,hok⟩:=hrel
     clear hR3 hB3 kb3
     by_cases hlt2:t<kn
     ·obtain⟨y,hy⟩ : ∃ y,(kids x)[t]?=some y:=⟨_,List.getElem?_eq_getElem (by have:=HKN.out;omega)⟩
      obtain⟨g,rfl,hg1,hg2,cy,-⟩:=hkr.at hy
      have HY:=Lib.hid hy
      have htk:(t:Int)<(kn:Int):=by omega
      have ht0:(0:Int)≤(t:Int):=by omega
      clear hy
      by_cases hyr:0≤y∧y<(k:Int)
      ·obtain⟨hy0,hyk⟩:=hyr
       obtain⟨j,rfl⟩ : ∃ j:Nat,y=(j:Int):=⟨y.toNat,by omega⟩
       have hUl:=hR.len
       have cu:=hR.cell (hM.mark j (by omega))
       have fu:=hR.free j
       have hjn:(j:Int)<(n:Int):=by omega
       by_cases hm:(j:Int)∈allK (e.take k)++(kids x).take t
       ·have HF:Hid (mayB e=false):=may_twice HXX.out HY.out hm
        rw[decide_eq_true hm] at cu
        clear hm hUl hR hM hkr hok
        go_wp2_with fail
        go_ret
        exact⟨by (rw[HF.out];first | done | rfl),by rw[← HBX.out];exact hB⟩
       ·rw[decide_eq_false hm] at cu
        obtain⟨z2,hz2⟩ : ∃ z2,e[j]?=some z2:=⟨_,List.getElem?_eq_getElem (by have:=HN.out;omega)⟩
        have HZ2:Hid ((e.getD (j:Int).toNat dft)=z2):=by show _=_;rw[show (j:Int).toNat=j by omega,List.getD_eq_getElem?_getD,hz2];rfl
        obtain⟨b2,o2,hab,hcell⟩:=HX.out wr (by rw[← HBX.out];exact hB) j z2 hz2
        cases hab
        obtain⟨b3,o3,hab,hcell3⟩:=HX.out w (Below.refl _ _) j z2 hz2
        cases hab
        have hzb:zb≠bx:=by
         have:=World.block_lt_of_cell? w _ (hcell3 0 _ rfl)
         have h8:=HBX.out
         simp at this;omega
        have ce:=hcell 0 _ rfl
        simp only[Nat.add_zero] at ce
        have hM2:=hM.put hm
        rw[List.append_assoc,← take_at HY.out] at hM2
        have HM2:=Lib.hid hM2
        have hR2:=hR.set j true
        have HR2:=Lib.hid hR2
        have hkr2:=hkr.other (p:=bx) (by omega) j (.bool true)
        have HKR2:=Lib.hid hkr2
        have kb2:=kb.other (p:=bx) j (by omega) (.bool true)
        have HKB2:=Lib.hid kb2
        have hB2:Below bx w (wr.setCell ⟨bx,j,none⟩ (.bool true)):=below_set hB (Nat.le_refl _)
        obtain⟨c0,c1,c2,c3,c4,c5⟩:=six_cells kb
        have hnb2:nbk≠bx:=by omega
        obtain⟨wt,hwt⟩ : ∃ wt,wt=argWant x t:=⟨_,rfl⟩
        have hor:((x.op==27)=true∧wt=true)∨((x.op==27)=false∧(x.op==28)=false∧wt=false)∨((x.op==27)=false∧(x.op==28)=true∧(x.b != -1)=false∧wt=false) ∨
          ((x.op==27)=false∧(x.op==28)=true∧(x.b != -1)=true∧((t:Int)==0)=false∧wt=false)∨((x.op==27)=false∧(x.op==28)=true∧(x.b != -1)=true∧((t:Int)==0)=true∧wt=true):=by
         have e1:((t:Int)==0)=(t==0):=by rw[Bool.eq_iff_iff];simp
         rw[hwt,e1];unfold argWant
         cases (x.op==27) <;> cases (x.op==28) <;> cases (x.b != -1) <;> cases (t==0) <;> simp
        obtain⟨zo28,hzo⟩ : ∃ q,q=(z2.op==28):=⟨_,rfl⟩
        have hzo2:(z2.op==28)=zo28:=hzo.symm
        have HWT:Hid (wt=argWant x t):=hwt
        have HOK:Hid (∀ t' y,t'<t→(kids x)[t']?=some y→0≤y∧y<(k:Int)∧((e.getD y.toNat dft).op==28)=argWant x t'):=hok
        have HZO:Hid (zo28=(z2.op==28)):=hzo
        by_cases heq:zo28=wt
        ·have HALL:Hid (∀ t' y,t'<t+1→(kids x)[t']?=some y→0≤y∧y<(k:Int)∧((e.getD y.toNat dft).op==28)=argWant x t'):=fun t' y h1 h2=>by
          by_cases q:t'=t
          ·subst q
           have:=HY.out;rw[h2] at this;cases this
           exact⟨hy0,hyk,by rw[HZ2.out,← HZO.out,← HWT.out];exact heq⟩
          ·exact HOK.out t' y (by omega) h2
         clear hM hM2 hR hR2 hkr hkr2 kb kb2 hok hm hz2 hcell hcell3 hwt hzo hUl
         rcases hor with ⟨g1,rfl⟩ | ⟨g1,g2,rfl⟩ | ⟨g1,g2,g3,rfl⟩ | ⟨g1,g2,g3,g4,rfl⟩ | ⟨g1,g2,g3,g4,rfl⟩
         all_goals
          subst heq
          go_wp2_with fail
          go_roundw
          case rel=>exact⟨t+1,U.set j true,by go_num,by omega,HR2.out,HM2.out,hB2,HKR2.out,HKB2.out,HALL.out⟩
          case measure=>simp[intOf];omega
        ·have HF:Hid (mayB e=false):=may_no fun h=>by
          have h1:=(argsOk_iff e x).1 (h.node k x HXX.out).2.2 t _ HY.out
          rw[HZ2.out,← HZO.out,← HWT.out] at h1
          exact heq h1
         clear hM hM2 hR hR2 hkr hkr2 kb kb2 hok hm hz2 hcell hcell3 hwt hzo hUl
         have heq2:zo28 = !wt:=by revert heq;cases zo28 <;> cases wt <;> simp
         clear heq
         rcases hor with ⟨g1,rfl⟩ | ⟨g1,g2,rfl⟩ | ⟨g1,g2,g3,rfl⟩ | ⟨g1,g2,g3,g4,rfl⟩ | ⟨g1,g2,g3,g4,rfl⟩
         all_goals
          subst heq2
          simp only[Bool.not_true,Bool.not_false] at hzo2
          go_wp2_with fail
          go_ret
          exact⟨by (rw[HF.out];first | done | rfl),by rw[← HBX.out];exact hB2⟩
      ·have HF:Hid (mayB e=false):=may_no fun h=>hyr ((h.node k x HXX.out).2.1 y (List.mem_of_getElem? HY.out))
       have hor:y<(0:Int)∨(¬ y<(0:Int)∧(k:Int)≤y):=by omega
       clear hyr hR hM hkr hok
       rcases hor with h1 | ⟨h1,h2⟩
       all_goals
        go_wp2_with fail
        go_ret
        exact⟨by (rw[HF.out];first | done | rfl),by rw[← HBX.out];exact hB⟩
     ·have hte:t=kn:=by omega
      subst hte
      have hfull:(kids x).take t=kids x:=List.take_of_length_le (by have:=HKN.out;omega)
      rw[hfull] at hM
      have hin:inR x k:=fun y hy=>by
       obtain⟨t',ht'⟩:=List.getElem?_of_mem hy
       have:=hok t' y (by have:=(List.getElem?_eq_some_iff.1 ht').1;have:=HKN.out;omega) ht'
       exact⟨this.1,this.2.1⟩
      have harg:argsOk e x=true:=(argsOk_iff e x).2 fun t' y ht'=>(hok t' y (by have:=(List.getElem?_eq_some_iff.1 ht').1;have:=HKN.out;omega) ht').2.2
      have HM:=Lib.hid (hM.next HXX.out HNB.out hin harg)
      clear hM hfull hin harg hok hkr kb
      have HR:=Lib.hid hR
      clear hR
      go_wp2_with fail
      go_roundw
      case rel=>exact⟨k+1,U,by go_num,by omega,HR.out,HM.out,hB⟩
      case measure=>simp[intOf];omega
  ·have hke:k=n:=by omega
   subst hke
   have hUl:=hR.len
   have htk:e.take k=e:=List.take_of_length_le (by have:=HN.out;omega)
   rw[htk] at hM
   have hMF:MayLp e e.length (allK e) U:=by rw[← HN.out];exact hM
   have HFI:=Lib.hid (hMF.finish (by have:=HN.out;omega) (by have:=HN.out;omega) (by have:=HN.out;omega) HLAST.out)
   have hsl:Sl boolC 1 wr (.slice (some ⟨bx,0,none⟩) k k) U:=hR.sl (fun _=>rfl)
   have hsl2:Sl boolC 1 wr (.slice (some ⟨bx,0,none⟩) (k - 1) k) (U.take (k - 1)):=by
    have h9:Sl boolC 1 wr (.slice (some ⟨bx,0,none⟩) U.length k) U:=by rw[hUl];exact hsl
    exact h9.take (by omega)
   have HC:=containsB_any (U.take (k - 1)) (.slice (some ⟨bx,0,none⟩) (k - 1) k) false wr (by rw[List.length_take];omega) hsl2
   obtain⟨q,hq⟩ : ∃ q,q=(U.take (k - 1)).contains false:=⟨_,rfl⟩
   rw[← hq] at HC
   have HFI2:Hid (mayB e=(!q&&decide (depL e≤40))):=by
    show _=_
    rw[HFI.out,hq,← HN.out]
   have HD:=Depth_any e _ wr (by have:=HN.out;omega) (Sl.below HVV.out (by rw[← HBX.out];exact hB))
   have HDD:=Lib.hid HD
   have hkm:((k:Int) - 1)≤(k:Int):=by omega
   clear hM hMF hsl hsl2 hq htk hUl hR HD
   cases q
   ·go_wp2_with fail
    refine HC.mono ?_
    rintro r w1 ⟨rfl,rfl⟩
    clear HC
    go_wp2_with fail
    refine HDD.out.mono ?_
    rintro r w2 ⟨rfl,hb2⟩
    obtain⟨dd,hdd⟩ : ∃ dd,dd=depL e:=⟨_,rfl⟩
    have HE:Hid (mayB e=decide (dd≤40)):=by show _=_;rw[HFI2.out,hdd];rfl
    rw[← hdd]
    clear hdd
    have hB2:Below bx w w2:=hB.trans (hb2.mono (by have:=hB.size;have:=HBX.out;omega))
    go_wp2_with fail
    go_ret
    exact⟨by rw[HE.out];simp;omega,by rw[← HBX.out];exact hB2⟩
   ·go_wp2_with fail
    refine HC.mono ?_
    rintro r w1 ⟨rfl,rfl⟩
    clear HC
    go_wp2_with fail
    go_ret
    exact⟨by (rw[HFI2.out];first | done | rfl),by rw[← HBX.out];exact hB⟩
end Go.Proofs.YtmacepicoandkaaGreatDoor
namespace Go.Proofs.YtmacepicoandkaaGreatDoor
open Go.RowKit Go.Shelf Tx
structure Gr (w:World) (v:Value) (w':World) (v':Value):Prop where
 os:w'.os=w.os
 tape:w'.tape=w.tape
 output:w'.output=w.output
 size:w.heap.size≤w'.heap.size
 block:∀ k,k<w.heap.size→v.ownBlock≠some k→w'.heap[k]?=w.heap[k]?
 own:∀ g,v'.ownBlock=some g→v.ownBlock=some g∨w.heap.size≤g
theorem Gr.refl (w:World) (v:Value):Gr w v w v:=⟨rfl,rfl,rfl,Nat.le_refl _,fun _ _ _=>rfl,fun _ h=>Or.inl h⟩
theorem Gr.of_below {w w':World} (v:Value) (h:Below w.heap.size w w'):Gr w v w' v:=⟨h.os,h.tape,h.output,h.size,fun k hk _=>h.block k hk,fun _ h=>Or.inl h⟩
theorem Gr.of_grown {w w':World} {v v':Value} (h:w.grownBy w' v.ownBlock) (ho:∀ g,v'.ownBlock=some g→v.ownBlock=some g∨w.heap.size≤g):Gr w v w' v' :=
 ⟨h.os,h.tape,h.output,h.size,fun k hk hn=>h.block k hk (fun e=>hn e.symm),ho⟩
theorem Gr.trans {w w1 w2 : World} {v v1 v2 : Value} (h : Gr w v w1 v1) (k : Gr w1 v1 w2 v2) : Gr w v w2 v2 :=
  ⟨k.os.trans h.os, k.tape.trans h.tape, k.output.trans h.output, Nat.le_trans h.size k.size,
   fun i hi hn => (k.block i (Nat.lt_of_lt_of_le hi h.size) (fun e => by
     rcases h.own i e with q | q
     · exact hn q
     · omega)).trans (h.block i hi hn),
   fun g hg => by
     rcases k.own g hg with q | q
     · exact h.own g q
     · exact Or.inr (Nat.le_trans h.size q)⟩
theorem Gr.below {base:Nat} {w0 w w':World} {v v':Value} (hb:Below base w0 w) (h:Gr w v w' v') (hB:base≤w.heap.size) (hv:∀ g,v.ownBlock=some g→base≤g):Below base w0 w' :=
 hb.trans ⟨h.os,h.tape,h.output,h.size,fun k hk=>h.block k (by omega) (fun e=>by have:=hv k e;omega)⟩
theorem Gr.blk {w w':World} {v v':Value} (h:Gr w v w' v') {b T:Nat} {cs:Array Value} (hb:Blk w b cs T) (hn:v.ownBlock≠some b):Blk w' b cs T:=(h.block b hb.lt hn).trans hb
theorem Gr.rowI {w w':World} {v v':Value} (h:Gr w v w' v') {base:Nat} {u:Value} {l:List Int} (hr:RowI base w u l) (hn:∀ g,u.ownBlock=some g→v.ownBlock≠some g):RowI base w' u l:=by
 rcases hr with hr | ⟨g,rfl,h2,h3⟩
 ·exact Or.inl hr
 ·exact Or.inr ⟨g,rfl,h2,h.blk h3 (hn g rfl)⟩
theorem Gr.set {w:World} {v:Value} {w':World} {v':Value} (h:Gr w v w' v') {g:Nat} (hg:w.heap.size≤g) (i:Nat) (y:Value):Gr w v (w'.setCell ⟨g,i,none⟩ y) v':=by
 refine⟨h.os,h.tape,h.output,?_,fun k hk hn=>?_,h.own⟩
 ·rw[show (w'.setCell ⟨g,i,none⟩ y).heap.size=w'.heap.size by simp[World.setCell]];exact h.size
 ·rw[Below.heap_setCell _ _ _ _ (by show k≠g;omega)];exact h.block k hk hn
theorem OwnE.form {base:Nat} {w:World} {v:Value} {e:List Nd} (h:OwnE base w v e):∃ a c,v=.slice a e.length c∧e.length≤c:=by
 obtain⟨a,c,h1,h2,_⟩:=(OwnE.isE h).form
 exact⟨a,c,h1,h2⟩
theorem OwnE.low {base:Nat} {w:World} {v:Value} {e:List Nd} (h:OwnE base w v e):∀ g,v.ownBlock=some g→base≤g∧g<w.heap.size:=fun g hg=>World.ownsRow.lt h g hg
theorem OwnE.set {base:Nat} {w:World} {v:Value} {e:List Nd} (h:OwnE base w v e) {g:Nat} (hg:v.ownBlock≠some g) (i:Nat) (y:Value):OwnE base (w.setCell ⟨g,i,none⟩ y) v e:=ownsRow_setCell_other h hg y
theorem RowI.set {base:Nat} {w:World} {a:Option Addr} {n c:Nat} {l:List Int} (h:RowI base w (.slice a n c) l) {g:Nat} (ha:a=some ⟨g,0,none⟩) (t:Nat) (y:Int):RowI base (w.setCell ⟨g,t,none⟩ (.int .i64 y)) (.slice a n c) (l.set t y):=by
 rcases h with ⟨_,h⟩ | ⟨g',h1,h2,h3⟩
 ·subst ha;cases h
 ·subst ha;cases h1
  refine Or.inr ⟨g,by rw[List.length_set],h2,?_⟩
  have:=h3.setAt t (.int .i64 y)
  rw[List.map_set]
  simpa using this
def kidRow (e:List Nd) (x:Nd) (b t:Nat):List Int:=(cat (((kids x).take t).map fun k=>T e k.toNat)).ends b++(kids x).drop t
theorem cat_count {e:List Nd} (hR:InR e) {i:Nat} {x:Nd} (hx:e[i]?=some x) (l:List Int) (hl:∀ k∈l,k∈kids x):(cat (l.map fun k=>T e k.toNat)).count=l.length:=by
 have:=count_cat (l.map fun k=>T e k.toNat) (fun F hF=>by
  obtain⟨k,hk,rfl⟩:=List.mem_map.1 hF
  have h1:=hR i x hx k (hl k hk)
  have hi:=(List.getElem?_eq_some_iff.1 hx).1
  exact (T_ops hR (List.getElem?_eq_getElem (by omega:k.toNat<e.length))).2)
 rwa [List.length_map] at this
theorem kidRow_len {e:List Nd} (hR:InR e) {i:Nat} {x:Nd} (hx:e[i]?=some x) (b t:Nat):(kidRow e x b t).length=(kids x).length:=by
 unfold kidRow
 rw[List.length_append,Fo.ends_len,cat_count hR hx _ (fun k hk=>List.mem_of_mem_take hk),List.length_take,List.length_drop];omega
theorem kidRow_zero (e:List Nd) (x:Nd) (b:Nat):kidRow e x b 0=kids x:=by simp[kidRow,cat,Fo.ends]
theorem kidRow_at {e:List Nd} (hR:InR e) {i:Nat} {x:Nd} (hx:e[i]?=some x) (b t:Nat) {k:Int} (hk:(kids x)[t]?=some k):(kidRow e x b t)[t]?=some k:=by
 have ht:=(List.getElem?_eq_some_iff.1 hk).1
 have h1:((cat (((kids x).take t).map fun k=>T e k.toNat)).ends b).length=t:=by
  rw[Fo.ends_len,cat_count hR hx _ (fun k hk=>List.mem_of_mem_take hk),List.length_take];omega
 unfold kidRow
 rw[List.getElem?_append_right (by omega),h1,Nat.sub_self,List.getElem?_drop]
 simpa using hk
theorem kidRow_next {e:List Nd} (hR:InR e) {i:Nat} {x:Nd} (hx:e[i]?=some x) (b t:Nat) {k:Int} (hk:(kids x)[t]?=some k) :
  (kidRow e x b t).set t ((b+(cat (((kids x).take (t+1)).map fun k=>T e k.toNat)).size:Nat) - 1:Int)=kidRow e x b (t+1):=by
 have ht:=(List.getElem?_eq_some_iff.1 hk).1
 have h1:((cat (((kids x).take t).map fun k=>T e k.toNat)).ends b).length=t:=by
  rw[Fo.ends_len,cat_count hR hx _ (fun k hk=>List.mem_of_mem_take hk),List.length_take];omega
 have hkk:=hR i x hx k (List.mem_of_getElem? hk)
 have hi:=(List.getElem?_eq_some_iff.1 hx).1
 have hone:=(T_ops hR (List.getElem?_eq_getElem (by omega:k.toNat<e.length))).2
 have hs:=one_size hone
 unfold kidRow
 rw[take_at hk,List.map_append,List.map_cons,List.map_nil,cat_snoc,Fo.ends_app,ends_one hone,List.set_append_right _ _ (by omega),h1,Nat.sub_self]
 have hd:(kids x).drop t=k :: (kids x).drop (t+1):=by
  rw[List.drop_eq_getElem_cons ht,(List.getElem?_eq_some_iff.1 hk).2]
 have hv:((b+((cat (((kids x).take t).map fun k=>T e k.toNat)).size+(T e k.toNat).size):Nat) - 1:Int)=((b+(cat (((kids x).take t).map fun k=>T e k.toNat)).size+(T e k.toNat).size - 1:Nat):Int):=by omega
 rw[hd,List.set_cons_zero,List.append_assoc,Fo.size_app,hv]
 rfl
theorem kidRow_end {e:List Nd} (x:Nd) (b t:Nat) (ht:(kids x).length≤t):kidRow e x b t=(cat ((kids x).map fun k=>T e k.toNat)).ends b:=by
 unfold kidRow;rw[List.take_of_length_le ht,List.drop_eq_nil_of_le ht,List.append_nil]
theorem order_end {e:List Nd} (hN:NodeP e) {i:Nat} {x:Nd} (hx:e[i]?=some x) (b:Nat) :
  (T e i).flat b=(cat ((kids x).map fun k=>T e k.toNat)).flat b++[aim x ((cat ((kids x).map fun k=>T e k.toNat)).ends b)]:=by
 have hR:InR e:=fun i x hx=>(hN i x hx).2.1
 obtain⟨h1,h2,_⟩:=hN i x hx
 rw[T_at hx h2,Fo.flat]
 have hb:bareB x=true:=by unfold nodeB at h1;simp only[Bool.and_eq_true] at h1;exact h1.1.2
 rw[aim_bare hb _ (by rw[Fo.ends_len,cat_count hR hx _ (fun k hk=>hk)])]
 rfl
set_option maxRecDepth 100000 in
set_option maxHeartbeats 8000000 in
theorem order_any (e:List Nd) (hN:NodeP e) (a:Option Addr) (c:Nat) (base:Nat) (w0:World)
  (HX:Hid (∀ W,Below base w0 W→∀ i x,e[i]?=some x→∃ b o,a=some ⟨b,o,none⟩∧∀ j u,(ndL x)[j]?=some u→W.cell? ⟨b,o+i * 6+j,none⟩=some u)) :
  ∀ (i:Nat),i<e.length→∀ (O:List Nd) (vo:Value) (w:World),Below base w0 w→base≤w.heap.size→OwnE base w vo O→O.length+(T e i).size≤1000000 →
   Calls Tryz.prog 74 #[vo,.slice a e.length c,.int .i64 i] w fun r w'=>∃ v,r=.returned v∧OwnE base w' v (O++(T e i).flat O.length)∧Gr w vo w' v∧Below base w0 w':=by
 intro i
 induction i using Nat.strongRecOn with
 | _ i ih =>
  intro hi O vo w hB hbw hO hOl
  have hR:InR e:=fun i x hx=>(hN i x hx).2.1
  obtain⟨x,hx⟩ : ∃ x,e[i]?=some x:=⟨_,List.getElem?_eq_getElem hi⟩
  obtain⟨b,o,rfl,hcell⟩:=HX.out w hB i x hx
  obtain⟨c0,c1,c2,c3,c4,c5⟩:=nd_cells hcell
  have HXX:=Lib.hid hx
  have HE:=order_end hN hx O.length
  have HIH:Hid (∀ j,j<i→∀ (O:List Nd) (vo:Value) (w:World),Below base w0 w→base≤w.heap.size→OwnE base w vo O→O.length+(T e j).size≤1000000 →
   Calls Tryz.prog 74 #[vo,.slice (some ⟨b,o,none⟩) e.length c,.int .i64 j] w fun r w'=>∃ v,r=.returned v∧OwnE base w' v (O++(T e j).flat O.length)∧Gr w vo w' v∧Below base w0 w'):=fun j hj=>ih j hj (by omega)
  have HSZ:Hid (∀ t,O.length+(cat (((kids x).take t).map fun k=>T e k.toNat)).size+1≤1000000):=fun t=>by
   have h1:(T e i).size=(cat ((kids x).map fun k=>T e k.toNat)).size+1:=by rw[T_at hx (hR i x hx)];simp[Fo.size]
   have h2:(cat ((kids x).map fun k=>T e k.toNat)).size=(cat (((kids x).take t).map fun k=>T e k.toNat)).size+(cat (((kids x).drop t).map fun k=>T e k.toNat)).size:=by
    rw[← Fo.size_app,← cat_append,← List.map_append,List.take_append_drop]
   omega
  have HEE:=Lib.hid HE
  obtain⟨n,hn⟩ : ∃ n,n=e.length:=⟨_,rfl⟩
  rw[← hn] at hi HIH ⊢
  have HN:=Lib.hid hn
  have hin:(i:Int)<(n:Int):=by omega
  have hi0:(0:Int)≤(i:Int):=by omega
  obtain⟨oa,oc,rfl,hoc⟩:=hO.form
  clear hx hcell HE ih hn
  go_enter Tryz.func74,Tryz.ntmps74
  go_wp2_with fail
  refine (Kids_any x w).mono ?_
  rintro r w1 ⟨kv,rfl,hkr,hb1⟩
  have hO1:=hO.below hb1
  have hG1:=Gr.of_below (.slice oa O.length oc) hb1
  have hB1:Below base w0 w1:=hB.trans (hb1.mono hbw)
  obtain⟨ka,kc,hkv,hkc⟩:=hkr.form
  subst hkv
  have hkown:∀ g,(Value.slice ka (kids x).length kc).ownBlock=some g→w.heap.size≤g:=by
   intro g hg
   rcases hkr with ⟨_,h⟩ | ⟨g',h,h2,_⟩
   ·rw[h] at hg;cases hg
   ·rw[h] at hg;cases hg;exact h2
  have hne1:∀ g,(Value.slice ka (kids x).length kc).ownBlock=some g→(Value.slice oa O.length oc).ownBlock≠some g:=fun g hg hq=>by
   have:=(hO.low g hq).2
   have:=hkown g hg
   omega
  obtain⟨kn,hkn2⟩ : ∃ kn,kn=(kids x).length:=⟨_,rfl⟩
  have h3:=kids_len x
  rw[← hkn2] at hkr hkc h3 hkown hne1 ⊢
  have HKN:=Lib.hid hkn2
  have HKO:=Lib.hid hkown
  have HG1:=Lib.hid hG1
  have HO1:=Lib.hid hO1
  have HNE1:=Lib.hid hne1
  have hkr1:RowI w.heap.size w1 (.slice ka kn kc) (kidRow e x O.length 0):=by rw[kidRow_zero];exact hkr
  clear hkn2 hO hG1 hO1 hb1 hkr hkown hne1 c0 c1 c2 c3 c4 c5
  go_wp2_with fail
  go_loopw [0,17] (fun ov i wr=>∃ (t:Nat),i=.int .i64 t∧t≤kn∧OwnE base wr ov (O++(cat (((kids x).take t).map fun k=>T e k.toNat)).flat O.length)∧Gr w (.slice oa O.length oc) wr ov∧Below base w0 wr∧RowI w.heap.size wr (.slice ka kn kc) (kidRow e x O.length t)∧(∀ g,(Value.slice ka kn kc).ownBlock=some g→ov.ownBlock≠some g)) (fun _ i _=>kn - (intOf i).toNat)
  case atStart=>exact⟨0,rfl,Nat.zero_le _,by simpa [cat,Fo.flat] using HO1.out,HG1.out,hB1,hkr1,HNE1.out⟩
  case round =>
   obtain⟨t,rfl,ht,hO,hG,hB,hkr,hne⟩:=hrel
   clear hkr1 hB1
   obtain⟨Ot,hOt⟩ : ∃ Ot,Ot=O++(cat (((kids x).take t).map fun k=>T e k.toNat)).flat O.length:=⟨_,rfl⟩
   have hOtl:Ot.length=O.length+(cat (((kids x).take t).map fun k=>T e k.toNat)).size:=by rw[hOt,List.length_append,Fo.flat_len]
   rw[← hOt] at hO
   obtain⟨va,vc,hva,hvc⟩:=hO.form
   obtain⟨ol,hol⟩ : ∃ ol,ol=Ot.length:=⟨_,rfl⟩
   rw[← hol] at hva hvc
   subst hva
   have hsz0:=HSZ.out t
   have holb:ol≤1000000:=by omega
   by_cases hlt:t<kn
   ·obtain⟨y,hy⟩ : ∃ y,(kids x)[t]?=some y:=⟨_,List.getElem?_eq_getElem (by have:=HKN.out;omega)⟩
    have hyr:=hR i x HXX.out y (List.mem_of_getElem? hy)
    obtain⟨g,rfl,hg1,hg2,cy,fy⟩:=hkr.at (kidRow_at hR HXX.out O.length t hy)
    obtain⟨j,rfl⟩ : ∃ j:Nat,y=(j:Int):=⟨y.toNat,by omega⟩
    have hsz1:=HSZ.out (t+1)
    have HOT:Hid (Ot++(T e j).flat Ot.length=O++(cat (((kids x).take (t+1)).map fun k=>T e k.toNat)).flat O.length):=by
     show _=_
     rw[hOtl,hOt,take_at hy,List.map_append,List.map_cons,List.map_nil,cat_snoc,Fo.flat_app,List.append_assoc]
     rfl
    have HKX:Hid ((kidRow e x O.length t).set t ((O.length+(cat (((kids x).take (t+1)).map fun k=>T e k.toNat)).size:Nat) - 1:Int)=kidRow e x O.length (t+1)):=kidRow_next hR HXX.out O.length t hy
    have HS1:Hid (1≤O.length+(cat (((kids x).take (t+1)).map fun k=>T e k.toNat)).size):=by
     show _≤_
     have h1:=one_size (T_ops hR (List.getElem?_eq_getElem (by have:=HN.out;omega:j<e.length))).2
     rw[take_at hy,List.map_append,List.map_cons,List.map_nil,cat_snoc,Fo.size_app]
     show 1≤O.length+(_+(T e j).size)
     omega
    have HSZ1:=Lib.hid hsz1
    have hsz2:Ot.length+(T e j).size≤1000000:=by
     have h1:(cat (((kids x).take (t+1)).map fun k=>T e k.toNat)).size=(cat (((kids x).take t).map fun k=>T e k.toNat)).size+(T e j).size:=by
      rw[take_at hy,List.map_append,List.map_cons,List.map_nil,cat_snoc,Fo.size_app];rfl
     omega
    have hc:=HIH.out j (by omega) Ot _ wr hB (by have:=hG.size;omega) hO hsz2
    clear hsz2
    have htk:(t:Int)<(kn:Int):=by omega
    have ht0:(0:Int)≤(t:Int):=by omega
    have HGG:=Lib.hid hG
    have HKR:=Lib.hid hkr
    have HNE:=Lib.hid hne
    have HG2:=Lib.hid hg2
    have HG3:=Lib.hid hg1
    clear hy hOt hOtl hol hO hG hkr hne hsz0 hsz1 hg1 hg2
    go_wp2_with fail
    refine hc.mono ?_
    rintro r w2 ⟨v2,rfl,hO2,hGr2,hB2⟩
    clear hc cy fy
    rw[HOT.out] at hO2
    have hkr2:=hGr2.rowI HKR.out HNE.out
    have hv2:v2.ownBlock≠some g:=fun hq=>by
     rcases hGr2.own g hq with h | h
     ·exact HNE.out g rfl h
     ·have:=HG2.out;omega
    obtain⟨q,hq⟩ : ∃ q,(kidRow e x O.length t)[t]?=some q:=⟨_,List.getElem?_eq_getElem (by rw[kidRow_len hR HXX.out];have:=HKN.out;omega)⟩
    obtain⟨g',hg',hg1',hg2',cy,fy⟩:=hkr2.at hq
    cases hg'
    obtain⟨va2,vc2,hva2,hvc2⟩:=hO2.form
    obtain⟨ol2,hol2⟩ : ∃ ol2,ol2=(O++(cat (((kids x).take (t+1)).map fun k=>T e k.toNat)).flat O.length).length:=⟨_,rfl⟩
    have hol3:ol2=O.length+(cat (((kids x).take (t+1)).map fun k=>T e k.toNat)).size:=by rw[hol2,List.length_append,Fo.flat_len]
    rw[← hol2] at hva2 hvc2
    subst hva2
    have hol4:ol2≤1000000:=by have:=HSZ1.out;omega
    have hol5:(1:Int)≤(ol2:Int):=by have:=HS1.out;omega
    have HOL3:=Lib.hid hol3
    have HO2:=Lib.hid (hO2.set hv2 t (.int .i64 ((ol2:Int) - 1)))
    have HGT:=Lib.hid ((HGG.out.trans hGr2).set HG3.out t (.int .i64 ((ol2:Int) - 1)))
    have hB3:Below base w0 (w2.setCell ⟨g,t,none⟩ (.int .i64 ((ol2:Int) - 1))):=below_set hB2 (by have:=HG3.out;omega)
    have HR3:=Lib.hid (hkr2.set rfl t ((ol2:Int) - 1))
    have HV2:Hid (∀ g_1,(Value.slice (some ⟨g,0,none⟩) kn kc).ownBlock=some g_1→(Value.slice va2 ol2 vc2).ownBlock≠some g_1):=fun g_1 h=>by cases h;exact hv2
    clear hq hol2 hol3 hO2 hGr2 hkr2 hv2 hg1' hB2
    go_wp2_with fail
    go_roundw
    case rel=>exact⟨t+1,by go_num,by omega,HO2.out,HGT.out,hB3,by have h1:=HR3.out;have h2:=HKX.out;rw[← HOL3.out] at h2;rw[h2] at h1;exact h1,HV2.out⟩
    case measure=>simp[intOf];omega
   ·have hte:t=kn:=by omega
    subst hte
    have hfull:(kids x).take t=kids x:=List.take_of_length_le (by have:=HKN.out;omega)
    have hrow:kidRow e x O.length t=(cat ((kids x).map fun k=>T e k.toNat)).ends O.length:=kidRow_end x O.length t (by have:=HKN.out;omega)
    rw[hfull] at hOt
    rw[hrow] at hkr
    obtain⟨b2,o2,hab,hcell⟩:=HX.out wr hB i x HXX.out
    cases hab
    obtain⟨c0,c1,c2,c3,c4,c5⟩:=nd_cells hcell
    have hl3:((cat ((kids x).map fun k=>T e k.toNat)).ends O.length).length≤3:=by
     rw[← hrow,kidRow_len hR HXX.out];exact kids_len x
    have hw:=with_parts x _ hl3 _ wr hkr.sl
    have HFL:Hid (∀ o' a' b' c' n' s',aim x ((cat ((kids x).map fun k=>T e k.toNat)).ends O.length)=⟨o',a',b',c',n',s'⟩→O++(T e i).flat O.length=Ot++[(⟨o',a',b',c',n',s'⟩ : Nd)]):=fun o' a' b' c' n' s' h=>by
     rw[HEE.out,hOt,h,List.append_assoc]
    have HGG:=Lib.hid hG
    have HOO:=Lib.hid hO
    have HOL:=Lib.hid hol
    clear hfull hrow hOt hkr hcell hl3 hG hO hol hOtl hsz0 hne
    go_wp2_with fail
    refine hw.mono ?_
    rintro r w2 ⟨o',a',b',c',n',s',rfl,hy,hb2⟩
    have hO2:=HOO.out.below hb2
    have hG2:=HGG.out.trans (Gr.of_below (.slice va ol vc) hb2)
    have hB2:=hB.trans (hb2.mono (by have:=HGG.out.size;omega))
    have HG2:=Lib.hid hG2
    have hsz2:base≤w2.heap.size:=by have:=hG2.size;omega
    have hO3:w2.ownsRow base 85 6 (.slice va ol vc) ol (Ot.flatMap ndL):=by have:=hO2;unfold OwnE at this;rw[← HOL.out] at this;exact this
    clear hw hO2 hG2 c0 c1 c2 c3 c4 c5
    go_wp2_with (at_builtin;refine wpList_app rowNd rfl _ _ rfl base _ _ _ rfl (hO3.alloc _) ⟨w2.heap.size,0,none⟩ 1 [.int .i64 o',.int .i64 a',.int .i64 b',.int .i64 c',.int .i64 n',.string s'] rfl rfl ?c1 ?c2 ?c3 ?c4 (w2.heap.size+1) ?c5 ?_)
    case c1=>exact World.news_of_block (heap_alloc_new w2 _)
    case c2=>simp[Value.oneCell']
    case c3=>omega
    case c4=>simp;omega
    case c5=>simp
    intro g cap w4 hown hgrow hat hlt2 hcap
    have hgr:Gr w2 (.slice va ol vc) w4 (.slice (some ⟨g,0,none⟩) (ol+1) cap):=by
     refine (Gr.of_below (.slice va ol vc) ((Below.refl w2.heap.size w2).alloc (Nat.le_refl _) _)).trans (Gr.of_grown hgrow fun g' hg'=>?_)
     cases hg'
     rcases hat with h | h
     ·exact Or.inl h
     ·exact Or.inr (by rw[h];simp)
    have HF1:=Lib.hid (HG2.out.trans hgr)
    have hB4:Below base w0 w4:=Gr.below hB2 hgr hsz2 (fun g' hg'=>(World.ownsRow.lt hO3 g' hg').1)
    have HOW:=Lib.hid hown
    clear hown hgrow hat hgr hO3
    go_wp2_with fail
    go_ret
    refine⟨_,rfl,?_,HF1.out,hB4⟩
    have e1:=HFL.out _ _ _ _ _ _ hy.out
    rw[e1]
    unfold OwnE
    rw[List.length_append,List.flatMap_append,← HOL.out]
    exact HOW.out
end Go.Proofs.YtmacepicoandkaaGreatDoor
