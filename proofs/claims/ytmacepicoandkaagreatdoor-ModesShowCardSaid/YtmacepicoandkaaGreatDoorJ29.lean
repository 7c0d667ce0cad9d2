/- The program's cut: a node that is cut at; the whole: the walk. Split: the walk. The reference's splitter: a node that is cut at: the walk. The reference's splitter: Split: the walk. -/
import Derived.Deep.RegionHeld3
import Derived.IntWalk
import Derived.Deep.DeepMust
import Derived.Test.YtmacepicoandkaaGreatDoorJ28
set_option linter.unusedVariables false
set_option linter.unusedSimpArgs false
namespace Go.Proofs.YtmacepicoandkaaGreatDoor
open Go.RowKit Go.Shelf Tx
theorem RwE.gr {base b2 n:Nat} {w w':World} {v u u':Value} {vs:List Value} {L:List (List Nd)} (h:RwE base w v L) (hg:Gr w u w' u') (hu:w.ownsRow b2 54 1 u n vs) (hd:∀ g,u.ownBlock=some g→v.ownBlock≠some g):RwE base w' v L:=by
 obtain⟨vs',h1,h2⟩:=h
 refine⟨vs',row_kept h1 (fun g _ he hl=>hg.block g hl (fun e=>hd g e he)),fun i x e hx he=>?_⟩
 have ho:=h2 i x e hx he
 refine row_kept ho (fun g _ hb hl=>hg.block g hl (fun e'=>?_))
 rcases row_apart ho hu (by decide) with h | h
 ·rw[h] at hb;cases hb
 ·exact h (hb.trans e'.symm)
theorem logic_kids {op a b c n:Int} {s:ByteArray} (h:Ux.isLogic op=true):(kids (leaf op n s)).length=(kids ⟨op,a,b,c,n,s⟩).length:=by
 have h2:op=2∨op=4∨(6≤op∧op≤9)∨op=26:=by
  unfold Ux.isLogic at h;simp at h;omega
 unfold kids leaf
 rcases h2 with h | h | h | h
 ·simp[h]
 ·simp[h]
 ·simp only[]
  rw[if_neg (by omega),if_neg (by omega),if_neg (by omega),if_pos (by omega),if_neg (by omega),if_neg (by omega),if_neg (by omega),if_pos (by omega)];rfl
 ·simp[h]
def kidT (e:List Nd) (x:Nd) (t:Nat):Fo:=cat (((kids x).take t).map fun k=>T e k.toNat)
theorem kidT_next {e:List Nd} {x:Nd} {t:Nat} {k:Int} (hk:(kids x)[t]?=some k):kidT e x (t+1)=(kidT e x t).app (T e k.toNat):=by
 unfold kidT;rw[take_at hk,List.map_append,List.map_cons,List.map_nil,cat_snoc]
theorem kidT_size (e:List Nd) (x:Nd) (t:Nat):(kidT e x t).size≤(kidT e x (kids x).length).size:=by
 unfold kidT
 have h:=sum_take ((kids x).map fun k=>T e k.toNat) t
 rw[List.take_length]
 rw[List.map_take];exact h
theorem kidT_tree {e:List Nd} {i:Nat} {x:Nd} (hR:InR e) (hx:e[i]?=some x):T e i=.tr x.op x.n x.s (kidT e x (kids x).length) .no:=by
 rw[T_at hx (hR i x hx)];unfold kidT;rw[List.take_length]
set_option maxRecDepth 100000 in
set_option maxHeartbeats 8000000 in
theorem cut_logic (e:List Nd) (base sp i:Nat) (A:List (List Nd)) (w:World) (ev av:Value) (x:Nd) (hx:e[i]?=some x) (hl:Ux.isLogic x.op=true) (h:CutIn e base sp i A w ev av)
  (IH:Hid (∀ j,j<i→∀ A w av,CutIn e base sp j A w ev av→Calls Tryz.prog 51 #[.pointer (some ⟨sp,0,none⟩),ev,.int .i64 j] w (CutPost e base sp j A w av))) :
  Calls Tryz.prog 51 #[.pointer (some ⟨sp,0,none⟩),ev,.int .i64 i] w (CutPost e base sp i A w av):=by
 obtain⟨a,c,rfl,hc⟩:=h.row.form
 obtain⟨n,hn⟩ : ∃ n,n=e.length:=⟨_,rfl⟩
 have hR:=(mayB_iff e).1 h.may |>.inR
 have hin:=hR i x hx
 have htree:=kidT_tree hR hx
 have HT:=Lib.hid htree
 have hTs:=T_size hR ((mayB_iff e).1 h.may).nodup h.lt
 have hKS:(kidT e x (kids x).length).size+1≤5000:=by
  have h1:=hTs
  rw[htree] at h1;simp only[Fo.size] at h1
  have:=h.lt;have:=h.few;omega
 have HKS:Hid ((T e i).size=(kidT e x (kids x).length).size+1):=by show _=_;rw[htree];simp[Fo.size]
 obtain⟨a1,c1,hf1,-,hcell⟩:=h.row.isE.form
 cases hf1
 obtain⟨b,o,rfl,hg⟩:=hcell w (Below.refl _ _) i x hx
 obtain⟨k0,k1,k2,k3,k4,k5⟩:=nd_cells hg
 rw[← hn] at hc ⊢
 have hlt:(i:Int)<(n:Int):=by have:=h.lt;omega
 have hi0:(0:Int)≤(i:Int):=by omega
 obtain⟨xop,xa,xb,xc,xn,xs⟩:=x
 simp only[] at k0 k1 k2 k3 k4 k5 hl
 have nb:=(Below.refl w.heap.size w).alloc (Nat.le_refl _) (.cells #[.int .i64 xop,.int .i64 xa,.int .i64 xb,.int .i64 xc,.int .i64 xn,.string xs] 85)
 have kb:=Blk.new w #[.int .i64 xop,.int .i64 xa,.int .i64 xb,.int .i64 xc,.int .i64 xn,.string xs] 85
 have HIN:=Lib.hid h
 have HN:=Lib.hid hn
 have HL:=Lib.hid hl
 have HINR:=Lib.hid hin
 have hlg:=fun W=>isLogic_any xop W
 rw[hl] at hlg
 have HKB:=Lib.hid kb
 have HNB0:=Lib.hid nb
 have hspw:=h.here.lt
 have hspb:=h.sp
 clear hcell hg h hR hx hl hn htree hTs hin kb
 go_enter Tryz.func51,Tryz.ntmps51
 go_wp2_with fail
 refine (hlg _).mono ?_
 rintro r w1 ⟨rfl,hw1⟩
 have hb1:Below w.heap.size w w1:=by rw[hw1];exact nb
 have hkb1:Blk w1 w.heap.size #[.int .i64 xop,.int .i64 xa,.int .i64 xb,.int .i64 xc,.int .i64 xn,.string xs] 85:=by rw[hw1];exact HKB.out
 obtain⟨p0,p1,p2,p3,p4,p5⟩:=six_cells hkb1
 have HB1:=Lib.hid hb1
 have HKB1:=Lib.hid hkb1
 clear hlg hw1 nb hb1 hkb1 k0 k1 k2 k3 k4 k5
 go_wp2_with fail
 refine (Kids_any ⟨xop,xa,xb,xc,xn,xs⟩ w1).mono ?_
 rintro r w2 ⟨kv,rfl,hkr,hb2⟩
 obtain⟨ka,kc,hkv,hkc⟩:=hkr.form
 obtain⟨kn,hkn⟩ : ∃ kn,kn=(kids ⟨xop,xa,xb,xc,xn,xs⟩).length:=⟨_,rfl⟩
 have hk3:=kids_len ⟨xop,xa,xb,xc,xn,xs⟩
 rw[← hkn] at hkv hkc hk3
 subst hkv
 have hB2:=below_next HB1.out hb2
 have HB2:=Lib.hid hB2
 have HSP2:=Lib.hid (HIN.out.here.below hB2)
 have HAT2:=Lib.hid (HIN.out.atoms.below hB2)
 have HRW2:=Lib.hid (HIN.out.row.below hB2)
 have HKR:=Lib.hid hkr
 have HKB2:=Lib.hid (HKB1.out.below hb2)
 have HKN:=Lib.hid hkn
 obtain⟨nb,hnb⟩ : ∃ nb,nb=w2.heap.size:=⟨_,rfl⟩
 have HNB:=Lib.hid hnb
 have hnbs:sp<nb:=by have:=hB2.size;omega
 have hnbw0:w.heap.size≤nb:=by have:=hB2.size;omega
 clear hb2 hB2 hkr hkn p0 p1 p2 p3 p4 p5 hnb HKB1 HB1
 go_wp2_with fail
 go_loopw [8,23] (fun pv iv wr=>∃ (t:Nat) (Fs:List Fo) (av':Value),iv=.int .i64 t∧t≤kn∧RwE nb wr pv (Fs.map (Fo.flat 0))∧Fs.length=t∧(∀ F∈Fs,F.count=1)∧cat Fs=(Ux.cutF (kidT e ⟨xop,xa,xb,xc,xn,xs⟩ t) A).1 ∧
  Blk wr sp #[av'] Tsp∧RwE base wr av' (Ux.cutF (kidT e ⟨xop,xa,xb,xc,xn,xs⟩ t) A).2∧Gs sp w2 av wr av'∧(∀ g,pv.ownBlock=some g→av'.ownBlock≠some g)) (fun _ iv _=>kn - (intOf iv).toNat)
 case atStart=>exact⟨0,[],av,rfl,Nat.zero_le _,RwE.nil_ _ _,rfl,(fun F hF=>by simp at hF),rfl,HSP2.out,HAT2.out,Gs.refl _ _ _,fun g hg=>by cases hg⟩
 case round =>
  obtain⟨t,Fs,av',rfl,ht,hP,hFl,hF1,hcat,hS,hA,hG,hd⟩:=hrel
  have hbase:base≤wr.heap.size:=by have:=hS.lt;omega
  have hkr:=hG.rowI HSP2.out HAT2.out HKR.out
  have hrw:=hG.ownE HSP2.out HAT2.out HRW2.out
  have hkb:=hG.blk HSP2.out HAT2.out HKB2.out (by decide) (by decide)
  have hnbw:nb≤wr.heap.size:=by have:=hG.size;have:=HNB.out;omega
  by_cases hlt2:t<kn
  ·obtain⟨k,hk⟩ : ∃ k,(kids ⟨xop,xa,xb,xc,xn,xs⟩)[t]?=some k:=⟨_,List.getElem?_eq_getElem (by have:=HKN.out;omega)⟩
   obtain⟨hk0,hki⟩:=HINR.out k (List.mem_of_getElem? hk)
   obtain⟨j,rfl⟩ : ∃ j:Nat,k=(j:Int):=⟨k.toNat,by omega⟩
   have hji:j<i:=by omega
   obtain⟨g,rfl,hg1,hg2,cy,-⟩:=hkr.at hk
   have HKT:=Lib.hid (kidT_next (e:=e) hk)
   obtain⟨vs,hrow,hvs⟩:=hP.row
   obtain⟨pa,pc,hpv,hpc⟩:=hP.len
   rw[List.length_map,hFl] at hrow hpc hpv
   subst hpv
   have hsz:=kidT_size e ⟨xop,xa,xb,xc,xn,xs⟩ (t+1)
   rw[HKT.out,Fo.size_app] at hsz
   have hTk:((j:Int)).toNat=j:=by simp
   rw[hTk] at hsz HKT
   have hlenA:=Ux.cut_len (kidT e ⟨xop,xa,xb,xc,xn,xs⟩ t) A
   have hcin:CutIn e base sp j (Ux.cutF (kidT e ⟨xop,xa,xb,xc,xn,xs⟩ t) A).2 wr (.slice (some ⟨b,o,none⟩) e.length c) av' :=
    {may:=HIN.out.may,few:=HIN.out.few,lt:=by have:=HIN.out.lt;omega,row:=hrw,here:=hS,atoms:=hA,sp:=HIN.out.sp
     many:=by have:=HIN.out.many;have:=HKS.out;omega
     lens:=fun y hy=>by
      rcases cut_lens _ _ y hy with h | h
      ·exact HIN.out.lens y h
      ·omega
     gl:=by
      obtain⟨w0,g0,hb0,hs0⟩:=HIN.out.gl
      exact⟨w0,g0,hG.below (hb0.trans (HB2.out.mono hb0.size)) (Nat.le_trans hb0.size HB2.out.size) (Nat.le_trans hs0 HIN.out.sp) (fun g hg=>Nat.le_trans hs0 (HAT2.out.low g hg).1),hs0⟩ }
   have hcall:=IH.out j hji _ wr av' hcin
   rw[← HN.out] at hcall
   have HS:=Lib.hid hS
   have HA:=Lib.hid hA
   have HG:=Lib.hid hG
   have HP:=Lib.hid hP
   have HD:=Lib.hid hd
   have HF1:=Lib.hid hF1
   have HFL:=Lib.hid hFl
   have HCAT:=Lib.hid hcat
   have HONE:Hid ((T e j).count=1):=by
    obtain⟨y,hy⟩ : ∃ y,e[j]?=some y:=⟨_,List.getElem?_eq_getElem (by have:=HIN.out.lt;omega)⟩
    exact (T_ops ((mayB_iff e).1 HIN.out.may).inR hy).2
   have htk:(t:Int)<(kn:Int):=by omega
   have ht0:(0:Int)≤(t:Int):=by omega
   clear hS hA hG hP hd hF1 hFl hcat hk hkr hrw hkb hcin hrow hvs hlenA hsz hTk
   go_wp2_with fail
   refine hcall.mono ?_
   rintro r w3 ⟨v3,av3,rfl,ho3,hS3,hA3,hG3⟩
   obtain⟨hP3,hd3⟩:=hG3.rwE HS.out HA.out HP.out HD.out
   obtain⟨F3,hF3⟩ : ∃ F3,F3=(Ux.cutF (T e j) (Ux.cutF (kidT e ⟨xop,xa,xb,xc,xn,xs⟩ t) A).2).1:=⟨_,rfl⟩
   rw[← hF3] at ho3
   obtain⟨ya,yc,rfl,hyc⟩:=ho3.form
   obtain⟨yl,hyl⟩ : ∃ yl,yl=(F3.flat 0).length:=⟨_,rfl⟩
   rw[← hyl] at ho3 hyc ⊢
   obtain⟨vs,hrow,hvs⟩:=hP3.row
   rw[List.length_map,HFL.out] at hrow
   have hn3:nb≤w3.heap.size:=by have:=hG3.size;omega
   have HO3:=Lib.hid (ho3.mono (b2:=nb) hnbw)
   have HS3:=Lib.hid hS3
   have HA3:=Lib.hid hA3
   have HG3:=Lib.hid (HG.out.trans hG3)
   have HVS:=Lib.hid hvs
   have HD3:=Lib.hid hd3
   have HF3:=Lib.hid hF3
   have hb3:t≤3:=by omega
   have HP3:=Lib.hid hP3
   have HLOW:=Lib.hid (fun g hg=>hP3.low g hg)
   clear hcall ho3 hS3 hA3 hG3 hvs hd3 hF3 hyl HS HA HG HP HD hP3 cy
   go_wp2_with (at_builtin;refine wpList_app rowE rfl _ _ rfl nb _ _ _ rfl (hrow.alloc _) ⟨w3.heap.size,0,none⟩ 1 [.slice ya yl yc] rfl rfl ?c1 ?c2 ?c3 ?c4 (w3.heap.size+1) ?c5 ?_)
   case c1=>exact World.news_of_block (heap_alloc_new w3 _)
   case c2=>simp[Value.oneCell']
   case c3=>omega
   case c4=>simp;omega
   case c5=>simp
   intro g4 cap w4 hown hgrow hat hlt4 hcap
   have hgr:Gr w3 (.slice pa t pc) w4 (.slice (some ⟨g4,0,none⟩) (t+1) cap):=gr_append hgrow hat
   have HP4:Hid (RwE nb w4 (.slice (some ⟨g4,0,none⟩) (t+1) cap) ((Fs++[F3]).map (Fo.flat 0))):=by
    show RwE _ _ _ _
    rw[List.map_append]
    exact RwE.push (by rw[List.length_map,HFL.out]) hrow HVS.out HO3.out hown hgrow
   have HS4:Hid (Blk w4 sp #[av3] Tsp):=hgr.blk HS3.out (fun h=>by have:=(HLOW.out sp h).1;omega)
   have HA4:=Lib.hid (HA3.out.gr hgr hrow HD3.out)
   have HG4:Hid (Gs sp w2 av w4 av3):=by
    refine⟨hgr.os.trans HG3.out.os,hgr.tape.trans HG3.out.tape,hgr.output.trans HG3.out.output,Nat.le_trans HG3.out.size hgr.size,fun k hk hks hn=>?_,HG3.out.own⟩
    rw[hgr.block k (Nat.lt_of_lt_of_le hk HG3.out.size) (fun e=>by have:=(HLOW.out k e).1;have:=HNB.out;omega),HG3.out.block k hk hks hn]
   have HD4:Hid (∀ g,(Value.slice (some ⟨g4,0,none⟩) (t+1) cap).ownBlock=some g→av3.ownBlock≠some g):=fun g hg e=>by
    cases hg
    rcases hat with h | h
    ·exact HD3.out g4 h e
    ·have:=(HA3.out.low g4 e).2;omega
   have HC4:Hid (cat (Fs++[F3])=(Ux.cutF (kidT e ⟨xop,xa,xb,xc,xn,xs⟩ (t+1)) A).1∧(Ux.cutF (T e j) (Ux.cutF (kidT e ⟨xop,xa,xb,xc,xn,xs⟩ t) A).2).2=(Ux.cutF (kidT e ⟨xop,xa,xb,xc,xn,xs⟩ (t+1)) A).2):=by
    show _∧_
    rw[HKT.out,Ux.cut_app,cat_snoc,HCAT.out,HF3.out];exact⟨rfl,rfl⟩
   have HF4:Hid (∀ F∈Fs++[F3],F.count=1):=fun F hF=>by
    rcases List.mem_append.1 hF with h | h
    ·exact HF1.out F h
    ·rw[List.mem_singleton.1 h,HF3.out,Ux.cut_count];exact HONE.out
   clear hown hgrow hat hgr hrow hlt4 hcap
   go_wp2_with fail
   go_roundw
   case rel=>exact⟨t+1,Fs++[F3],av3,by go_num,by omega,HP4.out,by rw[List.length_append,HFL.out];rfl,HF4.out,HC4.out.1,HS4.out,by rw[← HC4.out.2];exact HA4.out,HG4.out,HD4.out⟩
   case measure=>simp[intOf];omega
  ·have hte:t=kn:=by omega
   subst hte
   have hcs:=hkb
   obtain⟨p0,p1,p2,p3,p4,p5⟩:=six_cells hcs
   have HF:Hid ((Ux.cutF (T e i) A).1=.tr xop xn ByteArray.empty (cat Fs) .no∧(Ux.cutF (T e i) A).2=(Ux.cutF (kidT e ⟨xop,xa,xb,xc,xn,xs⟩ t) A).2):=by
    show _∧_
    rw[HT.out,hcat,HKN.out]
    simp only[Ux.cutF,HL.out,if_true,and_self]
   have hops:=Ux.logic_ops HL.out
   obtain⟨pa,pc,hpv,-⟩:=hP.len
   rw[List.length_map,hFl] at hpv
   subst hpv
   have hcsz:(cat Fs).size≤5000:=by
    rw[hcat]
    have:=Ux.cut_size (kidT e ⟨xop,xa,xb,xc,xn,xs⟩ t) A
    have:=kidT_size e ⟨xop,xa,xb,xc,xn,xs⟩ t
    omega
   have hj:=Join_any xop xn ByteArray.empty Fs (.slice pa t pc) wr (hP.sg fun u F h=>⟨u,rfl,h.isE⟩) hF1 (by omega) (by omega) (fun _=>by rw[logic_kids (a:=xa) (b:=xb) (c:=xc) (s:=ByteArray.empty) HL.out,hFl];exact HKN.out.symm)
   have hjf:joinF xop xn ByteArray.empty Fs=.tr xop xn ByteArray.empty (cat Fs) .no:=by unfold joinF;rw[if_neg hops.1]
   rw[hjf] at hj
   have HS:=Lib.hid hS
   have HA:=Lib.hid hA
   have HG:Hid (Gs sp w av wr av'):=(Gs.of_below _ HB2.out).trans hG
   clear hS hA hG hP hd hF1 hFl hcat hkr hrw hkb hcs hjf hcsz hops
   go_wp2_with fail
   refine hj.mono ?_
   rintro r w3 ⟨v3,rfl,ho3,hb3⟩
   have HS3:=Lib.hid (HS.out.below hb3)
   have HA3:=Lib.hid (HA.out.below hb3)
   have HG3:=Lib.hid (HG.out.then hb3)
   have HO3:=Lib.hid (ho3.mono (b2:=w.heap.size) HG.out.size)
   clear hj ho3 hb3 p0 p1 p2 p3 p4 p5
   go_wp2_with fail
   go_ret
   exact⟨v3,av',rfl,by rw[HF.out.1];exact HO3.out,HS3.out,by rw[HF.out.2];exact HA3.out,HG3.out⟩
theorem cut_any (e:List Nd) (base sp:Nat) (ev:Value):∀ (i:Nat) (A:List (List Nd)) (w:World) (av:Value),CutIn e base sp i A w ev av →
  Calls Tryz.prog 51 #[.pointer (some ⟨sp,0,none⟩),ev,.int .i64 i] w (CutPost e base sp i A w av):=by
 intro i
 induction i using Nat.strongRecOn with
 | _ i ih =>
  intro A w av h
  obtain⟨x,hx⟩ : ∃ x,e[i]?=some x:=⟨_,List.getElem?_eq_getElem h.lt⟩
  cases hl:Ux.isLogic x.op with
  | false=>exact cut_leaf e base sp i A w ev av x hx hl h
  | true=>exact cut_logic e base sp i A w ev av x hx hl h (Lib.hid (fun j hj A w av h=>ih j hj A w av h))
end Go.Proofs.YtmacepicoandkaaGreatDoor
namespace Go.Proofs.YtmacepicoandkaaGreatDoor
open Go.RowKit Go.Shelf Tx
def treeL (e:List Nd):Fo:=T e (e.length - 1)
def splitT (l:List (List Nd)):List Fo×List (List Nd):=l.foldl (fun st e=>(st.1++[(Ux.cutF (treeL e) st.2).1],(Ux.cutF (treeL e) st.2).2)) ([],[])
theorem splitT_snoc (l:List (List Nd)) (e:List Nd):splitT (l++[e])=((splitT l).1++[(Ux.cutF (treeL e) (splitT l).2).1],(Ux.cutF (treeL e) (splitT l).2).2):=by simp[splitT,List.foldl_append]
theorem splitT_next {l:List (List Nd)} {t:Nat} {e:List Nd} (h:l[t]?=some e):splitT (l.take (t+1))=((splitT (l.take t)).1++[(Ux.cutF (treeL e) (splitT (l.take t)).2).1],(Ux.cutF (treeL e) (splitT (l.take t)).2).2):=by
 rw[take_at h,splitT_snoc]
theorem splitT_len (l:List (List Nd)):(splitT l).1.length=l.length:=by
 induction l using snoc_ind with
 | h0=>rfl
 | h1 l e ih=>rw[splitT_snoc];simp[ih]
theorem splitT_few (M:Nat) (l:List (List Nd)):(∀ e∈l,(treeL e).size≤M)→(splitT l).2.length≤l.length * M∧∀ y∈(splitT l).2,y.length≤M:=by
 induction l using snoc_ind with
 | h0=>intro _;exact⟨by simp[splitT],fun y hy=>by simp[splitT] at hy⟩
 | h1 l e ih =>
  intro h
  obtain⟨h1,h2⟩:=ih (fun e he=>h e (by simp[he]))
  have h3:=h e (by simp)
  have h4:=Ux.cut_len (treeL e) (splitT l).2
  rw[splitT_snoc]
  refine⟨?_,fun y hy=>?_⟩
  ·simp only[List.length_append,List.length_singleton]
   rw[Nat.add_mul];omega
  ·rcases cut_lens _ _ y hy with h | h
   ·exact h2 y h
   ·omega
def splitR (l:List (List Nd)):List (List Nd)×List (List Nd)×Int :=
 if l.any (fun e=>!mayB e) then ([],[],1) else if 30<(splitT l).2.length then ([],[],7) else ((splitT l).2,(splitT l).1.map (Fo.flat 0),0)
def SplitPost (l:List (List Nd)) (w:World) (r:Ending) (w':World):Prop :=
 ∃ u v,r=.returned (.tuple #[u,v,.int .i64 (splitR l).2.2])∧RwE w.heap.size w' u (splitR l).1∧RwE w.heap.size w' v (splitR l).2.1∧Below w.heap.size w w'
theorem may_size {e:List Nd} (h:mayB e=true):(treeL e).size=e.length:=((mayB_iff e).1 h).size
theorem may_norm {e:List Nd} (h:mayB e=true):mayB ((treeL e).flat 0)=true:=norm_may ((mayB_iff e).1 h)
theorem tree_norm {e:List Nd} (h:mayB e=true):T ((treeL e).flat 0) (((treeL e).flat 0).length - 1)=treeL e:=by
 obtain⟨a,b,_⟩:=((mayB_iff e).1 h).tree
 rw[Fo.flat_len];exact T_flat0 a b
set_option maxRecDepth 100000 in
set_option maxHeartbeats 8000000 in
theorem Split_any (l:List (List Nd)) (v:Value) (w:World) (hl:l.length≤100) (hM:∀ e∈l,e.length≤1000) (hv:Sg 1 IsL w v l) (G:Gl w) :
  Calls Tryz.prog 23 #[v] w (SplitPost l w):=by
 have hcon:=containsMay_any l v w (by omega) hv (fun y hy=>by have:=hM y hy;omega)
 obtain⟨a,c,rfl,hc,hx⟩:=hv.form keepsL
 obtain⟨n,hn⟩ : ∃ n,n=l.length:=⟨_,rfl⟩
 rw[← hn] at hc hl hcon ⊢
 obtain⟨bad,hbad⟩ : ∃ bad,bad=l.any (fun y=>!mayB y):=⟨_,rfl⟩
 rw[← hbad] at hcon
 have HN:=Lib.hid hn
 have HX:=Lib.hid hx
 have HBAD:=Lib.hid hbad
 have HG:=Lib.hid G
 clear hn hx hv hbad G
 go_enter Tryz.func23,Tryz.ntmps23
 go_wp2_with fail
 refine hcon.mono ?_
 rintro r w1 ⟨rfl,hb1⟩
 have HB1:=Lib.hid hb1
 clear hcon
 cases bad
 ·have HMAY:Hid (∀ e∈l,mayB e=true):=fun e he=>by
   have:=List.any_eq_false.1 HBAD.out.symm e he
   simpa using this
  have nb1:=(Below.refl w1.heap.size w1).alloc (Nat.le_refl _) (.cells #[.slice none 0 0] Tsp)
  have ks:=Blk.new w1 #[.slice none 0 0] Tsp
  obtain⟨W1,hW1⟩ : ∃ W1,W1=w1.alloc (.cells #[.slice none 0 0] Tsp):=⟨_,rfl⟩
  rw[← hW1] at ks nb1
  have HW1:=Lib.hid hW1
  have HKS:=Lib.hid ks
  have HNB1:=Lib.hid nb1
  obtain⟨sp,hsp⟩ : ∃ sp,sp=w1.heap.size:=⟨_,rfl⟩
  have HSP:=Lib.hid hsp
  have hspw:w.heap.size≤sp:=by rw[hsp];exact hb1.size
  clear hW1 ks nb1 hb1 hsp
  go_wp2_with fail
  rw[← HW1.out,← HSP.out]
  clear HW1
  go_loopw [6,15] (fun ov iv wr=>∃ (t:Nat) (av':Value),iv=.int .i64 t∧t≤n∧RwE sp wr ov ((splitT (l.take t)).1.map (Fo.flat 0))∧Blk wr sp #[av'] Tsp∧RwE sp wr av' (splitT (l.take t)).2∧Below sp w1 wr∧(∀ g,ov.ownBlock=some g→av'.ownBlock≠some g)) (fun _ iv _=>n - (intOf iv).toNat)
  case atStart=>exact⟨0,.slice none 0 0,rfl,Nat.zero_le _,RwE.nil_ _ _,by rw[HSP.out];exact HKS.out,RwE.nil_ _ _,by rw[HSP.out];exact HNB1.out,fun g hg=>by cases hg⟩
  case round =>
   obtain⟨t,av',rfl,ht,hP,hS,hA,hB,hd⟩:=hrel
   have hspl:=hS.lt
   obtain⟨pa,pc,hpv,hpc⟩:=hP.len
   rw[List.length_map,splitT_len,List.length_take,Nat.min_eq_left (by have:=HN.out;omega)] at hpv hpc
   subst hpv
   have hBw:Below w.heap.size w wr:=HB1.out.trans (hB.mono hspw)
   by_cases hlt:t<n
   ·obtain⟨e,he⟩ : ∃ e,l[t]?=some e:=⟨_,List.getElem?_eq_getElem (by have:=HN.out;omega)⟩
    have hmem:=List.mem_of_getElem? he
    have hmay:=HMAY.out e hmem
    have hel:=hM e hmem
    obtain⟨b,o,cs,rfl,⟨u,rfl,hu⟩,hcell⟩:=HX.out wr hBw t e he
    have cu:=hcell 0 u rfl
    simp only[Nat.mul_one,Nat.add_zero] at cu
    have hne:=(may_one hmay).2.2.2
    have hsub:=Sub_any e u ((e.length:Int) - 1) wr (by omega) hu
    rw[sub_last hmay] at hsub
    obtain⟨ua,uc,rfl,-,-⟩:=hu.form
    obtain⟨el,hel2⟩ : ∃ el,el=e.length:=⟨_,rfl⟩
    rw[← hel2] at cu hel hne hsub
    have HEL:=Lib.hid hel2
    have HMY:=Lib.hid hmay
    have HNX:=Lib.hid (splitT_next he)
    have htn:(t:Int)<(n:Int):=by omega
    have ht0:(0:Int)≤(t:Int):=by omega
    have HP:=Lib.hid hP
    have HS:=Lib.hid hS
    have HA:=Lib.hid hA
    have HB:=Lib.hid hB
    have HD:=Lib.hid hd
    have HBW:=Lib.hid hBw
    clear he hmem hmay hcell hu hel2 hP hS hA hB hd hBw
    go_wp2_with fail
    refine hsub.mono ?_
    rintro r w2 ⟨ev,rfl,hE,hb2⟩
    obtain⟨ea,ec,hev,hec⟩:=hE.form
    have hTe:T e (el - 1)=treeL e:=by rw[HEL.out];rfl
    rw[hTe] at hE hev hec
    have hEl:((treeL e).flat 0).length=el:=by
     rw[Fo.flat_len,HEL.out];exact may_size HMY.out
    rw[hEl] at hev hec
    subst hev
    obtain⟨E,hEE⟩ : ∃ E,E=(treeL e).flat 0:=⟨_,rfl⟩
    rw[← hEE] at hE hEl
    have hfew:=splitT_few 1000 (l.take t) (fun y hy=>by
     have h1:=List.mem_of_mem_take hy
     rw[may_size (HMAY.out y h1)];exact hM y h1)
    have htr:T E (E.length - 1)=treeL e:=by rw[hEE];exact tree_norm HMY.out
    have hll:(l.take t).length≤100:=by rw[List.length_take];omega
    have hmul:(l.take t).length * 1000≤100000:=by omega
    have hcin:CutIn E sp sp (el - 1) (splitT (l.take t)).2 w2 (.slice ea el ec) av' :=
     {may:=by rw[hEE];exact may_norm HMY.out
      few:=by rw[hEl];omega
      lt:=by rw[hEl];omega
      row:=hE.mono (Nat.le_of_lt hspl)
      here:=HS.out.below hb2
      atoms:=HA.out.below hb2
      sp:=Nat.le_refl _
      many:=by
       have h1:el - 1=E.length - 1:=by rw[hEl]
       rw[h1,htr,may_size HMY.out]
       have:=HEL.out
       have:=hfew.1
       omega
      lens:=fun y hy=>by have:=hfew.2 y hy;omega
      gl:=⟨w,HG.out,below_next HBW.out hb2,hspw⟩ }
    have hcall:=cut_any E sp sp (.slice ea el ec) (el - 1) (splitT (l.take t)).2 w2 av' hcin
    have HTR:Hid (T E (el - 1)=treeL e):=by
     show _=_
     rw[← htr,hEl,HEL.out]
    have hcast:((el - 1:Nat):Int)=(el:Int) - 1:=by omega
    rw[hcast] at hcall
    have HS2:=Lib.hid (HS.out.below hb2)
    have HA2:=Lib.hid (HA.out.below hb2)
    have HP2:=Lib.hid (HP.out.below hb2)
    have HB2:=Lib.hid (HB.out.trans (hb2.mono (Nat.le_of_lt hspl)))
    have HSZ2:Hid (wr.heap.size≤w2.heap.size):=hb2.size
    clear hsub hE hb2 hTe hEl hEE hfew htr hcin hcast hmul hll HS HA HP HB hec cu
    go_wp2_with fail
    refine hcall.mono ?_
    rintro r w3 ⟨v3,av3,rfl,ho3,hS3,hA3,hG3⟩
    obtain⟨hP3,hd3⟩:=hG3.rwE HS2.out HA2.out HP2.out HD.out
    rw[HTR.out] at ho3 hA3
    obtain⟨F3,hF3⟩ : ∃ F3,F3=(Ux.cutF (treeL e) (splitT (l.take t)).2).1:=⟨_,rfl⟩
    rw[← hF3] at ho3
    obtain⟨ya,yc,rfl,hyc⟩:=ho3.form
    obtain⟨yl,hyl⟩ : ∃ yl,yl=(F3.flat 0).length:=⟨_,rfl⟩
    rw[← hyl] at ho3 hyc ⊢
    have hlen3:((splitT (l.take t)).1.map (Fo.flat 0)).length=t:=by
     rw[List.length_map,splitT_len,List.length_take];have:=HN.out;omega
    obtain⟨vs,hrow,hvs⟩:=hP3.row
    rw[hlen3] at hrow
    have hn3:sp≤w3.heap.size:=by have:=hS3.lt;omega
    have HO3:=Lib.hid (ho3.mono (b2:=sp) (by have:=HSZ2.out;omega))
    have HS3:=Lib.hid hS3
    have HA3:=Lib.hid hA3
    have HB3:Hid (Below sp w1 w3):=hG3.below HB2.out (by have:=HSZ2.out;omega) (Nat.le_refl _) (fun g hg=>(HA2.out.low g hg).1)
    have HVS:=Lib.hid hvs
    have HD3:=Lib.hid hd3
    have HF3:=Lib.hid hF3
    have HLEN3:=Lib.hid hlen3
    have HLOW:=Lib.hid (fun g hg=>hP3.low g hg)
    have HNS:Hid ((Value.slice pa t pc).ownBlock≠some sp):=fun e=>by
     rcases hrow.2 with ⟨h1,_⟩ | ⟨g,cap,cur,h1,_,hg,_⟩
     ·rw[h1] at e;cases e
     ·rw[h1] at e;cases e
      have:=hS3;unfold Blk at this;rw[this] at hg;cases hg
    clear hcall ho3 hS3 hA3 hG3 hvs hd3 hF3 hyl hP3 hlen3 HS2 HA2 HP2 HB2 HD
    go_wp2_with (at_builtin;refine wpList_app rowE rfl _ _ rfl sp _ _ _ rfl (hrow.alloc _) ⟨w3.heap.size,0,none⟩ 1 [.slice ya yl yc] rfl rfl ?c1 ?c2 ?c3 ?c4 (w3.heap.size+1) ?c5 ?_)
    case c1=>exact World.news_of_block (heap_alloc_new w3 _)
    case c2=>simp[Value.oneCell']
    case c3=>omega
    case c4=>simp;omega
    case c5=>simp
    intro g4 cap w4 hown hgrow hat hlt4 hcap
    have hgr:Gr w3 (.slice pa t pc) w4 (.slice (some ⟨g4,0,none⟩) (t+1) cap):=gr_append hgrow hat
    have HP4:Hid (RwE sp w4 (.slice (some ⟨g4,0,none⟩) (t+1) cap) ((splitT (l.take (t+1))).1.map (Fo.flat 0))):=by
     show RwE _ _ _ _
     rw[HNX.out,List.map_append,List.map_cons,List.map_nil,← HF3.out]
     exact RwE.push HLEN3.out hrow HVS.out HO3.out hown hgrow
    have HS4:Hid (Blk w4 sp #[av3] Tsp):=hgr.blk HS3.out HNS.out
    have HA4:Hid (RwE sp w4 av3 (splitT (l.take (t+1))).2):=by
     show RwE _ _ _ _
     rw[HNX.out];exact HA3.out.gr hgr hrow HD3.out
    have HB4:Hid (Below sp w1 w4):=Gr.below HB3.out hgr hn3 (fun g hg=>(HLOW.out g hg).1)
    have HD4:Hid (∀ g,(Value.slice (some ⟨g4,0,none⟩) (t+1) cap).ownBlock=some g→av3.ownBlock≠some g):=fun g hg e=>by
     cases hg
     rcases hat with h | h
     ·exact HD3.out g4 h e
     ·have:=(HA3.out.low g4 e).2;omega
    clear hown hgrow hat hgr hrow hlt4 hcap
    go_wp2_with fail
    go_roundw
    case rel=>exact⟨t+1,av3,by go_num,by omega,HP4.out,HS4.out,HA4.out,HB4.out,HD4.out⟩
    case measure=>simp[intOf];omega
   ·have hte:t=n:=by omega
    subst hte
    have hfull:l.take t=l:=List.take_of_length_le (by have:=HN.out;omega)
    rw[hfull] at hP hA
    obtain⟨cs,fs⟩:=one_cell hS
    obtain⟨aa,ac,rfl,hac⟩:=hA.len
    obtain⟨al,hal⟩ : ∃ al,al=(splitT l).2.length:=⟨_,rfl⟩
    rw[← hal] at cs
    have HP:=Lib.hid (hP.mono hspw)
    have HA:=Lib.hid (hA.mono hspw)
    have HBW:=Lib.hid hBw
    have HAL:=Lib.hid hal
    by_cases hmany:30<al
    ·have HR:Hid (splitR l=([],[],7)):=by
      show _=_
      unfold splitR;rw[← HBAD.out];simp only[Bool.false_eq_true,if_false];rw[if_pos (by rw[← HAL.out];exact hmany)]
     have hm2:decide ((30:Int)<(al:Int))=true:=decide_eq_true (by omega)
     clear hP hA hBw hal hd hS hB hac
     go_wp2_with fail
     go_ret3
     exact⟨.slice none 0 0,.slice none 0 0,by rw[HR.out];rfl,by rw[HR.out];exact RwE.nil_ _ _,by rw[HR.out];exact RwE.nil_ _ _,HBW.out⟩
    ·have HR:Hid (splitR l=((splitT l).2,(splitT l).1.map (Fo.flat 0),0)):=by
      show _=_
      unfold splitR;rw[← HBAD.out];simp only[Bool.false_eq_true,if_false];rw[if_neg (by rw[← HAL.out];exact hmany)]
     have hm2:decide ((30:Int)<(al:Int))=false:=decide_eq_false (by omega)
     clear hP hA hBw hal hd hS hB hac
     go_wp2_with fail
     go_ret3
     exact⟨.slice aa al ac,.slice pa t pc,by rw[HR.out];rfl,by rw[HR.out,HAL.out];exact HA.out,by rw[HR.out];exact HP.out,HBW.out⟩
 ·have HR:Hid (splitR l=([],[],1)):=by
   show _=_
   unfold splitR;rw[← HBAD.out,if_pos rfl]
  clear hb1
  go_wp2_with fail
  go_ret3
  exact⟨.slice none 0 0,.slice none 0 0,by rw[HR.out];rfl,by rw[HR.out];exact RwE.nil_ _ _,by rw[HR.out];exact RwE.nil_ _ _,HB1.out⟩
end Go.Proofs.YtmacepicoandkaaGreatDoor
namespace Go.Proofs.YtmacepicoandkaaGreatDoor
namespace R
open Go.RowKit Go.Shelf Tx
set_option maxRecDepth 100000 in
set_option maxHeartbeats 8000000 in
theorem cut_logic (e:List Nd) (base sp i:Nat) (A:List (List Nd)) (w:World) (ev av:Value) (x:Nd) (hx:e[i]?=some x) (hl:Ux.isLogic x.op=true) (h:CutIn e base sp i A w ev av)
  (IH:Hid (∀ j,j<i→∀ A w av,CutIn e base sp j A w ev av→Calls Tryz.prog 35 #[.pointer (some ⟨sp,0,none⟩),ev,.int .i64 j] w (CutPost e base sp j A w av))) :
  Calls Tryz.prog 35 #[.pointer (some ⟨sp,0,none⟩),ev,.int .i64 i] w (CutPost e base sp i A w av):=by
 obtain⟨a,c,rfl,hc⟩:=h.row.form
 obtain⟨n,hn⟩ : ∃ n,n=e.length:=⟨_,rfl⟩
 have hR:=(mayB_iff e).1 h.may |>.inR
 have hin:=hR i x hx
 have htree:=kidT_tree hR hx
 have HT:=Lib.hid htree
 have hTs:=T_size hR ((mayB_iff e).1 h.may).nodup h.lt
 have hKS:(kidT e x (kids x).length).size+1≤5000:=by
  have h1:=hTs
  rw[htree] at h1;simp only[Fo.size] at h1
  have:=h.lt;have:=h.few;omega
 have HKS:Hid ((T e i).size=(kidT e x (kids x).length).size+1):=by show _=_;rw[htree];simp[Fo.size]
 obtain⟨a1,c1,hf1,-,hcell⟩:=h.row.isE.form
 cases hf1
 obtain⟨b,o,rfl,hg⟩:=hcell w (Below.refl _ _) i x hx
 obtain⟨k0,k1,k2,k3,k4,k5⟩:=nd_cells hg
 rw[← hn] at hc ⊢
 have hlt:(i:Int)<(n:Int):=by have:=h.lt;omega
 have hi0:(0:Int)≤(i:Int):=by omega
 obtain⟨xop,xa,xb,xc,xn,xs⟩:=x
 simp only[] at k0 k1 k2 k3 k4 k5 hl
 have nb:=(Below.refl w.heap.size w).alloc (Nat.le_refl _) (.cells #[.int .i64 xop,.int .i64 xa,.int .i64 xb,.int .i64 xc,.int .i64 xn,.string xs] 85)
 have kb:=Blk.new w #[.int .i64 xop,.int .i64 xa,.int .i64 xb,.int .i64 xc,.int .i64 xn,.string xs] 85
 have HIN:=Lib.hid h
 have HN:=Lib.hid hn
 have HL:=Lib.hid hl
 have HINR:=Lib.hid hin
 have hlg:=fun W=>rIs_any xop W
 rw[hl] at hlg
 have HKB:=Lib.hid kb
 have HNB0:=Lib.hid nb
 have hspw:=h.here.lt
 have hspb:=h.sp
 clear hcell hg h hR hx hl hn htree hTs hin kb
 go_enter Tryz.func35,Tryz.ntmps35
 go_wp2_with fail
 refine (hlg _).mono ?_
 rintro r w1 ⟨rfl,hw1⟩
 have hb1:Below w.heap.size w w1:=by rw[hw1];exact nb
 have hkb1:Blk w1 w.heap.size #[.int .i64 xop,.int .i64 xa,.int .i64 xb,.int .i64 xc,.int .i64 xn,.string xs] 85:=by rw[hw1];exact HKB.out
 obtain⟨p0,p1,p2,p3,p4,p5⟩:=six_cells hkb1
 have HB1:=Lib.hid hb1
 have HKB1:=Lib.hid hkb1
 clear hlg hw1 nb hb1 hkb1 k0 k1 k2 k3 k4 k5
 go_wp2_with fail
 refine (rKids_any ⟨xop,xa,xb,xc,xn,xs⟩ w1).mono ?_
 rintro r w2 ⟨kv,rfl,hkr,hb2⟩
 obtain⟨ka,kc,hkv,hkc⟩:=hkr.form
 obtain⟨kn,hkn⟩ : ∃ kn,kn=(kids ⟨xop,xa,xb,xc,xn,xs⟩).length:=⟨_,rfl⟩
 have hk3:=kids_len ⟨xop,xa,xb,xc,xn,xs⟩
 rw[← hkn] at hkv hkc hk3
 subst hkv
 have hB2:=below_next HB1.out hb2
 have HB2:=Lib.hid hB2
 have HSP2:=Lib.hid (HIN.out.here.below hB2)
 have HAT2:=Lib.hid (HIN.out.atoms.below hB2)
 have HRW2:=Lib.hid (HIN.out.row.below hB2)
 have HKR:=Lib.hid hkr
 have HKB2:=Lib.hid (HKB1.out.below hb2)
 have HKN:=Lib.hid hkn
 obtain⟨nb,hnb⟩ : ∃ nb,nb=w2.heap.size:=⟨_,rfl⟩
 have HNB:=Lib.hid hnb
 have hnbs:sp<nb:=by have:=hB2.size;omega
 have hnbw0:w.heap.size≤nb:=by have:=hB2.size;omega
 clear hb2 hB2 hkr hkn p0 p1 p2 p3 p4 p5 hnb HKB1 HB1
 go_wp2_with fail
 go_loopw [8,10] (fun pv iv wr=>∃ (t:Nat) (Fs:List Fo) (av':Value),iv=.int .i64 t∧t≤kn∧RwE nb wr pv (Fs.map (Fo.flat 0))∧Fs.length=t∧(∀ F∈Fs,F.count=1)∧cat Fs=(Ux.cutF (kidT e ⟨xop,xa,xb,xc,xn,xs⟩ t) A).1 ∧
  Blk wr sp #[av'] Tsp∧RwE base wr av' (Ux.cutF (kidT e ⟨xop,xa,xb,xc,xn,xs⟩ t) A).2∧Gs sp w2 av wr av'∧(∀ g,pv.ownBlock=some g→av'.ownBlock≠some g)) (fun _ iv _=>kn - (intOf iv).toNat)
 case atStart=>exact⟨0,[],av,rfl,Nat.zero_le _,RwE.nil_ _ _,rfl,(fun F hF=>by simp at hF),rfl,HSP2.out,HAT2.out,Gs.refl _ _ _,fun g hg=>by cases hg⟩
 case round =>
  obtain⟨t,Fs,av',rfl,ht,hP,hFl,hF1,hcat,hS,hA,hG,hd⟩:=hrel
  have hbase:base≤wr.heap.size:=by have:=hS.lt;omega
  have hkr:=hG.rowI HSP2.out HAT2.out HKR.out
  have hrw:=hG.ownE HSP2.out HAT2.out HRW2.out
  have hkb:=hG.blk HSP2.out HAT2.out HKB2.out (by decide) (by decide)
  have hnbw:nb≤wr.heap.size:=by have:=hG.size;have:=HNB.out;omega
  by_cases hlt2:t<kn
  ·obtain⟨k,hk⟩ : ∃ k,(kids ⟨xop,xa,xb,xc,xn,xs⟩)[t]?=some k:=⟨_,List.getElem?_eq_getElem (by have:=HKN.out;omega)⟩
   obtain⟨hk0,hki⟩:=HINR.out k (List.mem_of_getElem? hk)
   obtain⟨j,rfl⟩ : ∃ j:Nat,k=(j:Int):=⟨k.toNat,by omega⟩
   have hji:j<i:=by omega
   obtain⟨g,rfl,hg1,hg2,cy,-⟩:=hkr.at hk
   have HKT:=Lib.hid (kidT_next (e:=e) hk)
   obtain⟨vs,hrow,hvs⟩:=hP.row
   obtain⟨pa,pc,hpv,hpc⟩:=hP.len
   rw[List.length_map,hFl] at hrow hpc hpv
   subst hpv
   have hsz:=kidT_size e ⟨xop,xa,xb,xc,xn,xs⟩ (t+1)
   rw[HKT.out,Fo.size_app] at hsz
   have hTk:((j:Int)).toNat=j:=by simp
   rw[hTk] at hsz HKT
   have hlenA:=Ux.cut_len (kidT e ⟨xop,xa,xb,xc,xn,xs⟩ t) A
   have hcin:CutIn e base sp j (Ux.cutF (kidT e ⟨xop,xa,xb,xc,xn,xs⟩ t) A).2 wr (.slice (some ⟨b,o,none⟩) e.length c) av' :=
    {may:=HIN.out.may,few:=HIN.out.few,lt:=by have:=HIN.out.lt;omega,row:=hrw,here:=hS,atoms:=hA,sp:=HIN.out.sp
     many:=by have:=HIN.out.many;have:=HKS.out;omega
     lens:=fun y hy=>by
      rcases cut_lens _ _ y hy with h | h
      ·exact HIN.out.lens y h
      ·omega }
   have hcall:=IH.out j hji _ wr av' hcin
   rw[← HN.out] at hcall
   have HS:=Lib.hid hS
   have HA:=Lib.hid hA
   have HG:=Lib.hid hG
   have HP:=Lib.hid hP
   have HD:=Lib.hid hd
   have HF1:=Lib.hid hF1
   have HFL:=Lib.hid hFl
   have HCAT:=Lib.hid hcat
   have HONE:Hid ((T e j).count=1):=by
    obtain⟨y,hy⟩ : ∃ y,e[j]?=some y:=⟨_,List.getElem?_eq_getElem (by have:=HIN.out.lt;omega)⟩
    exact (T_ops ((mayB_iff e).1 HIN.out.may).inR hy).2
   have htk:(t:Int)<(kn:Int):=by omega
   have ht0:(0:Int)≤(t:Int):=by omega
   clear hS hA hG hP hd hF1 hFl hcat hk hkr hrw hkb hcin hrow hvs hlenA hsz hTk
   go_wp2_with fail
   refine hcall.mono ?_
   rintro r w3 ⟨v3,av3,rfl,ho3,hS3,hA3,hG3⟩
   obtain⟨hP3,hd3⟩:=hG3.rwE HS.out HA.out HP.out HD.out
   obtain⟨F3,hF3⟩ : ∃ F3,F3=(Ux.cutF (T e j) (Ux.cutF (kidT e ⟨xop,xa,xb,xc,xn,xs⟩ t) A).2).1:=⟨_,rfl⟩
   rw[← hF3] at ho3
   obtain⟨ya,yc,rfl,hyc⟩:=ho3.form
   obtain⟨yl,hyl⟩ : ∃ yl,yl=(F3.flat 0).length:=⟨_,rfl⟩
   rw[← hyl] at ho3 hyc ⊢
   obtain⟨vs,hrow,hvs⟩:=hP3.row
   rw[List.length_map,HFL.out] at hrow
   have hn3:nb≤w3.heap.size:=by have:=hG3.size;omega
   have HO3:=Lib.hid (ho3.mono (b2:=nb) hnbw)
   have HS3:=Lib.hid hS3
   have HA3:=Lib.hid hA3
   have HG3:=Lib.hid (HG.out.trans hG3)
   have HVS:=Lib.hid hvs
   have HD3:=Lib.hid hd3
   have HF3:=Lib.hid hF3
   have hb3:t≤3:=by omega
   have HP3:=Lib.hid hP3
   have HLOW:=Lib.hid (fun g hg=>hP3.low g hg)
   clear hcall ho3 hS3 hA3 hG3 hvs hd3 hF3 hyl HS HA HG HP HD hP3 cy
   go_wp2_with (at_builtin;refine wpList_app rowE rfl _ _ rfl nb _ _ _ rfl (hrow.alloc _) ⟨w3.heap.size,0,none⟩ 1 [.slice ya yl yc] rfl rfl ?c1 ?c2 ?c3 ?c4 (w3.heap.size+1) ?c5 ?_)
   case c1=>exact World.news_of_block (heap_alloc_new w3 _)
   case c2=>simp[Value.oneCell']
   case c3=>omega
   case c4=>simp;omega
   case c5=>simp
   intro g4 cap w4 hown hgrow hat hlt4 hcap
   have hgr:Gr w3 (.slice pa t pc) w4 (.slice (some ⟨g4,0,none⟩) (t+1) cap):=gr_append hgrow hat
   have HP4:Hid (RwE nb w4 (.slice (some ⟨g4,0,none⟩) (t+1) cap) ((Fs++[F3]).map (Fo.flat 0))):=by
    show RwE _ _ _ _
    rw[List.map_append]
    exact RwE.push (by rw[List.length_map,HFL.out]) hrow HVS.out HO3.out hown hgrow
   have HS4:Hid (Blk w4 sp #[av3] Tsp):=hgr.blk HS3.out (fun h=>by have:=(HLOW.out sp h).1;omega)
   have HA4:=Lib.hid (HA3.out.gr hgr hrow HD3.out)
   have HG4:Hid (Gs sp w2 av w4 av3):=by
    refine⟨hgr.os.trans HG3.out.os,hgr.tape.trans HG3.out.tape,hgr.output.trans HG3.out.output,Nat.le_trans HG3.out.size hgr.size,fun k hk hks hn=>?_,HG3.out.own⟩
    rw[hgr.block k (Nat.lt_of_lt_of_le hk HG3.out.size) (fun e=>by have:=(HLOW.out k e).1;have:=HNB.out;omega),HG3.out.block k hk hks hn]
   have HD4:Hid (∀ g,(Value.slice (some ⟨g4,0,none⟩) (t+1) cap).ownBlock=some g→av3.ownBlock≠some g):=fun g hg e=>by
    cases hg
    rcases hat with h | h
    ·exact HD3.out g4 h e
    ·have:=(HA3.out.low g4 e).2;omega
   have HC4:Hid (cat (Fs++[F3])=(Ux.cutF (kidT e ⟨xop,xa,xb,xc,xn,xs⟩ (t+1)) A).1∧(Ux.cutF (T e j) (Ux.cutF (kidT e ⟨xop,xa,xb,xc,xn,xs⟩ t) A).2).2=(Ux.cutF (kidT e ⟨xop,xa,xb,xc,xn,xs⟩ (t+1)) A).2):=by
    show _∧_
    rw[HKT.out,Ux.cut_app,cat_snoc,HCAT.out,HF3.out];exact⟨rfl,rfl⟩
   have HF4:Hid (∀ F∈Fs++[F3],F.count=1):=fun F hF=>by
    rcases List.mem_append.1 hF with h | h
    ·exact HF1.out F h
    ·rw[List.mem_singleton.1 h,HF3.out,Ux.cut_count];exact HONE.out
   clear hown hgrow hat hgr hrow hlt4 hcap
   go_wp2_with fail
   go_roundw
   case rel=>exact⟨t+1,Fs++[F3],av3,by go_num,by omega,HP4.out,by rw[List.length_append,HFL.out];rfl,HF4.out,HC4.out.1,HS4.out,by rw[← HC4.out.2];exact HA4.out,HG4.out,HD4.out⟩
   case measure=>simp[intOf];omega
  ·have hte:t=kn:=by omega
   subst hte
   have hcs:=hkb
   obtain⟨p0,p1,p2,p3,p4,p5⟩:=six_cells hcs
   have HF:Hid ((Ux.cutF (T e i) A).1=.tr xop xn ByteArray.empty (cat Fs) .no∧(Ux.cutF (T e i) A).2=(Ux.cutF (kidT e ⟨xop,xa,xb,xc,xn,xs⟩ t) A).2):=by
    show _∧_
    rw[HT.out,hcat,HKN.out]
    simp only[Ux.cutF,HL.out,if_true,and_self]
   have hops:=Ux.logic_ops HL.out
   obtain⟨pa,pc,hpv,-⟩:=hP.len
   rw[List.length_map,hFl] at hpv
   subst hpv
   have hcsz:(cat Fs).size≤5000:=by
    rw[hcat]
    have:=Ux.cut_size (kidT e ⟨xop,xa,xb,xc,xn,xs⟩ t) A
    have:=kidT_size e ⟨xop,xa,xb,xc,xn,xs⟩ t
    omega
   have hj:=rJoin_any xop xn ByteArray.empty Fs (.slice pa t pc) wr (hP.sg fun u F h=>⟨u,rfl,h.isE⟩) hF1 (by omega) (by omega) (fun _=>by rw[logic_kids (a:=xa) (b:=xb) (c:=xc) (s:=ByteArray.empty) HL.out,hFl];exact HKN.out.symm)
   have hjf:joinF xop xn ByteArray.empty Fs=.tr xop xn ByteArray.empty (cat Fs) .no:=by unfold joinF;rw[if_neg hops.1]
   rw[hjf] at hj
   have HS:=Lib.hid hS
   have HA:=Lib.hid hA
   have HG:Hid (Gs sp w av wr av'):=(Gs.of_below _ HB2.out).trans hG
   clear hS hA hG hP hd hF1 hFl hcat hkr hrw hkb hcs hjf hcsz hops
   go_wp2_with fail
   refine hj.mono ?_
   rintro r w3 ⟨v3,rfl,ho3,hb3⟩
   have HS3:=Lib.hid (HS.out.below hb3)
   have HA3:=Lib.hid (HA.out.below hb3)
   have HG3:=Lib.hid (HG.out.then hb3)
   have HO3:=Lib.hid (ho3.mono (b2:=w.heap.size) HG.out.size)
   clear hj ho3 hb3 p0 p1 p2 p3 p4 p5
   go_wp2_with fail
   go_ret
   exact⟨v3,av',rfl,by rw[HF.out.1];exact HO3.out,HS3.out,by rw[HF.out.2];exact HA3.out,HG3.out⟩
theorem cut_any (e:List Nd) (base sp:Nat) (ev:Value):∀ (i:Nat) (A:List (List Nd)) (w:World) (av:Value),CutIn e base sp i A w ev av →
  Calls Tryz.prog 35 #[.pointer (some ⟨sp,0,none⟩),ev,.int .i64 i] w (CutPost e base sp i A w av):=by
 intro i
 induction i using Nat.strongRecOn with
 | _ i ih =>
  intro A w av h
  obtain⟨x,hx⟩ : ∃ x,e[i]?=some x:=⟨_,List.getElem?_eq_getElem h.lt⟩
  cases hl:Ux.isLogic x.op with
  | false=>exact cut_leaf e base sp i A w ev av x hx hl h
  | true=>exact cut_logic e base sp i A w ev av x hx hl h (Lib.hid (fun j hj A w av h=>ih j hj A w av h))
end R
end Go.Proofs.YtmacepicoandkaaGreatDoor
namespace Go.Proofs.YtmacepicoandkaaGreatDoor
namespace R
open Go.RowKit Go.Shelf Tx
theorem step_app {P:Program} {w:World} {ops:Array Oper} {o:Oper} {a:Act} {K:Act→World→Prop} {Q:Exit→Act→World→Prop} {E:Prop} {t e size bytes:Nat} (R:RowTy P t e size bytes) (hgd:o.guard=none) (s x:Operand)
  (ho:o.op=.call { callee:=.builtin .append,args:=#[s,x],argTypes:=#[t,t] })
  (base:Nat) (v:Value) (n:Nat) (xs:List Value) (hs:a.eval s=v) (hown:w.ownsRow base e size v n xs)
  (ad:Addr) (c:Nat) (news:List Value) (hx:a.eval x=.slice (some ad) 1 c) (hl:news.length=size) (hnews:∀ j u,news[j]?=some u→w.cell? (ad.add j)=some u) (h1:∀ u∈news,u.oneCell'=true)
  (hn:(n+1) * (bytes+1)≤140737488355328) (hbase:base≤w.heap.size) (H:Nat) (hH:w.heap.size=H)
  (h:∀ g cap w',w'.ownsRow base e size (.slice (some ⟨g,0,none⟩) (n+1) cap) (n+1) (xs++news)→w.grownBy w' v.ownBlock→(v.ownBlock=some g∨g=H)→g<w'.heap.size→n+1≤cap→K (a.put o.dst (.slice (some ⟨g,0,none⟩) (n+1) cap)) w') :
  if Region.wanted o (yielded ops a.tmps)=true then Oper.wp P o a w K Q else E:=by
 obtain⟨i,z,hi,hz,hsize,hby,hzs⟩:=R.ex
 have hb:(n+1) * bytes≤140737488355328:=Nat.le_trans (Nat.mul_le_mul_left _ (by omega)) hn
 have hm:n+1≤maxLen:=by
  have:(n+1) * 1≤(n+1) * (bytes+1):=Nat.mul_le_mul_left _ (by omega)
  unfold maxLen;omega
 refine step_append_lies _ hgd s x t ho base e i z size bytes R.ht hi hz hsize hby hzs R.pos v n xs hs hown ad 1 c news hx (by rw[hl];omega) hnews h1 (by omega) hm hb hbase H hH ?_
 intro g cap w' ho' hg hat hlt
 refine h g cap w' ho' hg hat hlt ?_
 rcases ho'.2 with ⟨h0,_⟩ | ⟨g',cap',cur,h0,_,_,hc,_⟩
 ·cases h0
 ·cases h0;exact hc
set_option maxRecDepth 100000 in
set_option maxHeartbeats 8000000 in
theorem Split_any (l : List (List Nd)) (v : Value) (w : World) (hl : l.length ≤ 100) (hM : ∀ e ∈ l, e.length ≤ 1000) (hv : Sg 1 IsL w v l) :
    Calls Tryz.prog 17 #[v] w (SplitPost l w) := by
  obtain ⟨a, c, rfl, hc, hx⟩ := hv.form keepsL
  obtain ⟨n, hn⟩ : ∃ n, n = l.length := ⟨_, rfl⟩
  rw [← hn] at hc hl ⊢
  have HN := Lib.hid hn
  have HX := Lib.hid hx
  clear hn hx hv
  go_enter Tryz.func17, Tryz.ntmps17
  go_wp2_with fail
  have HLP : Hid (∀ (A : Prop), A → A) := fun _ h => h
  go_loopw [5] (fun iv wr => ∃ t : Nat, iv = .int .i64 t ∧ t ≤ n ∧ (l.take t).any (fun y => !mayB y) = false ∧ Below w.heap.size w wr) (fun iv _ => n - (intOf iv).toNat)
  case atStart => exact ⟨0, rfl, Nat.zero_le _, rfl, Below.refl _ _⟩
  case round =>
  obtain ⟨t, rfl, ht, hno, hbw⟩ := hrel
  by_cases hlt : t < n
  · obtain ⟨e, he⟩ : ∃ e, l[t]? = some e := ⟨_, List.getElem?_eq_getElem (by have := HN.out; omega)⟩
    obtain ⟨b, o, cs, rfl, ⟨u, rfl, hu⟩, hcell⟩ := HX.out wr hbw t e he
    have cu := hcell 0 u rfl
    simp only [Nat.mul_one, Nat.add_zero] at cu
    have hel := hM e (List.mem_of_getElem? he)
    have hmc := rMay_any e u wr (by omega) hu
    obtain ⟨ua, uc, rfl, -, -⟩ := hu.form
    obtain ⟨q, hq⟩ : ∃ q, q = mayB e := ⟨_, rfl⟩
    rw [← hq] at hmc
    have HQ := Lib.hid hq
    have HE := Lib.hid he
    have HNO := Lib.hid hno
    have HBW := Lib.hid hbw
    have htn : (t : Int) < (n : Int) := by omega
    have ht0 : (0 : Int) ≤ (t : Int) := by omega
    clear he hcell hu hq hno hbw
    go_wp2_with fail
    refine hmc.mono ?_
    rintro r w1 ⟨rfl, hb1⟩
    have HB1 := Lib.hid (below_next HBW.out hb1)
    clear hmc hb1
    cases q
    · have HR : Hid (splitR l = ([], [], 1)) := by
        show _ = _
        unfold splitR; rw [if_pos]
        rw [List.any_eq_true]
        exact ⟨e, List.mem_of_getElem? HE.out, by rw [← HQ.out]; rfl⟩
      go_wp2_with fail
      go_ret3
      exact ⟨.slice none 0 0, .slice none 0 0, by rw [HR.out]; rfl, by rw [HR.out]; exact RwE.nil_ _ _, by rw [HR.out]; exact RwE.nil_ _ _, HB1.out⟩
    · have HNN : Hid ((l.take (t + 1)).any (fun y => !mayB y) = false) := by show _ = _; rw [any_upTo _ HE.out, HNO.out, ← HQ.out]; rfl
      go_wp2_with fail
      go_roundw
      case rel => exact ⟨t + 1, by go_num, by omega, HNN.out, HB1.out⟩
      case measure => simp [intOf]; omega
  have hte : t = n := by omega
  subst hte
  rw [List.take_of_length_le (by have := HN.out; omega)] at hno
  have HBAD : Hid (l.any (fun y => !mayB y) = false) := hno
  obtain ⟨w1, rfl⟩ : ∃ w1 : World, w1 = wr := ⟨_, rfl⟩
  have HB1 := Lib.hid hbw
  have hb1 := hbw
  clear hno hbw
  obtain ⟨n, hnn⟩ : ∃ n, n = t := ⟨_, rfl⟩
  rw [← hnn] at hc hl HN ht hlt ⊢
  clear hnn
  · have HMAY : Hid (∀ e ∈ l, mayB e = true) := fun e he => by
      have := List.any_eq_false.1 HBAD.out e he
      simpa using this
    have nb1 := (Below.refl w1.heap.size w1).alloc (Nat.le_refl _) (.cells #[.slice none 0 0] Tsp)
    have ks := Blk.new w1 #[.slice none 0 0] Tsp
    obtain ⟨W1, hW1⟩ : ∃ W1, W1 = w1.alloc (.cells #[.slice none 0 0] Tsp) := ⟨_, rfl⟩
    rw [← hW1] at ks nb1
    have HW1 := Lib.hid hW1
    have HKS := Lib.hid ks
    have HNB1 := Lib.hid nb1
    obtain ⟨sp, hsp⟩ : ∃ sp, sp = w1.heap.size := ⟨_, rfl⟩
    have HSP := Lib.hid hsp
    have hspw : w.heap.size ≤ sp := by rw [hsp]; exact hb1.size
    clear hW1 ks nb1 hb1 hsp
    go_wp2_with fail
    rw [← HW1.out, ← HSP.out]
    clear HW1
    go_loopw [7, 8] (fun ov iv wr => ∃ (t : Nat) (av' : Value), iv = .int .i64 t ∧ t ≤ n ∧ RwE sp wr ov ((splitT (l.take t)).1.map (Fo.flat 0)) ∧ Blk wr sp #[av'] Tsp ∧ RwE sp wr av' (splitT (l.take t)).2 ∧ Below sp w1 wr ∧ (∀ g, ov.ownBlock = some g → av'.ownBlock ≠ some g)) (fun _ iv _ => n - (intOf iv).toNat)
    case atStart => exact ⟨0, .slice none 0 0, rfl, Nat.zero_le _, RwE.nil_ _ _, by rw [HSP.out]; exact HKS.out, RwE.nil_ _ _, by rw [HSP.out]; exact HNB1.out, fun g hg => by cases hg⟩
    case round =>
      obtain ⟨t, av', rfl, ht, hP, hS, hA, hB, hd⟩ := hrel
      have hspl := hS.lt
      obtain ⟨pa, pc, hpv, hpc⟩ := hP.len
      rw [List.length_map, splitT_len, List.length_take, Nat.min_eq_left (by have := HN.out; omega)] at hpv hpc
      subst hpv
      have hBw : Below w.heap.size w wr := HB1.out.trans (hB.mono hspw)
      by_cases hlt : t < n
      · obtain ⟨e, he⟩ : ∃ e, l[t]? = some e := ⟨_, List.getElem?_eq_getElem (by have := HN.out; omega)⟩
        have hmem := List.mem_of_getElem? he
        have hmay := HMAY.out e hmem
        have hel := hM e hmem
        obtain ⟨b, o, cs, rfl, ⟨u, rfl, hu⟩, hcell⟩ := HX.out wr hBw t e he
        obtain ⟨b', o', cs', hbb, ⟨u', rfl, hu'⟩, hcell'⟩ := HX.out w (Below.refl _ _) t e he
        cases hbb
        have hbw0 : b < w.heap.size := World.block_lt_of_cell? w _ (hcell' 0 u' rfl)
        have cu := hcell 0 u rfl
        simp only [Nat.mul_one, Nat.add_zero] at cu
        clear hu' hcell'
        have hne := (may_one hmay).2.2.2
        have hsub := Norm_any e u wr.drew (by omega) (Sl.below hu ((Below.refl _ _).drew))
        rw [sub_last hmay] at hsub
        obtain ⟨ua, uc, rfl, -, -⟩ := hu.form
        obtain ⟨el, hel2⟩ : ∃ el, el = e.length := ⟨_, rfl⟩
        rw [← hel2] at cu hel hne hsub
        have HEL := Lib.hid hel2
        have HMY := Lib.hid hmay
        have HNX := Lib.hid (splitT_next he)
        have htn : (t : Int) < (n : Int) := by omega
        have ht0 : (0 : Int) ≤ (t : Int) := by omega
        have HP := Lib.hid hP
        have HS := Lib.hid hS
        have HA := Lib.hid hA
        have HB := Lib.hid hB
        have HD := Lib.hid hd
        have HBW := Lib.hid hBw
        clear he hmem hmay hcell hu hel2 hP hS hA hB hd hBw
        go_wp2_with fail
        have HK1 : wr.drew.cell? ⟨b, o + t, none⟩ = some (.slice ua el uc) := cu
        have hbl : b < wr.heap.size := World.block_lt_of_cell? wr _ cu
        have HCU := Lib.hid cu
        have hwr : IntKind.i64.wrap ((el : Int) - 1) = (el : Int) - 1 := IntWalk.i64_in _ (by omega)
        go_region_held3 (fun w' => w'.cell? ⟨b, o + t, none⟩ = some (.slice ua el uc))
          (first | exact HK4 | exact HKA _ | exact HK3 | exact HK2 | exact HK1 | exact cu)
          (first
            | ((refine step_app rowE (by rfl) _ _ (by rfl) sp (.slice pa t pc) t vs (by rfl) (hrow.alloc _) ⟨w3.heap.size, 0, none⟩ 1 [.slice ya yl yc] (by rfl) rfl (World.news_of_block (heap_alloc_new w3 _)) (by simp [Value.oneCell']) (by omega) (by simp; omega) (w3.heap.size + 1) (by simp) ?_); intro g4 cap w4 hown hgrow hat hlt4 hcap; have HK4 : w4.cell? ⟨b, o + t, none⟩ = some (.slice ua el uc) := HKG w4 hgrow)
            | (go_at_call 35
               go_must (with_reducible refine hcall.mono ?_)
               rintro r w3 ⟨v3, av3, rfl, ho3, hS3, hA3, hG3⟩
               have HK3 : w3.cell? ⟨b, o + t, none⟩ = some (.slice ua el uc) := (World.cell?_of_block (hG3.block b (by have := HSZ2.out; omega) (by omega) (fun e => by have := (HA2.out.low b e).1; omega))).trans HK2
               obtain ⟨hP3, hd3⟩ := hG3.rwE HS2.out HA2.out HP2.out HD.out
               rw [HTR.out] at ho3 hA3
               obtain ⟨F3, hF3⟩ : ∃ F3, F3 = (Ux.cutF (treeL e) (splitT (l.take t)).2).1 := ⟨_, rfl⟩
               rw [← hF3] at ho3
               obtain ⟨ya, yc, rfl, hyc⟩ := ho3.form
               obtain ⟨yl, hyl⟩ : ∃ yl, yl = (F3.flat 0).length := ⟨_, rfl⟩
               rw [← hyl] at ho3 hyc ⊢
               have hlen3 : ((splitT (l.take t)).1.map (Fo.flat 0)).length = t := by
                 rw [List.length_map, splitT_len, List.length_take]; have := HN.out; omega
               obtain ⟨vs, hrow, hvs⟩ := hP3.row
               rw [hlen3] at hrow
               have hn3 : sp ≤ w3.heap.size := by have := hS3.lt; omega
               have HO3 := Lib.hid (ho3.mono (b2 := sp) (by have := HSZ2.out; omega))
               have HS3 := Lib.hid hS3
               have HA3 := Lib.hid hA3
               have HB3 : Hid (Below sp w1 w3) := hG3.below HB2.out (by have := HSZ2.out; omega) (Nat.le_refl _) (fun g hg => (HA2.out.low g hg).1)
               have HVS := Lib.hid hvs
               have HD3 := Lib.hid hd3
               have HF3 := Lib.hid hF3
               have HLEN3 := Lib.hid hlen3
               have HLOW := Lib.hid (fun g hg => hP3.low g hg)
               have HNS : Hid ((Value.slice pa t pc).ownBlock ≠ some sp) := fun e => by
                 rcases hrow.2 with ⟨h1, _⟩ | ⟨g, cap, cur, h1, _, hg, _⟩
                 · rw [h1] at e; cases e
                 · rw [h1] at e; cases e
                   have := hS3; unfold Blk at this; rw [this] at hg; cases hg
               clear hcall ho3 hS3 hA3 hG3 hvs hd3 hF3 hyl hP3 hlen3 HS2 HA2 HP2 HB2 HD
               have HX0 : True := trivial
               have HKA : ∀ A : Obj, (w3.alloc A).cell? ⟨b, o + t, none⟩ = some (.slice ua el uc) := fun A => (World.cell?_of_block (Below.heap_alloc _ _ _ (by show b < _; omega))).trans HK3
               have HKG : ∀ w4, (w3.alloc (.cells #[.slice ya yl yc] 54)).grownBy w4 (Value.slice pa t pc).ownBlock → w4.cell? ⟨b, o + t, none⟩ = some (.slice ua el uc) := fun w4 hg => (World.cell?_of_block (hg.block b (by show b < (w3.heap.push _).size; simp; omega) (fun e => by have := (HLOW.out b e.symm).1; omega))).trans (HKA _))
            | (go_at_call 36
               (with_reducible refine hsub.mono ?_)
               rintro r w2 ⟨ev, rfl, hE, hb2⟩
               have hb2 : Below wr.heap.size wr w2 := ⟨hb2.os, hb2.tape, hb2.output, hb2.size, hb2.block⟩
               have hE : OwnE wr.heap.size w2 ev ((T e (el - 1)).flat 0) := hE
               have HK2 : w2.cell? ⟨b, o + t, none⟩ = some (.slice ua el uc) := (hb2.cell hbl).trans HCU.out
               obtain ⟨ea, ec, hev, hec⟩ := hE.form
               have hTe : T e (el - 1) = treeL e := by rw [HEL.out]; rfl
               rw [hTe] at hE hev hec
               have hEl : ((treeL e).flat 0).length = el := by
                 rw [Fo.flat_len, HEL.out]; exact may_size HMY.out
               rw [hEl] at hev hec
               subst hev
               obtain ⟨E, hEE⟩ : ∃ E, E = (treeL e).flat 0 := ⟨_, rfl⟩
               rw [← hEE] at hE hEl
               have hfew := splitT_few 1000 (l.take t) (fun y hy => by
                 have h1 := List.mem_of_mem_take hy
                 rw [may_size (HMAY.out y h1)]; exact hM y h1)
               have htr : T E (E.length - 1) = treeL e := by rw [hEE]; exact tree_norm HMY.out
               have hll : (l.take t).length ≤ 100 := by rw [List.length_take]; omega
               have hmul : (l.take t).length * 1000 ≤ 100000 := by omega
               have hcin : CutIn E sp sp (el - 1) (splitT (l.take t)).2 w2 (.slice ea el ec) av' :=
                 { may := by rw [hEE]; exact may_norm HMY.out
                   few := by rw [hEl]; omega
                   lt := by rw [hEl]; omega
                   row := hE.mono (Nat.le_of_lt hspl)
                   here := HS.out.below hb2
                   atoms := HA.out.below hb2
                   sp := Nat.le_refl _
                   many := by
                     have h1 : el - 1 = E.length - 1 := by rw [hEl]
                     rw [h1, htr, may_size HMY.out]
                     have := HEL.out
                     have := hfew.1
                     omega
                   lens := fun y hy => by have := hfew.2 y hy; omega }
               have hcall := cut_any E sp sp (.slice ea el ec) (el - 1) (splitT (l.take t)).2 w2 av' hcin
               have HTR : Hid (T E (el - 1) = treeL e) := by
                 show _ = _
                 rw [← htr, hEl, HEL.out]
               have hcast : ((el - 1 : Nat) : Int) = (el : Int) - 1 := by omega
               rw [hcast] at hcall
               have HS2 := Lib.hid (HS.out.below hb2)
               have HA2 := Lib.hid (HA.out.below hb2)
               have HP2 := Lib.hid (HP.out.below hb2)
               have HB2 := Lib.hid (HB.out.trans (hb2.mono (Nat.le_of_lt hspl)))
               have HSZ2 : Hid (wr.heap.size ≤ w2.heap.size) := hb2.size
               clear hsub hE hb2 hTe hEl hEE hfew htr hcin hcast hmul hll HS HA HP HB hec))
        clear hwr
        have hgr : Gr w3 (.slice pa t pc) w4 (.slice (some ⟨g4, 0, none⟩) (t + 1) cap) := gr_append hgrow hat
        have HP4 : Hid (RwE sp w4 (.slice (some ⟨g4, 0, none⟩) (t + 1) cap) ((splitT (l.take (t + 1))).1.map (Fo.flat 0))) := by
          show RwE _ _ _ _
          rw [HNX.out, List.map_append, List.map_cons, List.map_nil, ← HF3.out]
          exact RwE.push HLEN3.out hrow HVS.out HO3.out hown hgrow
        have HS4 : Hid (Blk w4 sp #[av3] Tsp) := hgr.blk HS3.out HNS.out
        have HA4 : Hid (RwE sp w4 av3 (splitT (l.take (t + 1))).2) := by
          show RwE _ _ _ _
          rw [HNX.out]; exact HA3.out.gr hgr hrow HD3.out
        have HB4 : Hid (Below sp w1 w4) := Gr.below HB3.out hgr hn3 (fun g hg => (HLOW.out g hg).1)
        have HD4 : Hid (∀ g, (Value.slice (some ⟨g4, 0, none⟩) (t + 1) cap).ownBlock = some g → av3.ownBlock ≠ some g) := fun g hg e => by
          cases hg
          rcases hat with h | h
          · exact HD3.out g4 h e
          · have := (HA3.out.low g4 e).2; omega
        clear hown hgrow hat hgr hrow hlt4 hcap
        go_wp2_with fail
        go_roundw
        case rel => exact ⟨t + 1, av3, by go_num, by omega, HP4.out, HS4.out, HA4.out, HB4.out, HD4.out⟩
        case measure => simp [intOf]; omega
      · have hte : t = n := by omega
        subst hte
        have hfull : l.take t = l := List.take_of_length_le (by have := HN.out; omega)
        rw [hfull] at hP hA
        obtain ⟨cs, fs⟩ := one_cell hS
        obtain ⟨aa, ac, rfl, hac⟩ := hA.len
        obtain ⟨al, hal⟩ : ∃ al, al = (splitT l).2.length := ⟨_, rfl⟩
        rw [← hal] at cs
        have HP := Lib.hid (hP.mono hspw)
        have HA := Lib.hid (hA.mono hspw)
        have HBW := Lib.hid hBw
        have HAL := Lib.hid hal
        by_cases hmany : 30 < al
        · have HR : Hid (splitR l = ([], [], 7)) := by
            show _ = _
            unfold splitR; rw [HBAD.out]; simp only [Bool.false_eq_true, if_false]; rw [if_pos (by rw [← HAL.out]; exact hmany)]
          have hm2 : decide ((30 : Int) < (al : Int)) = true := decide_eq_true (by omega)
          clear hP hA hBw hal hd hS hB hac
          go_wp2_with fail
          go_ret3
          exact ⟨.slice none 0 0, .slice none 0 0, by rw [HR.out]; rfl, by rw [HR.out]; exact RwE.nil_ _ _, by rw [HR.out]; exact RwE.nil_ _ _, HBW.out⟩
        · have HR : Hid (splitR l = ((splitT l).2, (splitT l).1.map (Fo.flat 0), 0)) := by
            show _ = _
            unfold splitR; rw [HBAD.out]; simp only [Bool.false_eq_true, if_false]; rw [if_neg (by rw [← HAL.out]; exact hmany)]
          have hm2 : decide ((30 : Int) < (al : Int)) = false := decide_eq_false (by omega)
          clear hP hA hBw hal hd hS hB hac
          go_wp2_with fail
          go_ret3
          exact ⟨.slice aa al ac, .slice pa t pc, by rw [HR.out]; rfl, by rw [HR.out, HAL.out]; exact HA.out, by rw [HR.out]; exact HP.out, HBW.out⟩
end R
end Go.Proofs.YtmacepicoandkaaGreatDoor
