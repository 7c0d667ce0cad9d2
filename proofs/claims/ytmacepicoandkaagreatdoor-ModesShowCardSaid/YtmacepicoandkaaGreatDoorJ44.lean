/- The look at a contract's modes: the walk. -/
import Derived.Test.YtmacepicoandkaaGreatDoorJ39
import Derived.Test.YtmacepicoandkaaGreatDoorJ42
set_option linter.unusedVariables false
set_option linter.unusedSimpArgs false
namespace Go.Proofs.YtmacepicoandkaaGreatDoor
open Go.RowKit Go.Shelf Tx
set_option maxRecDepth 100000 in
set_option maxHeartbeats 8000000 in
theorem check_any (l:List It) (v:Value) (bud:Int) (w:World) (G:Gl w) (hl:l.length≤30) (hM:∀ x∈l,x.e.length≤200) (hv:Sg 6 IsIt w v l) :
  Calls Tryz.prog 9 #[v,.int .i64 bud] w (CheckPost l bud w):=by
 have nb0:=(Below.refl w.heap.size w).alloc (Nat.le_refl _) (.cells #[.int .i64 bud] 3)
 have nb1:=nb0.alloc (by simp) (.cells #[.slice none 0 0,.slice none 0 0,.int .i64 0,.slice none 0 0,.slice none 0 0] 30)
 have hpa:=fun W (hW:Below w.heap.size w W)=>parts_any l v W (by omega) (hv.below keepsIt hW)
 obtain⟨a0,c0,rfl,hc0,-⟩:=hv.form keepsIt
 have HG:=Lib.hid G
 have HM:=Lib.hid hM
 have HPA:=Lib.hid hpa
 obtain⟨n,hn⟩ : ∃ n,n=(asmL l).length:=⟨_,rfl⟩
 obtain⟨m,hm⟩ : ∃ m,m=(reqL l).length:=⟨_,rfl⟩
 have hnl:n≤30:=by have:=asm_len l;omega
 have hml:m≤30:=by have:=req_len l;omega
 have HN:=Lib.hid hn
 have HMM:=Lib.hid hm
 obtain⟨ln,hln⟩ : ∃ ln,ln=l.length:=⟨_,rfl⟩
 rw[← hln] at hl hc0 HPA ⊢
 have HLN:=Lib.hid hln
 obtain⟨hz,hhz⟩ : ∃ hz,hz=w.heap.size:=⟨_,rfl⟩
 have HHZ:=Lib.hid hhz
 clear hv G hM hpa hn hm hln hhz nb0
 go_enter Tryz.func9,Tryz.ntmps9
 go_wp2_with fail
 have hcall:=HPA.out _ nb1
 refine hcall.mono ?_
 rintro r w1 ⟨va,vr,vn,rfl,hP⟩
 generalize hW0:(w.alloc (.cells #[.int .i64 bud] 3)).alloc (.cells #[.slice none 0 0,.slice none 0 0,.int .i64 0,.slice none 0 0,.slice none 0 0] 30)=W0 at nb1 hP
 have hk0:Blk W0 hz #[.int .i64 bud] 3:=by
  have h0:=(Blk.new w #[.int .i64 bud] 3).below ((Below.refl _ _).alloc (Nat.le_refl _) (.cells #[.slice none 0 0,.slice none 0 0,.int .i64 0,.slice none 0 0,.slice none 0 0] 30))
  rw[hW0] at h0;rw[HHZ.out];exact h0
 have hk1:Blk W0 (hz+1) #[.slice none 0 0,.slice none 0 0,.int .i64 0,.slice none 0 0,.slice none 0 0] 30:=by
  have h0:=Blk.new (w.alloc (.cells #[.int .i64 bud] 3)) #[.slice none 0 0,.slice none 0 0,.int .i64 0,.slice none 0 0,.slice none 0 0] 30
  rw[hW0,World.size_alloc] at h0;rw[HHZ.out];exact h0
 have hpb:=hP.below
 have hra:=hP.ra
 have hrr:=hP.rr
 have hrn:=hP.rn
 rw[List.take_length] at hra hrr hrn
 have hsa:=hra.sg hpb
 have hsr:=hrr.sg hpb
 have hfa:OwnF va n:=by obtain⟨us,h1,_⟩:=hra;rw[HN.out];exact ownF_row h1
 obtain⟨so,c1,hva,hcc1,hsoF⟩ : ∃ so c1,va=.slice so n c1∧n≤c1∧((so=none∧n=0)∨∃ g,so=some ⟨g,0,none⟩):=by
  rcases hfa with ⟨h1,h2⟩ | ⟨g,c,h1,h2⟩
  ·exact⟨none,0,by rw[h1,h2],by omega,Or.inl ⟨rfl,h2⟩⟩
  ·exact⟨_,c,h1,h2,Or.inr ⟨g,rfl⟩⟩
 subst hva
 obtain⟨xo,c2,hvr,hcc2⟩:=hrr.form
 rw[← HMM.out] at hvr hcc2
 subst hvr
 obtain⟨-,us,hUS⟩:=rowV hsa
 obtain⟨-,vs,hVS⟩:=rowV hsr
 have hns:Sl strC 1 w1 vn (nmsL l):=by
  refine Sl.own (base:=W0.heap.size) (e:=9) (n:=(nmsL l).length) strC_len ?_ rfl
  have hfl:(nmsL l).flatMap strC=(nmsL l).map Value.string:=by
   induction nmsL l with
   | nil=>rfl
   | cons a r ih=>rw[List.map_cons,List.flatMap_cons,ih];rfl
  rw[hfl];exact hrn
 obtain⟨na,nc,hvn,hncc,-⟩:=hns.form
 have hnml:(nmsL l).length=m:=by rw[HMM.out];exact nms_len l
 rw[hnml] at hvn hncc
 subst hvn
 have HK0:=Lib.hid hk0
 have HK1:=Lib.hid hk1
 have HB0:=Lib.hid nb1
 have HPB:=Lib.hid hpb
 have HSA:=Lib.hid hsa
 have HSR:=Lib.hid hsr
 have HNS:=Lib.hid hns
 have HRN:=Lib.hid hrn
 have HUS:=Lib.hid hUS
 have HVS:=Lib.hid hVS
 have HSO:=Lib.hid hsoF
 have HHH:Hid (W0.heap.size=w.heap.size+2):=by show _=_;rw[← hW0];simp
 clear hW0 nb1 hP hpb hra hrr hrn hsa hsr hns hUS hVS hsoF hfa hcall hk0 hk1 hnml
 go_wp2_with (at_builtin;refine wpList_join rowE rfl _ _ rfl so xo n m c2 us vs rfl rfl (by rw[HUS.out.len];exact HN.out.symm) (by rw[HVS.out.len];exact HMM.out.symm) (by omega) (fun e=>by rw[HN.out,HUS.out.none e];rfl) HUS.out.cell (fun j u hj=>?c1) HVS.out.one ?c2)
 case c1 =>
  cases xo with
  | none =>
   have h1:=HVS.out.none rfl
   have h2:vs.length=0:=by rw[HVS.out.len,h1];rfl
   have h3:=(List.getElem?_eq_some_iff.1 hj).1
   omega
  | some ad=>exact⟨ad,rfl,HVS.out.cell ad rfl j u hj⟩
 case c2 =>
  intro v2 w2 hb2 hj
  have hjs:=joined (T:=54) (m:=m) HUS.out HSA.out (fun i u e hu he=>HVS.out.isE i u e hu he) HVS.out.len hb2 (by rcases hj with h | h;exact Or.inl h;exact Or.inr h)
  obtain⟨ja,jc,hv2,hjc,hjF⟩ : ∃ ja jc,v2=.slice ja (n+m) jc∧n+m≤jc∧((ja=none∧n+m=0∧jc=0)∨∃ g,ja=some ⟨g,0,none⟩):=by
   rcases hj with ⟨h1,h2⟩ | h
   ·have hm0:m=0:=by have:=HVS.out.len;rw[h1] at this;rw[HMM.out,← this];rfl
    subst hm0
    refine⟨so,n,h2,Nat.le_refl _,?_⟩
    rcases HSO.out with ⟨e1,e2⟩ | h
    ·exact Or.inl ⟨e1,by omega,e2⟩
    ·exact Or.inr h
   ·rcases ownF_row h with ⟨h1,h2⟩ | ⟨g,c,h1,h2⟩
    ·exact⟨none,0,by rw[h1,h2],by omega,Or.inl ⟨rfl,h2,rfl⟩⟩
    ·exact⟨_,c,h1,h2,Or.inr ⟨g,rfl⟩⟩
  subst hv2
  have HJS:Hid (Sg 1 IsL w2 (.slice ja (n+m) jc) (everyL l)):=hjs
  have HJF:=Lib.hid hjF
  have HB2:Hid (Below W0.heap.size W0 w2):=below_next HPB.out hb2
  have HB12:=Lib.hid hb2
  have HEL:Hid ((everyL l).length=n+m):=by show _=_;unfold everyL;rw[List.length_append,← HN.out,← HMM.out]
  have HNS2:=Lib.hid (HNS.out.below hb2)
  clear hj hjs hjF hb2 HUS HVS HSA HSR HSO HNS HPB
  have hjx:=HJS.out
  obtain⟨ja',jc',e',-,hjx⟩:=hjx.form keepsL
  rw[HEL.out] at e'
  cases e'
  have HJX:=Lib.hid hjx
  clear hjx
  go_wp2_with fail
  go_loopw [38] (fun iv wr=>∃ t:Nat,iv=.int .i64 t∧t≤n+m∧(∀ (j:Nat) (e:List Nd),j<t→(everyL l)[j]?=some e→mayB e=true)∧Below w2.heap.size w2 wr) (fun iv _=>n+m - (intOf iv).toNat)
  case atStart=>exact⟨0,rfl,Nat.zero_le _,fun j e h=>by omega,Below.refl _ _⟩
  case round =>
   obtain⟨t,rfl,ht,hok,hB⟩:=hrel
   have HOK:=Lib.hid hok
   have HB:=Lib.hid hB
   clear hok hB
   by_cases hlt:t<n+m
   ·obtain⟨e,he⟩ : ∃ e,(everyL l)[t]?=some e:=⟨_,List.getElem?_eq_getElem (by have:=HEL.out;omega)⟩
    obtain⟨b,o,cs,rfl,⟨u,rfl,hu⟩,hcell⟩:=HJX.out wr HB.out t e he
    have hc:=hcell 0 u rfl
    simp only[Nat.mul_one,Nat.add_zero] at hc
    have hlen:e.length≤200:=every_len HM.out e (List.mem_of_getElem? he)
    have hmay:=May_any e u wr (by omega) hu
    obtain⟨ea,ec,rfl,-,-⟩:=hu.form
    obtain⟨q,hq⟩ : ∃ q,q=mayB e:=⟨_,rfl⟩
    rw[← hq] at hmay
    have HQ:=Lib.hid hq
    have HEE:=Lib.hid he
    have htn:(t:Int)<((n+m:Nat):Int):=by omega
    have htn2:(t:Int)<(n:Int)+(m:Int):=by omega
    have ht0:(0:Int)≤(t:Int):=by omega
    clear hcell hu he hq hlen
    cases q
    ·have HBAD:Hid (badL l bud):=Or.inl (by rw[List.any_eq_true];exact⟨e,List.mem_of_getElem? HEE.out,by rw[← HQ.out];rfl⟩)
     go_wp2_with fail
     refine hmay.mono ?_
     rintro r w5 ⟨rfl,hb5⟩
     have hb05:=below_next HB2.out (below_next HB.out hb5)
     have hk5:=HK1.out.below hb05
     have HB5:=Lib.hid (HB0.out.trans (hb05.mono (by rw[HHH.out];omega)))
     have hz5:hz+1<w5.heap.size:=hk5.lt
     obtain⟨p0,p1,p2,p3,p4⟩ : w5.cell? ⟨hz+1,0,none⟩=some (.slice none 0 0)∧w5.cell? ⟨hz+1,1,none⟩=some (.slice none 0 0)∧w5.cell? ⟨hz+1,2,none⟩=some (.int .i64 0)∧w5.cell? ⟨hz+1,3,none⟩=some (.slice none 0 0)∧w5.cell? ⟨hz+1,4,none⟩=some (.slice none 0 0):=by
      unfold Blk at hk5;simp[World.cell?,hk5]
     have f0:∀ j,w5.frozen? ⟨hz+1,j,none⟩=false:=fun j=>by unfold Blk at hk5;simp[World.frozen?,hk5]
     have HK5:=Lib.hid hk5
     rw[← HHZ.out]
     clear hmay hb05 hb5 hk5
     go_wp2_with fail
     refine bodyPost_ret (v:=.tuple #[.agg #[.slice none 0 0,.slice none 0 0,.int .i64 0,.slice none 0 0,.slice none 0 0],.int .i64 1]) (by simp[results,Tryz.results9,go_sem,p0,p1,p2,p3,p4]) rfl ⟨?_,1,_,rfl,Or.inl ⟨rfl,HBAD.out,rfl⟩⟩
     have hzz:w.heap.size≤hz+1:=by rw[HHZ.out];omega
     exact ((((HB5.out.setCell hzz _).setCell hzz _).setCell hzz _).setCell hzz _).setCell hzz _
    ·have HOK2:Hid (∀ (j:Nat) (e:List Nd),j<t+1→(everyL l)[j]?=some e→mayB e=true):=fun j e' hj he'=>by
      by_cases h:j=t
      ·subst h;rw[HEE.out] at he';cases he';exact HQ.out.symm
      ·exact HOK.out j e' (by omega) he'
     go_wp2_with fail
     refine hmay.mono ?_
     rintro r w5 ⟨rfl,hb5⟩
     have HB5:=Lib.hid (below_next HB.out hb5)
     clear hmay hb5
     go_wp2_with fail
     go_roundw
     case rel=>exact⟨t+1,by go_num,by omega,HOK2.out,HB5.out⟩
     case measure=>simp[intOf];omega
   ·have hte:t=n+m:=by omega
    subst hte
    obtain⟨w5,hw5⟩ : ∃ w5,w5=wr:=⟨_,rfl⟩
    have hb05:=below_next HB2.out HB.out
    have hk5:=HK1.out.below hb05
    have hq5:=HK0.out.below hb05
    rw[← hw5] at hk5 hq5 hb05 HB ⊢
    clear hw5
    have q0:w5.cell? ⟨hz,0,none⟩=some (.int .i64 bud):=(one_cell hq5).1
    have HB5:=Lib.hid (HB0.out.trans (hb05.mono (by rw[HHH.out];omega)))
    have hz5:hz+1<w5.heap.size:=hk5.lt
    have HK5:=Lib.hid hk5
    have HQ5:=Lib.hid hq5
    have HB05:=Lib.hid hb05
    by_cases hb2:bud<2
    ·have HBAD:Hid (badL l bud):=Or.inr (Or.inl hb2)
     obtain⟨p0,p1,p2,p3,p4⟩ : w5.cell? ⟨hz+1,0,none⟩=some (.slice none 0 0)∧w5.cell? ⟨hz+1,1,none⟩=some (.slice none 0 0)∧w5.cell? ⟨hz+1,2,none⟩=some (.int .i64 0)∧w5.cell? ⟨hz+1,3,none⟩=some (.slice none 0 0)∧w5.cell? ⟨hz+1,4,none⟩=some (.slice none 0 0):=by
      unfold Blk at hk5;simp[World.cell?,hk5]
     have f0:∀ j,w5.frozen? ⟨hz+1,j,none⟩=false:=fun j=>by unfold Blk at hk5;simp[World.frozen?,hk5]
     clear hk5 hq5 hb05
     rw[← HHZ.out]
     go_wp2_with fail
     refine bodyPost_ret (v:=.tuple #[.agg #[.slice none 0 0,.slice none 0 0,.int .i64 0,.slice none 0 0,.slice none 0 0],.int .i64 1]) (by simp[results,Tryz.results9,go_sem,p0,p1,p2,p3,p4]) rfl ⟨?_,1,_,rfl,Or.inl ⟨rfl,HBAD.out,rfl⟩⟩
     have hzz:w.heap.size≤hz+1:=by rw[HHZ.out];omega
     exact ((((HB5.out.setCell hzz _).setCell hzz _).setCell hzz _).setCell hzz _).setCell hzz _
    ·by_cases hb1:10000<bud
     ·have HBAD:Hid (badL l bud):=Or.inr (Or.inr hb1)
      have hb2':2≤bud:=by omega
      obtain⟨p0,p1,p2,p3,p4⟩ : w5.cell? ⟨hz+1,0,none⟩=some (.slice none 0 0)∧w5.cell? ⟨hz+1,1,none⟩=some (.slice none 0 0)∧w5.cell? ⟨hz+1,2,none⟩=some (.int .i64 0)∧w5.cell? ⟨hz+1,3,none⟩=some (.slice none 0 0)∧w5.cell? ⟨hz+1,4,none⟩=some (.slice none 0 0):=by
       unfold Blk at hk5;simp[World.cell?,hk5]
      have f0:∀ j,w5.frozen? ⟨hz+1,j,none⟩=false:=fun j=>by unfold Blk at hk5;simp[World.frozen?,hk5]
      clear hk5 hq5 hb05 hb2
      rw[← HHZ.out]
      go_wp2_with fail
      refine bodyPost_ret (v:=.tuple #[.agg #[.slice none 0 0,.slice none 0 0,.int .i64 0,.slice none 0 0,.slice none 0 0],.int .i64 1]) (by simp[results,Tryz.results9,go_sem,p0,p1,p2,p3,p4]) rfl ⟨?_,1,_,rfl,Or.inl ⟨rfl,HBAD.out,rfl⟩⟩
      have hzz:w.heap.size≤hz+1:=by rw[HHZ.out];omega
      exact ((((HB5.out.setCell hzz _).setCell hzz _).setCell hzz _).setCell hzz _).setCell hzz _
     ·obtain⟨bn,rfl⟩ : ∃ bn:Nat,bud=(bn:Int):=⟨bud.toNat,by omega⟩
      have hbn2:2≤bn:=by omega
      have hbn1:bn≤10000:=by omega
      have HGOOD:Hid (¬ badL l (bn:Int)):=fun h=>by
       rcases h with h | h | h
       ·rw[List.any_eq_true] at h
        obtain⟨e,he,h2⟩:=h
        obtain⟨j,hj⟩:=List.mem_iff_getElem?.1 he
        rw[HOK.out j e (by have:=(List.getElem?_eq_some_iff.1 hj).1;have:=HEL.out;omega) hj] at h2
        cases h2
       ·exact hb2 h
       ·exact hb1 h
      clear hk5 hq5 hb05 hb2 hb1
      have hsp:=Split_any (everyL l) (.slice ja (n+m) jc) w5 (by have:=HEL.out;omega) (fun e he=>Nat.le_trans (every_len HM.out e he) (by omega)) (HJS.out.below keepsL HB.out) (HG.out.below HB5.out)
      rw[← HHZ.out]
      go_wp2_with fail
      refine hsp.mono ?_
      rintro r w6 ⟨fv,ov,rfl,hfv,hov,hb6⟩
      have hb56:=hb6
      obtain⟨fa,fc,rfl,hfc,-⟩:=rowX (sg_of_rwe hfv)
      have HFV:=Lib.hid (sg_of_rwe hfv)
      have HFW:=Lib.hid hfv
      obtain⟨vr,hvr⟩ : ∃ vr,vr=(splitR (everyL l)).1.length:=⟨_,rfl⟩
      rw[← hvr] at hfc HFV HFW ⊢
      have HVR:=Lib.hid hvr
      obtain⟨er,her0⟩ : ∃ er,er=(splitR (everyL l)).2.2:=⟨_,rfl⟩
      rw[← her0]
      have HER:=Lib.hid her0
      have hov0:=sg_of_rwe hov
      have hovF:∃ oa oc,ov=.slice oa (splitR (everyL l)).2.1.length oc∧(splitR (everyL l)).2.1.length≤oc∧((oa=none∧(splitR (everyL l)).2.1.length=0∧oc=0)∨∃ g,oa=some ⟨g,0,none⟩):=by
       obtain⟨us,h1,_⟩:=hov.row
       rcases ownF_row h1 with ⟨h2,h3⟩ | ⟨g,c,h2,h3⟩
       ·exact⟨none,0,by rw[h2,h3],by omega,Or.inl ⟨rfl,h3,rfl⟩⟩
       ·exact⟨_,c,h2,h3,Or.inr ⟨g,rfl⟩⟩
      obtain⟨oa0,oc0,rfl,hoc0,hoF0⟩:=hovF
      have HB6:=Lib.hid hb6
      clear hsp hfv hov hb6 hb56 hvr her0
      by_cases her:er=0
      ·have e0:(er==0)=true:=by simp[her]
       have HKN:Hid (knownL l=true):=by show _=_;unfold knownL;rw[← HER.out];exact e0
       have hPF:=putF_of (every_len HM.out) (by rw[← HER.out];exact her)
       have hol:(splitR (everyL l)).2.1.length=n+m:=by rw[hPF.outs];exact HEL.out
       rw[hol] at hov0 hoc0 hoF0 ⊢
       have HOVL:Hid (overL l=(splitR (everyL l)).2.1):=by show _=_;unfold overL;rw[HKN.out];rfl
       have HSO:Hid (Sg 1 IsL w6 (.slice oa0 (n+m) oc0) (overL l)):=by show Sg _ _ _ _ _;rw[HOVL.out];exact hov0
       have HOL:Hid (n+m=(overL l).length):=by show _=_;rw[HOVL.out];exact hol.symm
       have HEE:Hid (true=true→vr≤30∧∀ e∈overL l,Ux.mayA e vr=true∧e.length≤5000∧smallS e):=fun _=>by
        have h30:vr≤30:=by rw[HVR.out];exact hPF.len
        refine⟨h30,fun e he=>?_⟩
        rw[HOVL.out] at he
        have:=outs_may (every_len HM.out) (by rw[← HER.out];exact her) e he
        rw[← HVR.out] at this;exact this
       have HOF:=Lib.hid hoF0
       have hoc:=hoc0
       clear hPF hol hov0 hoF0 her hoc0
       go_upto_region 18 with fail
       obtain⟨W9,hW9⟩ : ∃ W9,W9=((w6.alloc (.cells #[.slice fa vr fc] 25)).alloc (.cells #[.bool true] 4)).alloc (.cells #[.slice fa vr fc,.slice na m nc,.int .i64 0,.slice none 0 0,.slice none 0 0] 30):=⟨_,rfl⟩
       obtain⟨sb,hsb⟩ : ∃ sb,sb=w6.heap.size:=⟨_,rfl⟩
       have d1:=Blk.new w6 #[.slice fa vr fc] 25
       have d2:=Blk.new (w6.alloc (.cells #[.slice fa vr fc] 25)) #[.bool true] 4
       have d3:=Blk.new ((w6.alloc (.cells #[.slice fa vr fc] 25)).alloc (.cells #[.bool true] 4)) #[.slice fa vr fc,.slice na m nc,.int .i64 0,.slice none 0 0,.slice none 0 0] 30
       have e2:=(Below.refl _ (w6.alloc (.cells #[.slice fa vr fc] 25))).alloc (Nat.le_refl _) (.cells #[.bool true] 4)
       have e3:=(Below.refl _ ((w6.alloc (.cells #[.slice fa vr fc] 25)).alloc (.cells #[.bool true] 4))).alloc (Nat.le_refl _) (.cells #[.slice fa vr fc,.slice na m nc,.int .i64 0,.slice none 0 0,.slice none 0 0] 30)
       have d1':=(d1.below e2).below e3
       have d2':=d2.below e3
       have hb69:=below_next (below_next ((Below.refl w6.heap.size w6).alloc (Nat.le_refl _) (.cells #[.slice fa vr fc] 25)) e2) e3
       rw[← hW9] at d1' d2' d3 hb69 ⊢
       simp only[World.size_alloc] at d1' d2' d3
       rw[← hsb] at d1' d2' d3 ⊢
       have HF9:=Lib.hid d1'
       have HK9:=Lib.hid d2'
       have HR9:Hid (Blk W9 (sb+2) #[.slice fa vr fc,.slice na m nc,.int .i64 0,.slice none 0 0,.slice none 0 0] 30):=d3
       have HB69:=Lib.hid hb69
       have HSB:=Lib.hid hsb
       have HS9:Hid (W9.heap.size=sb+3):=by show _=_;rw[hW9,hsb];simp
       clear d1 d2 d3 e2 e3 d1' d2' hb69 hW9 hsb e0
       have HQ9:Hid (Blk W9 hz #[.int .i64 (bn:Int)] 3):=(HQ5.out.below HB6.out).below HB69.out
       have HG9:Hid (Gl W9):=HG.out.below (below_next (below_next HB5.out HB6.out) HB69.out)
       have HSO9:Hid (Sg 1 IsL W9 (.slice oa0 (n+m) oc0) (overL l)):=HSO.out.below keepsL HB69.out
       have hzsb:hz<sb+2:=by have:=hz5;have:=HB6.out.size;have:=HSB.out;omega
       have HGW:Hid (∀ W,Below (sb+2) W9 W→Gl W):=fun W hW=>HG.out.below ((below_next (below_next HB5.out HB6.out) HB69.out).trans (hW.mono (by have:=HB5.out.size;have:=HB6.out.size;have:=HSB.out;omega)))
       have hverd:∀ (A B:List (List Nd)) (va vb:Value) (W:World),Below (sb+2) W9 W→Sg 1 IsL W va A→Sg 1 IsL W vb B→A.length+B.length≤1000→(∀ e∈A++B,e∈overL l) →
         Calls Tryz.prog 24 #[va,vb,.pointer (some ⟨sb+1,0,none⟩),.pointer (some ⟨sb,0,none⟩),.pointer (some ⟨hz,0,none⟩)] W (VerdQPost true vr bn A B W):=fun A B va vb W hW hA hB hl hE =>
        verdQ_any true A B va vb (sb+1) sb hz vr bn fa fc W (HGW.out W hW) hbn2 hbn1 (one_cell (HK9.out.belowB hW (by omega))).1 (one_cell (HF9.out.belowB hW (by omega))).1 (one_cell (HQ9.out.belowB hW hzsb)).1 hA hB hl (fun h=>by first | exact⟨(HEE.out h).1,fun e he=>(HEE.out h).2 e (hE e he)⟩ | exact⟨(HEE.out trivial).1,fun e he=>(HEE.out trivial).2 e (hE e he)⟩ | cases h)
       have HVD:=Lib.hid hverd
       clear hverd hzsb
       go_cut [80] (fun _ wx=>∃ (ex:Int) (ga:Option Addr) (gn gc:Nat),Fr (fun k=>k=sb+2) W9 wx∧Blk wx (sb+2) #[.slice fa vr fc,.slice na m nc,.int .i64 ex,.slice ga gn gc,.slice none 0 0] 30∧VerdQ true vr bn ((overL l).take n) ((overL l).drop n) ex (.slice ga gn gc) wx∧(∀ ad,ga=some ad→W9.heap.size≤ad.block∧ad.block<wx.heap.size))
       case first =>
        rcases HOF.out with ⟨h1,h2,h3⟩ | ⟨g,h1⟩
        ·obtain rfl:n=0:=by omega
         obtain rfl:m=0:=by omega
         have hov:overL l=[]:=List.eq_nil_of_length_eq_zero (by have:=HOL.out;omega)
         have hcl:=fun W (hW:Below W9.heap.size W9 W)=>HVD.out [] [] (.slice none 0 0) (.slice none 0 0) W (hW.mono (by rw[HS9.out];omega)) Sg.nil_ Sg.nil_ (by simp) (fun e he=>by simp at he)
         subst h1 h3
         have HR0:=HR9.out
         have hBd:Below W9.heap.size W9 W9.drew:=(Below.refl _ _).drew
         have HK1:W9.drew.cell? ⟨sb+2,0,none⟩=some (.slice fa vr fc):=(five_cells (HR9.out.below hBd)).1
         have HK0:W9.cell? ⟨sb+2,0,none⟩=some (.slice fa vr fc):=(five_cells HR9.out).1
         go_region_held3 (fun w'=>w'.cell? ⟨sb+2,0,none⟩=some (.slice fa vr fc))
          (first | exact HK5 | exact HK4 | exact HK3 | exact HK2 | exact HK1 | exact HK0)
          ((go_at_call 24;refine (hcl _ (by first | exact hBd | exact Below.refl _ _)).mono ?_;rintro r w10 ⟨vd,gv,rfl,hb10,hvq,hnew⟩;obtain⟨ga,gn,gc,rfl,hga⟩:=hvq.form;have hb910:=below_next hBd hb10;have hr10:=HR9.out.below hb910;obtain⟨y0,y1,y2,y3,y4⟩:=five_cells hr10;have HK2:w10.cell? ⟨sb+2,0,none⟩=some (.slice fa vr fc):=y0;have fz:=hr10.free;have hr11:=hr10.set2 (.int .i64 vd);obtain⟨z0,z1,z2,z3,z4⟩:=five_cells hr11;have fz1:=hr11.free;have HK3:(w10.setCell ⟨sb+2,2,none⟩ (.int .i64 vd)).cell? ⟨sb+2,0,none⟩=some (.slice fa vr fc):=z0;have hr12:=hr11.set3 (.slice ga gn gc);have HK4:((w10.setCell ⟨sb+2,2,none⟩ (.int .i64 vd)).setCell ⟨sb+2,3,none⟩ (.slice ga gn gc)).cell? ⟨sb+2,0,none⟩=some (.slice fa vr fc):=(five_cells hr12).1;have HK5:((w10.setCell ⟨sb+2,2,none⟩ (.int .i64 vd)).drew).cell? ⟨sb+2,0,none⟩=some (.slice fa vr fc):=z0))
         have hvq':VerdQ true vr bn ((overL l).take 0) ((overL l).drop 0) vd (.slice ga gn gc) w10:=by rw[hov];exact hvq
         go_wp2_with fail
         go_meet
         have hfr:Fr (fun k=>k=sb+2) W9 ((w10.setCell ⟨sb+2,2,none⟩ (.int .i64 vd)).setCell ⟨sb+2,3,none⟩ (.slice ga gn gc)) :=
          ((Fr.of_below hb910 (fun k=>k=sb+2)).trans (Fr.of_set w10 (sb+2) 2 _) (fun _ _ q=>q)).trans (Fr.of_set _ (sb+2) 3 _) (fun _ _ q=>q)
         have hset:Fr (fun k=>k=sb+2) w10 ((w10.setCell ⟨sb+2,2,none⟩ (.int .i64 vd)).setCell ⟨sb+2,3,none⟩ (.slice ga gn gc)):=(Fr.of_set w10 (sb+2) 2 _).trans (Fr.of_set _ (sb+2) 3 _) (fun _ _ q=>q)
         have hgne:∀ ad,ga=some ad→ad.block≠sb+2:=fun ad had e=>by
          subst had
          have h1:=hnew ad.block rfl
          have h2:=HS9.out
          have h3:W9.drew.heap.size=W9.heap.size:=rfl
          omega
         exact⟨vd,ga,gn,gc,hfr,hr12,hvq'.kept hset.size (fun a' n' c' e'=>by cases e';exact hset.block _ (hga _ rfl).1 (hgne _ rfl)),fun ad had=>⟨by subst had;have h1:=hnew ad.block rfl;have h3:W9.drew.heap.size=W9.heap.size:=rfl;omega,Nat.lt_of_lt_of_le (hga ad had).1 hset.size⟩⟩
        ·subst h1
         have hsoW:=fun W (hW:Below W9.heap.size W9 W)=>HSO9.out.below keepsL hW
         have hn0:(0:Int)≤(n:Int):=by omega
         have hnm:(n:Int)≤((n+m:Nat):Int):=by omega
         have hi2:(n:Int)≤(oc0:Int):=by omega
         have hi3:(n:Int)≤(n:Int)+(m:Int):=by omega
         have hi4:(n:Int)+(m:Int)≤(oc0:Int):=by omega
         have hi5:n≤n+m:=by omega
         have hi6:n≤oc0:=by omega
         by_cases hcc:oc0=n
         ·subst hcc
          obtain rfl:m=0:=by omega
          have hcl:=fun W (hW:Below W9.heap.size W9 W)=>HVD.out ((overL l).take oc0) ((overL l).drop oc0) (.slice (some ⟨g,0,none⟩) oc0 oc0) (.slice (some ⟨g,0,none⟩) 0 0) W (hW.mono (by rw[HS9.out];omega)) (sg_take (hsoW W hW) HOL.out (by omega) (Nat.le_refl _)) (by rw[List.drop_of_length_le (by have:=HOL.out;omega)];exact⟨[],Or.inl ⟨rfl,_,_,rfl⟩,rfl,fun i c x hc _=>by simp at hc⟩) (by simp;have:=HOL.out;omega) (fun e he=>by rw[List.take_append_drop] at he;exact he)
          have HSW:=Lib.hid hsoW
          clear hsoW
          have HR0:=HR9.out
          have hBd:Below W9.heap.size W9 W9.drew:=(Below.refl _ _).drew
          have HK1:W9.drew.cell? ⟨sb+2,0,none⟩=some (.slice fa vr fc):=(five_cells (HR9.out.below hBd)).1
          have HK0:W9.cell? ⟨sb+2,0,none⟩=some (.slice fa vr fc):=(five_cells HR9.out).1
          go_region_held3 (fun w'=>w'.cell? ⟨sb+2,0,none⟩=some (.slice fa vr fc))
           (first | exact HK5 | exact HK4 | exact HK3 | exact HK2 | exact HK1 | exact HK0)
           ((go_at_call 24;refine (hcl _ (by first | exact hBd | exact Below.refl _ _)).mono ?_;rintro r w10 ⟨vd,gv,rfl,hb10,hvq,hnew⟩;obtain⟨ga,gn,gc,rfl,hga⟩:=hvq.form;have hb910:=below_next hBd hb10;have hr10:=HR9.out.below hb910;obtain⟨y0,y1,y2,y3,y4⟩:=five_cells hr10;have HK2:w10.cell? ⟨sb+2,0,none⟩=some (.slice fa vr fc):=y0;have fz:=hr10.free;have hr11:=hr10.set2 (.int .i64 vd);obtain⟨z0,z1,z2,z3,z4⟩:=five_cells hr11;have fz1:=hr11.free;have HK3:(w10.setCell ⟨sb+2,2,none⟩ (.int .i64 vd)).cell? ⟨sb+2,0,none⟩=some (.slice fa vr fc):=z0;have hr12:=hr11.set3 (.slice ga gn gc);have HK4:((w10.setCell ⟨sb+2,2,none⟩ (.int .i64 vd)).setCell ⟨sb+2,3,none⟩ (.slice ga gn gc)).cell? ⟨sb+2,0,none⟩=some (.slice fa vr fc):=(five_cells hr12).1;have HK5:((w10.setCell ⟨sb+2,2,none⟩ (.int .i64 vd)).drew).cell? ⟨sb+2,0,none⟩=some (.slice fa vr fc):=z0))
          have hvq':=hvq
          go_wp2_with fail
          go_meet
          have hfr:Fr (fun k=>k=sb+2) W9 ((w10.setCell ⟨sb+2,2,none⟩ (.int .i64 vd)).setCell ⟨sb+2,3,none⟩ (.slice ga gn gc)) :=
           ((Fr.of_below hb910 (fun k=>k=sb+2)).trans (Fr.of_set w10 (sb+2) 2 _) (fun _ _ q=>q)).trans (Fr.of_set _ (sb+2) 3 _) (fun _ _ q=>q)
          have hset:Fr (fun k=>k=sb+2) w10 ((w10.setCell ⟨sb+2,2,none⟩ (.int .i64 vd)).setCell ⟨sb+2,3,none⟩ (.slice ga gn gc)):=(Fr.of_set w10 (sb+2) 2 _).trans (Fr.of_set _ (sb+2) 3 _) (fun _ _ q=>q)
          have hgne:∀ ad,ga=some ad→ad.block≠sb+2:=fun ad had e=>by
           subst had
           have h1:=hnew ad.block rfl
           have h2:=HS9.out
           have h3:W9.drew.heap.size=W9.heap.size:=rfl
           omega
          exact⟨vd,ga,gn,gc,hfr,hr12,hvq'.kept hset.size (fun a' n' c' e'=>by cases e';exact hset.block _ (hga _ rfl).1 (hgne _ rfl)),fun ad had=>⟨by subst had;have h1:=hnew ad.block rfl;have h3:W9.drew.heap.size=W9.heap.size:=rfl;omega,Nat.lt_of_lt_of_le (hga ad had).1 hset.size⟩⟩
         ·have hcl:=fun W (hW:Below W9.heap.size W9 W)=>HVD.out ((overL l).take n) ((overL l).drop n) (.slice (some ⟨g,0,none⟩) n oc0) (.slice (some ⟨g,n,none⟩) (n+m - n) (oc0 - n)) W (hW.mono (by rw[HS9.out];omega)) (sg_take (hsoW W hW) HOL.out (by omega) (by omega)) (sg_drop (hsoW W hW) HOL.out (by omega) (by omega)) (by simp;have:=HOL.out;omega) (fun e he=>by rw[List.take_append_drop] at he;exact he)
          have hmm:n+m - n=m:=by omega
          rw[hmm] at hcl
          have HSW:=Lib.hid hsoW
          clear hsoW hmm
          have HR0:=HR9.out
          have hBd:Below W9.heap.size W9 W9.drew:=(Below.refl _ _).drew
          have HK1:W9.drew.cell? ⟨sb+2,0,none⟩=some (.slice fa vr fc):=(five_cells (HR9.out.below hBd)).1
          have HK0:W9.cell? ⟨sb+2,0,none⟩=some (.slice fa vr fc):=(five_cells HR9.out).1
          go_region_held3 (fun w'=>w'.cell? ⟨sb+2,0,none⟩=some (.slice fa vr fc))
           (first | exact HK5 | exact HK4 | exact HK3 | exact HK2 | exact HK1 | exact HK0)
           ((go_at_call 24;refine (hcl _ (by first | exact hBd | exact Below.refl _ _)).mono ?_;rintro r w10 ⟨vd,gv,rfl,hb10,hvq,hnew⟩;obtain⟨ga,gn,gc,rfl,hga⟩:=hvq.form;have hb910:=below_next hBd hb10;have hr10:=HR9.out.below hb910;obtain⟨y0,y1,y2,y3,y4⟩:=five_cells hr10;have HK2:w10.cell? ⟨sb+2,0,none⟩=some (.slice fa vr fc):=y0;have fz:=hr10.free;have hr11:=hr10.set2 (.int .i64 vd);obtain⟨z0,z1,z2,z3,z4⟩:=five_cells hr11;have fz1:=hr11.free;have HK3:(w10.setCell ⟨sb+2,2,none⟩ (.int .i64 vd)).cell? ⟨sb+2,0,none⟩=some (.slice fa vr fc):=z0;have hr12:=hr11.set3 (.slice ga gn gc);have HK4:((w10.setCell ⟨sb+2,2,none⟩ (.int .i64 vd)).setCell ⟨sb+2,3,none⟩ (.slice ga gn gc)).cell? ⟨sb+2,0,none⟩=some (.slice fa vr fc):=(five_cells hr12).1;have HK5:((w10.setCell ⟨sb+2,2,none⟩ (.int .i64 vd)).drew).cell? ⟨sb+2,0,none⟩=some (.slice fa vr fc):=z0))
          have hvq':=hvq
          go_wp2_with fail
          go_meet
          have hfr:Fr (fun k=>k=sb+2) W9 ((w10.setCell ⟨sb+2,2,none⟩ (.int .i64 vd)).setCell ⟨sb+2,3,none⟩ (.slice ga gn gc)) :=
           ((Fr.of_below hb910 (fun k=>k=sb+2)).trans (Fr.of_set w10 (sb+2) 2 _) (fun _ _ q=>q)).trans (Fr.of_set _ (sb+2) 3 _) (fun _ _ q=>q)
          have hset:Fr (fun k=>k=sb+2) w10 ((w10.setCell ⟨sb+2,2,none⟩ (.int .i64 vd)).setCell ⟨sb+2,3,none⟩ (.slice ga gn gc)):=(Fr.of_set w10 (sb+2) 2 _).trans (Fr.of_set _ (sb+2) 3 _) (fun _ _ q=>q)
          have hgne:∀ ad,ga=some ad→ad.block≠sb+2:=fun ad had e=>by
           subst had
           have h1:=hnew ad.block rfl
           have h2:=HS9.out
           have h3:W9.drew.heap.size=W9.heap.size:=rfl
           omega
          exact⟨vd,ga,gn,gc,hfr,hr12,hvq'.kept hset.size (fun a' n' c' e'=>by cases e';exact hset.block _ (hga _ rfl).1 (hgne _ rfl)),fun ad had=>⟨by subst had;have h1:=hnew ad.block rfl;have h3:W9.drew.heap.size=W9.heap.size:=rfl;omega,Nat.lt_of_lt_of_le (hga ad had).1 hset.size⟩⟩
       case rest =>
        obtain⟨ex,ga,gn,gc,hfr,hrep,hvq,hgb⟩:=hcut
        obtain⟨Wx,rfl⟩ : ∃ Wx:World,Wx=wc:=⟨_,rfl⟩
        have hQK:=VerdQ.keeps true vr bn (pairE l)
        have hstart:PAt 30 45 (sb+2) #[.slice fa vr fc,.slice na m nc,.int .i64 ex,.slice ga gn gc] (fun p vd v W=>VerdQ true vr bn (pairE l p) [] vd v W) Wx (prsAt m 0 1) Wx:=PAt.start _ _ _ _ _ _ hrep
        have HFR:=Lib.hid hfr
        have HVQ:=Lib.hid hvq
        have HGB:=Lib.hid hgb
        have HQK:=Lib.hid hQK
        clear hfr hrep hvq hgb hQK
        go_wp2_with fail
        go_loopw [86] (fun iv wr=>∃ i:Nat,iv=.int .i64 i∧i≤m∧PAt 30 45 (sb+2) #[.slice fa vr fc,.slice na m nc,.int .i64 ex,.slice ga gn gc] (fun p vd v W=>VerdQ true vr bn (pairE l p) [] vd v W) Wx (prsAt m i (i+1)) wr) (fun iv _=>m - (intOf iv).toNat)
        case atStart=>exact⟨0,rfl,Nat.zero_le _,hstart⟩
        case round =>
         obtain⟨i,rfl,hi,hP⟩:=hrel
         have HP:=Lib.hid hP
         clear hstart hP
         by_cases hlt:i<m
         ·go_wp2_with fail
          go_loopw [20] (fun jv wr=>∃ j:Nat,jv=.int .i64 j∧i+1≤j∧j≤m∧PAt 30 45 (sb+2) #[.slice fa vr fc,.slice na m nc,.int .i64 ex,.slice ga gn gc] (fun p vd v W=>VerdQ true vr bn (pairE l p) [] vd v W) Wx (prsAt m i j) wr) (fun jv _=>m - (intOf jv).toNat)
          case atStart=>exact⟨i+1,by go_num,Nat.le_refl _,by omega,HP.out⟩
          case round =>
           obtain⟨j,rfl,hij,hj,hP2⟩:=hrel
           have HP2:=Lib.hid hP2
           clear hP2
           by_cases hlt2:j<m
           ·obtain⟨pa,hfr2,hrep2,hpr⟩:=HP2.out
            obtain⟨g,hg⟩ : ∃ g,oa0=some ⟨g,0,none⟩:=by
             rcases HOF.out with ⟨_,h2,_⟩ | h
             ·omega
             ·exact h
            subst hg
            have hbel:Below (sb+2) W9 wr:=(HFR.out.trans hfr2 (fun _ _ q=>q)).belowB (by rw[HS9.out];omega)
            have hbel6:Below w6.heap.size w6 wr:=HB69.out.trans (hbel.mono (by have:=HSB.out;omega))
            obtain⟨xe,hxe⟩ : ∃ xe,(overL l)[n+i]?=some xe:=⟨_,List.getElem?_eq_getElem (by have:=HOL.out;omega)⟩
            obtain⟨ye,hye⟩ : ∃ ye,(overL l)[n+j]?=some ye:=⟨_,List.getElem?_eq_getElem (by have:=HOL.out;omega)⟩
            have hSW:=HSO.out.below keepsL hbel6
            obtain⟨a',c',e',-,hfx⟩:=hSW.form keepsL
            rw[← HOL.out] at e'
            cases e'
            have hget:∀ (k:Nat) (e:List Nd),(overL l)[k]?=some e→∃ xa xc,IsE wr (.slice xa e.length xc) e∧wr.cell? ⟨g,k,none⟩=some (.slice xa e.length xc):=by
             intro k e hk
             obtain⟨b,o,cs,e1,⟨u,rfl,hu⟩,hc⟩:=hfx wr (Below.refl _ _) k e hk
             cases e1
             obtain⟨xa,xc,rfl,-,-⟩:=hu.form
             refine⟨xa,xc,hu,?_⟩
             have h:=hc 0 _ rfl
             simpa using h
            obtain⟨xa,xc,hx,hxc⟩:=hget (n+i) xe hxe
            obtain⟨ya,yc,hy,hyc⟩:=hget (n+j) ye hye
            have hT:=sg_take (n:=n) (c:=n) hSW HOL.out (by omega) (Nat.le_refl n)
            obtain⟨-,us3,hU3⟩:=rowV hT
            have hTl:n=((overL l).take n).length:=by rw[List.length_take,← HOL.out];omega
            obtain⟨xl,hxl⟩ : ∃ xl,xl=xe.length:=⟨_,rfl⟩
            obtain⟨yl,hyl⟩ : ∃ yl,yl=ye.length:=⟨_,rfl⟩
            rw[← hxl] at hx hxc
            rw[← hyl] at hy hyc
            obtain⟨B1,hB1⟩ : ∃ B1,B1=(overL l).take n:=⟨_,rfl⟩
            rw[← hB1] at hT hU3 hTl
            have HX:=Lib.hid hx
            have HY:=Lib.hid hy
            have HT:=Lib.hid hT
            have HU3:=Lib.hid hU3
            have HTL:=Lib.hid hTl
            have HXE:=Lib.hid hxe
            have HYE:=Lib.hid hye
            have HB1:=Lib.hid hB1
            have HPR:=Lib.hid hpr
            have HFX:=Lib.hid hfr2
            have HRB:=Lib.hid hrep2
            have HBL:=Lib.hid hbel
            clear hx hy hT hU3 hTl hxe hye hB1 hpr hfr2 hrep2 hbel hbel6 hSW hfx hget hxl hyl
            go_upto_region 26 with fail
            obtain⟨W1,hW1⟩ : ∃ W1,W1=wr.alloc (.cells #[.int .i64 i,.int .i64 j,.int .i64 0,.slice none 0 0] 45):=⟨_,rfl⟩
            obtain⟨pb,hpb⟩ : ∃ pb,pb=wr.heap.size:=⟨_,rfl⟩
            have hkP:=Blk.new wr #[.int .i64 i,.int .i64 j,.int .i64 0,.slice none 0 0] 45
            have hb1:=(Below.refl wr.heap.size wr).alloc (Nat.le_refl _) (.cells #[.int .i64 i,.int .i64 j,.int .i64 0,.slice none 0 0] 45)
            have hz1:W1.heap.size=pb+1:=by rw[hW1,hpb];simp
            rw[← hW1] at hkP hb1 ⊢
            rw[← hpb] at hkP ⊢
            have HPB:=Lib.hid hpb
            have HKP:Hid (Blk W1 pb #[.int .i64 i,.int .i64 j,.int .i64 0,.slice none 0 0] 45):=hkP
            have HB1w:=Lib.hid hb1
            have HZ1:=Lib.hid hz1
            have HGX:g<wr.heap.size:=World.block_lt_of_cell? wr _ hxc
            have HS:Hid (∀ W,Below wr.heap.size wr W→W.cell? ⟨g,n+i,none⟩=some (.slice xa xl xc)∧W.cell? ⟨g,n+j,none⟩=some (.slice ya yl yc)):=fun W h=>⟨(h.cell (p:=⟨g,n+i,none⟩) HGX).trans hxc,(h.cell (p:=⟨g,n+j,none⟩) HGX).trans hyc⟩
            have HGP:Hid (g≠pb):=by show _≠_;rw[hpb];omega
            have HSZ:Hid (g<wr.heap.size):=HGX
            have hi0:(0:Int)≤(n:Int):=by omega
            have hi1:(n:Int)≤(oc0:Int):=by omega
            have hi2:(n:Int)≤(n:Int)+(m:Int):=by omega
            obtain⟨p1,hp1⟩ : ∃ p1,p1=n+i:=⟨_,rfl⟩
            obtain⟨p2,hp2⟩ : ∃ p2,p2=n+j:=⟨_,rfl⟩
            have hi3:(0:Int)≤(p1:Int):=by omega
            have hi4:(p1:Int)<(n:Int)+(m:Int):=by omega
            have hi5:(0:Int)≤(p2:Int):=by omega
            have hi6:(p2:Int)<(n:Int)+(m:Int):=by omega
            have HP1:=Lib.hid hp1
            have HP22:=Lib.hid hp2
            rw[← hp1,← hp2] at HS
            have HNIJ:Hid (n+i≤1000∧n+j≤1000):=⟨by omega,by omega⟩
            have hsz:W1.heap.size=pb+1:=HZ1.out
            clear hp1 hp2 hsz
            clear hW1 hpb hkP hb1 hz1 hxc hyc HGX
            have hKA:=HS.out W1 HB1w.out
            have hbA:Below wr.heap.size wr ((W1.alloc (.cells #[.slice xa xl xc,.slice ya yl yc] 54)).drew):=(HB1w.out.alloc HB1w.out.size _).drew
            have hKB:=HS.out _ hbA
            have HBA:=Lib.hid hbA
            clear hbA
            obtain⟨hw1,hw3⟩:=w64_add HP1.out HNIJ.out.1
            obtain⟨hw2,hw4⟩:=w64_add HP22.out HNIJ.out.2
            go_region_held3 (fun w'=>w'.cell? ⟨g,p1,none⟩=some (.slice xa xl xc)∧w'.cell? ⟨g,p2,none⟩=some (.slice ya yl yc))
             (first | exact hKA | exact hKB | exact hKC | exact hKD | exact hKE | exact hKF)
             ((first
              | (go_at_call 24;(with_reducible refine (HVD.out (B1++[xe,ye]) [] _ _ w2' hbC hs2 Sg.nil_ hlenC hsubC).mono ?_);rintro r w10 ⟨vd,gv,rfl,hb10,hvq,hnew⟩;obtain⟨ga2,gn2,gc2,rfl,hga2⟩:=hvq.form;have hbD:=below_next hbR hb10;have hKD:=HS.out _ hbD;have hkp:=(HKP.out.below HB2a.out).below hb10;obtain⟨k0,k1,k2,k3⟩:=four_cells hkp;have hfz:=hkp.free;have hkp2:Blk (w10.setCell ⟨pb,2,none⟩ (.int .i64 vd)) pb #[.int .i64 i,.int .i64 j,.int .i64 vd,.slice none 0 0] 45:=hkp.seti 2 _;obtain⟨k0',k1',k2',k3'⟩:=four_cells hkp2;have hfz2:=hkp2.free;have hKE:(w10.setCell ⟨pb,2,none⟩ (.int .i64 vd)).cell? ⟨g,p1,none⟩=some (.slice xa xl xc)∧(w10.setCell ⟨pb,2,none⟩ (.int .i64 vd)).cell? ⟨g,p2,none⟩=some (.slice ya yl yc):=⟨(set_far HGP.out).trans hKD.1,(set_far HGP.out).trans hKD.2⟩;have hKF:((w10.setCell ⟨pb,2,none⟩ (.int .i64 vd)).setCell ⟨pb,3,none⟩ (.slice ga2 gn2 gc2)).cell? ⟨g,p1,none⟩=some (.slice xa xl xc)∧((w10.setCell ⟨pb,2,none⟩ (.int .i64 vd)).setCell ⟨pb,3,none⟩ (.slice ga2 gn2 gc2)).cell? ⟨g,p2,none⟩=some (.slice ya yl yc):=⟨(set_far HGP.out).trans hKE.1,(set_far HGP.out).trans hKE.2⟩)
              | (refine step_two (by rfl) _ _ (by rfl) (some ⟨g,0,none⟩) n B1 us3 (by rfl) HTL.out (by omega) (HU3.out.below HBA.out) (HT.out.below keepsL HBA.out) ⟨W1.heap.size,0,none⟩ 2 (.slice xa xl xc) (.slice ya yl yc) xe ye (by rfl) (news_at _ _ _ 0 _ rfl) (news_at _ _ _ 1 _ rfl) (Sl.below HX.out HBA.out) (Sl.below HY.out HBA.out) ?_;rintro v2 w2' hb2 ⟨g2,cap2,rfl,hcap2⟩ hs2;have hbR:=below_next HBA.out hb2;have hKC:=HS.out _ hbR;have HB2a:Hid (Below W1.heap.size W1 w2'):=below_next (((Below.refl _ W1).alloc (Nat.le_refl _) _).drew) hb2;have hbC:Below (sb+2) W9 w2':=HBL.out.trans (hbR.mono (by have:=HBL.out.size;have:=HS9.out;omega));have hlenC:(B1++[xe,ye]).length+([] : List (List Nd)).length≤1000:=(by have hq:=HTL.out;simp only[List.length_append,List.length_cons,List.length_nil];omega);have hsubC:∀ e∈(B1++[xe,ye])++[],e∈overL l:=(by rw[List.append_nil];intro e he;rcases List.mem_append.1 he with he | he;(rw[HB1.out] at he;exact List.mem_of_mem_take he);(simp at he;rcases he with rfl | rfl;exact List.mem_of_getElem? HXE.out;exact List.mem_of_getElem? HYE.out)))))
            have hP12:=hkp2.seti 3 (.slice ga2 gn2 gc2)
            have hsb12:Below wr.heap.size wr ((w10.setCell ⟨pb,2,none⟩ (.int .i64 vd)).setCell ⟨pb,3,none⟩ (.slice ga2 gn2 gc2)):=(hbD.setCell (by show wr.heap.size≤pb;rw[HPB.out];exact Nat.le_refl _) _).setCell (by show wr.heap.size≤pb;rw[HPB.out];exact Nat.le_refl _) _
            have hs12:((w10.setCell ⟨pb,2,none⟩ (.int .i64 vd)).setCell ⟨pb,3,none⟩ (.slice ga2 gn2 gc2)).heap.size=w10.heap.size:=by simp
            have hv12:VerdQ true vr bn (pairE l (i,j)) [] vd (.slice ga2 gn2 gc2) ((w10.setCell ⟨pb,2,none⟩ (.int .i64 vd)).setCell ⟨pb,3,none⟩ (.slice ga2 gn2 gc2)):=by
             rw[pairE_at HN.out HXE.out HYE.out,← HB1.out]
             refine hvq.kept (by rw[hs12];exact Nat.le_refl _) fun a n c e=>?_
             cases e
             have h1:=hnew _ rfl
             have h2:=HB2a.out.size
             have h3:=HZ1.out
             rw[Below.heap_setCell _ _ _ _ (by show _≠pb;omega),Below.heap_setCell _ _ _ _ (by show _≠pb;omega)]
            have hga12:∀ ad,ga2=some ad→w2'.heap.size≤ad.block∧ad.block<((w10.setCell ⟨pb,2,none⟩ (.int .i64 vd)).setCell ⟨pb,3,none⟩ (.slice ga2 gn2 gc2)).heap.size:=fun ad had=>by
             subst had
             exact⟨hnew _ rfl,by rw[hs12];exact (hga2 _ rfl).1⟩
            have hz2:=HB2a.out.size
            have HK12:Hid (Blk ((w10.setCell ⟨pb,2,none⟩ (.int .i64 vd)).setCell ⟨pb,3,none⟩ (.slice ga2 gn2 gc2)) pb #[.int .i64 i,.int .i64 j,.int .i64 vd,.slice ga2 gn2 gc2] 45):=hP12
            clear hP12 hs12 hKA hKB hKC hKD hKE hKF hw1 hw2 hw3 hw4 hbR hbC hs2 hlenC hsubC hb10 hvq hnew hga2 hkp k0 k1 k2 k3 hfz hkp2 k0' k1' k2' k3' hfz2 hbD hb2
            generalize (w10.setCell ⟨pb,2,none⟩ (.int .i64 vd)).setCell ⟨pb,3,none⟩ (.slice ga2 gn2 gc2)=W12 at hsb12 hv12 hga12 HK12 ⊢
            have hba:Below W12.heap.size W12 (W12.alloc (.cells #[.int .i64 i,.int .i64 j,.int .i64 vd,.slice ga2 gn2 gc2] 45)):=(Below.refl _ _).alloc (Nat.le_refl _) _
            have hpr12:=HPR.out.kept HQK.out (below_next hsb12 hba).size fun k _ hk=>(below_next hsb12 hba).block k hk
            have hrep12:Blk W12 (sb+2) #[.slice fa vr fc,.slice na m nc,.int .i64 ex,.slice ga gn gc,pa] 30:=HRB.out.below hsb12
            obtain⟨r0,r1,r2,r3,r4⟩:=five_cells hrep12
            have fr12:=hrep12.free
            obtain⟨k0,k1,k2,k3⟩:=four_cells HK12.out
            have HS12:=Lib.hid hsb12
            have HV12:=Lib.hid hv12
            have HG12:=Lib.hid hga12
            have HR12:=Lib.hid hrep12
            have HPF:=Lib.hid HPR.out.form
            obtain⟨q,hq⟩ : ∃ q,q=(prsAt m i j).length:=⟨_,rfl⟩
            have HQL:=Lib.hid hq
            have hq1000:q≤1000:=by rw[hq];exact prsAt_len hml (by omega) (by omega)
            obtain⟨cs,hcs1,hcs2,hcs3,hcs4⟩:=hpr12
            rw[← hq] at hcs1 hcs2
            have HC1:=Lib.hid hcs1
            have HC2:=Lib.hid hcs2
            have HC3:=Lib.hid hcs3
            have HC4:=Lib.hid hcs4
            have hxs12:Wx.heap.size≤W12.heap.size:=Nat.le_trans HFX.out.size hsb12.size
            clear hsb12 hv12 hga12 hrep12 hba hq hcs1 hcs2 hcs3 hcs4
            go_wp2_with (at_builtin;refine wpList_app rowPair rfl _ _ rfl Wx.heap.size pa q (cs.flatMap id) rfl HC1.out ⟨W12.heap.size,0,none⟩ 1 [.int .i64 i,.int .i64 j,.int .i64 vd,.slice ga2 gn2 gc2] rfl rfl (World.news_of_block (cs:=#[.int .i64 i,.int .i64 j,.int .i64 vd,.slice ga2 gn2 gc2]) (t:=45) (fr:=(0,0)) (heap_alloc_new W12 _)) (by simp[Value.oneCell']) (by omega) (by simp;omega) (W12.heap.size+1) (by simp) ?_)
            intro gg cap w13 hown hgrow hat hlt13 hcap13
            have hpaB:∀ k,pa.ownBlock=some k→Wx.heap.size≤k∧k<wr.heap.size:=fun k hk=>by
             rcases HPF.out with h | ⟨g',c',h,h1,h2⟩
             ·rw[h] at hk;cases hk
             ·rw[h] at hk;cases hk;exact⟨h1,h2⟩
            have h9x:=HFR.out.size
            have h9z:=HS9.out
            have hrx:=HFX.out.size
            have hz1':=HZ1.out
            have hpb':=HPB.out
            have h12r:=HS12.out.size
            have hb13:Blk w13 (sb+2) #[.slice fa vr fc,.slice na m nc,.int .i64 ex,.slice ga gn gc,pa] 30:=by
             have h1:=HR12.out.lt
             exact (hgrow.block (sb+2) (by simp;omega) (fun e=>by have:=(hpaB _ e.symm).1;omega)).trans ((Below.heap_alloc _ _ _ h1).trans HR12.out)
            have hP13:PRow 45 (fun p vd v W=>VerdQ true vr bn (pairE l p) [] vd v W) Wx.heap.size w13 (.slice (some ⟨gg,0,none⟩) (q+1) cap) (prsAt m i j++[(i,j)]):=by
             have hown':=hown
             rw[HQL.out] at hown' ⊢
             refine PRow.push HQK.out (by rw[← HQL.out];exact HC2.out) HC3.out HC4.out (HV12.out.kept (by simp) fun a n c e=>by cases e;exact Below.heap_alloc _ _ _ (HG12.out _ rfl).2) (fun ad had=>?_) (by rw[List.flatMap_id];exact hown') hgrow ?_
             ·have h1:=HG12.out ad had
              refine⟨by omega,by simp;omega,fun e=>?_⟩
              have h2:=hpaB _ e
              omega
             ·rcases hat with h | h
              ·exact Or.inl h
              ·exact Or.inr (by rw[h];simp)
            have hBX:Below Wx.heap.size wr w13:=((HS12.out.mono hrx).alloc hxs12 _).grown hgrow (by simp;omega) (fun k hk=>(hpaB k hk).1)
            obtain⟨r0',r1',r2',r3',r4'⟩:=five_cells hb13
            have fr13:=hb13.free
            have HB13:=Lib.hid hb13
            have HP13:=Lib.hid hP13
            have HBX:=Lib.hid hBX
            clear hb13 hP13 hBX hown hgrow hat k0 k1 k2 k3 r0 r1 r2 r3 r4 fr12 hpaB
            go_wp2_with fail
            have HPN:Hid (PAt 30 45 (sb+2) #[.slice fa vr fc,.slice na m nc,.int .i64 ex,.slice ga gn gc] (fun p vd v W=>VerdQ true vr bn (pairE l p) [] vd v W) Wx (prsAt m i (j+1)) (w13.setCell ⟨sb+2,4,none⟩ (.slice (some ⟨gg,0,none⟩) (q+1) cap))):=by
             rw[prsAt_snoc hij]
             refine⟨_,(HFX.out.trans (S':=fun k=>Wx.heap.size≤k) ⟨HBX.out.os,HBX.out.tape,HBX.out.output,HBX.out.size,fun k _ hn=>HBX.out.block k (by omega)⟩ (fun k hk h=>by omega)).trans (Fr.of_set w13 (sb+2) 4 _) (fun _ _ q=>q),HB13.out.seti 4 _,?_⟩
             exact HP13.out.kept HQK.out (by simp) fun k hk _=>Below.heap_setCell _ _ _ _ (by show k≠sb+2;omega)
            clear fr13 r0' r1' r2' r3' r4'
            go_roundw
            case rel=>exact⟨j+1,by go_num,by omega,by omega,HPN.out⟩
            case measure=>simp[intOf];omega
           ·have hje:j=m:=by omega
            subst hje
            have HP3:Hid (PAt 30 45 (sb+2) #[.slice fa vr fc,.slice na j nc,.int .i64 ex,.slice ga gn gc] (fun p vd v W=>VerdQ true vr bn (pairE l p) [] vd v W) Wx (prsAt j (i+1) (i+2)) wr):=by have h:=HP2.out;rw[prsAt_next] at h;exact h
            go_wp2_with fail
            go_roundw
            case rel=>exact⟨i+1,by go_num,by omega,HP3.out⟩
            case measure=>simp[intOf];omega
         ·have hie:i=m:=by omega
          subst hie
          obtain⟨pa,hfr2,hrep2,hpr⟩:=HP.out
          rw[prsAt_full] at hpr
          obtain⟨px,pn,pc,rfl⟩ : ∃ x n c,pa=.slice x n c:=by
           rcases hpr.form with h | ⟨g,c,h,_⟩
           ·exact⟨_,_,_,h⟩
           ·exact⟨_,_,_,h⟩
          have hrep3:Blk wr (sb+2) #[.slice fa vr fc,.slice na i nc,.int .i64 ex,.slice ga gn gc,.slice px pn pc] 30:=hrep2
          have hbel:Below (sb+2) W9 wr:=(HFR.out.trans hfr2 (fun _ _ q=>q)).belowB (by rw[HS9.out];omega)
          have hbel6:Below w6.heap.size w6 wr:=HB69.out.trans (hbel.mono (by have:=HSB.out;omega))
          have hkz:=(HK5.out.below HB6.out).below hbel6
          obtain⟨p0,p1,p2,p3,p4⟩:=five_cells hkz
          have f0:=hkz.free
          obtain⟨z0,z1,z2,z3,z4⟩:=five_cells hrep3
          have HBW:Hid (Below w.heap.size w wr):=below_next (below_next HB5.out HB6.out) hbel6
          have HB6r:=Lib.hid hbel6
          have HFX:=Lib.hid hfr2
          have HPR:=Lib.hid hpr
          have HZS:Hid (hz+1<w5.heap.size):=hz5
          clear hfr2 hrep2 hpr hrep3 hbel hbel6 hkz
          go_wp2_with fail
          refine bodyPost_ret (v:=.tuple #[.agg #[.slice fa vr fc,.slice na i nc,.int .i64 ex,.slice ga gn gc,.slice px pn pc],.int .i64 0]) (by simp[results,Tryz.results9,go_sem,p0,p1,p2,p3,p4]) rfl ⟨?_,0,_,rfl,Or.inr ⟨rfl,HGOOD.out,bn,rfl,?_⟩⟩
          ·have hzz:w.heap.size≤hz+1:=by rw[HHZ.out];omega
           exact ((((HBW.out.setCell hzz _).setCell hzz _).setCell hzz _).setCell hzz _).setCell hzz _
          ·have hset:=fun k (hk:k≠hz+1)=>five_set wr (hz+1) (.slice fa vr fc) (.slice na i nc) (.int .i64 ex) (.slice ga gn gc) (.slice px pn pc) k hk
           have hsize:(((((wr.setCell ⟨hz+1,0,none⟩ (.slice fa vr fc)).setCell ⟨hz+1,1,none⟩ (.slice na i nc)).setCell ⟨hz+1,2,none⟩ (.int .i64 ex)).setCell ⟨hz+1,3,none⟩ (.slice ga gn gc)).setCell ⟨hz+1,4,none⟩ (.slice px pn pc)).heap.size=wr.heap.size:=by simp
           generalize (((((wr.setCell ⟨hz+1,0,none⟩ (.slice fa vr fc)).setCell ⟨hz+1,1,none⟩ (.slice na i nc)).setCell ⟨hz+1,2,none⟩ (.int .i64 ex)).setCell ⟨hz+1,3,none⟩ (.slice ga gn gc)).setCell ⟨hz+1,4,none⟩ (.slice px pn pc))=W' at hset hsize ⊢
           have hzw:=HHZ.out
           have h6s:=HB6.out.size
           have h9s:=HB69.out.size
           have h9z:=HS9.out
           have hxs:=HFR.out.size
           have hrs:=HFX.out.size
           have hz5':=HZS.out
           have hsb':=HSB.out
           refine⟨_,_,_,_,_,rfl,?_,?_,?_,?_⟩
           ·exact sg_of_rwe (HFW.out.kept fun k hk hl=>(hset k (by omega)).trans (HB6r.out.block k hl))
           ·refine names_sl (base:=W0.heap.size) (row_kept HRN.out fun k hk _ hl=>(hset k (by have:=HHH.out;omega)).trans ?_)
            exact (below_next (below_next (below_next HB12.out HB.out) HB6.out) HB6r.out).block k hl
           ·rw[HKN.out,← HVR.out,← HN.out]
            exact (HVQ.out.kept (by omega:Wx.heap.size≤W'.heap.size) fun a n c e=>by
             cases e
             have h1:=HGB.out _ rfl
             exact (hset _ (by omega)).trans (HFX.out.block _ h1.2 (by omega)))
           ·rw[HKN.out,← HVR.out,← HMM.out]
            exact (HPR.out.kept HQK.out (by omega) fun k hk hl=>hset k (by omega)).mono (by have:=HB5.out.size;omega)
      ·have e0:(er==0)=false:=by simp[her]
       have HKN:Hid (knownL l=false):=by show _=_;unfold knownL;rw[← HER.out];exact e0
       have HOVL:Hid (overL l=everyL l):=by show _=_;unfold overL;rw[HKN.out];rfl
       have HSO:Hid (Sg 1 IsL w6 (.slice ja (n+m) jc) (overL l)):=by show Sg _ _ _ _ _;rw[HOVL.out];exact HJS.out.below keepsL (below_next HB.out HB6.out)
       have HOL:Hid (n+m=(overL l).length):=by show _=_;rw[HOVL.out];exact HEL.out.symm
       have HEE:Hid (false=true→vr≤30∧∀ e∈overL l,Ux.mayA e vr=true∧e.length≤5000∧smallS e):=fun h=>by cases h
       have HOF:=HJF
       have hoc:=hjc
       clear hov0 hoF0 her hoc0
       go_upto_region 18 with fail
       obtain⟨W9,hW9⟩ : ∃ W9,W9=((w6.alloc (.cells #[.slice fa vr fc] 25)).alloc (.cells #[.bool false] 4)).alloc (.cells #[.slice fa vr fc,.slice na m nc,.int .i64 0,.slice none 0 0,.slice none 0 0] 30):=⟨_,rfl⟩
       obtain⟨sb,hsb⟩ : ∃ sb,sb=w6.heap.size:=⟨_,rfl⟩
       have d1:=Blk.new w6 #[.slice fa vr fc] 25
       have d2:=Blk.new (w6.alloc (.cells #[.slice fa vr fc] 25)) #[.bool false] 4
       have d3:=Blk.new ((w6.alloc (.cells #[.slice fa vr fc] 25)).alloc (.cells #[.bool false] 4)) #[.slice fa vr fc,.slice na m nc,.int .i64 0,.slice none 0 0,.slice none 0 0] 30
       have e2:=(Below.refl _ (w6.alloc (.cells #[.slice fa vr fc] 25))).alloc (Nat.le_refl _) (.cells #[.bool false] 4)
       have e3:=(Below.refl _ ((w6.alloc (.cells #[.slice fa vr fc] 25)).alloc (.cells #[.bool false] 4))).alloc (Nat.le_refl _) (.cells #[.slice fa vr fc,.slice na m nc,.int .i64 0,.slice none 0 0,.slice none 0 0] 30)
       have d1':=(d1.below e2).below e3
       have d2':=d2.below e3
       have hb69:=below_next (below_next ((Below.refl w6.heap.size w6).alloc (Nat.le_refl _) (.cells #[.slice fa vr fc] 25)) e2) e3
       rw[← hW9] at d1' d2' d3 hb69 ⊢
       simp only[World.size_alloc] at d1' d2' d3
       rw[← hsb] at d1' d2' d3 ⊢
       have HF9:=Lib.hid d1'
       have HK9:=Lib.hid d2'
       have HR9:Hid (Blk W9 (sb+2) #[.slice fa vr fc,.slice na m nc,.int .i64 0,.slice none 0 0,.slice none 0 0] 30):=d3
       have HB69:=Lib.hid hb69
       have HSB:=Lib.hid hsb
       have HS9:Hid (W9.heap.size=sb+3):=by show _=_;rw[hW9,hsb];simp
       clear d1 d2 d3 e2 e3 d1' d2' hb69 hW9 hsb e0
       have HQ9:Hid (Blk W9 hz #[.int .i64 (bn:Int)] 3):=(HQ5.out.below HB6.out).below HB69.out
       have HG9:Hid (Gl W9):=HG.out.below (below_next (below_next HB5.out HB6.out) HB69.out)
       have HSO9:Hid (Sg 1 IsL W9 (.slice ja (n+m) jc) (overL l)):=HSO.out.below keepsL HB69.out
       have hzsb:hz<sb+2:=by have:=hz5;have:=HB6.out.size;have:=HSB.out;omega
       have HGW:Hid (∀ W,Below (sb+2) W9 W→Gl W):=fun W hW=>HG.out.below ((below_next (below_next HB5.out HB6.out) HB69.out).trans (hW.mono (by have:=HB5.out.size;have:=HB6.out.size;have:=HSB.out;omega)))
       have hverd:∀ (A B:List (List Nd)) (va vb:Value) (W:World),Below (sb+2) W9 W→Sg 1 IsL W va A→Sg 1 IsL W vb B→A.length+B.length≤1000→(∀ e∈A++B,e∈overL l) →
         Calls Tryz.prog 24 #[va,vb,.pointer (some ⟨sb+1,0,none⟩),.pointer (some ⟨sb,0,none⟩),.pointer (some ⟨hz,0,none⟩)] W (VerdQPost false vr bn A B W):=fun A B va vb W hW hA hB hl hE =>
        verdQ_any false A B va vb (sb+1) sb hz vr bn fa fc W (HGW.out W hW) hbn2 hbn1 (one_cell (HK9.out.belowB hW (by omega))).1 (one_cell (HF9.out.belowB hW (by omega))).1 (one_cell (HQ9.out.belowB hW hzsb)).1 hA hB hl (fun h=>by first | exact⟨(HEE.out h).1,fun e he=>(HEE.out h).2 e (hE e he)⟩ | exact⟨(HEE.out trivial).1,fun e he=>(HEE.out trivial).2 e (hE e he)⟩ | cases h)
       have HVD:=Lib.hid hverd
       clear hverd hzsb
       go_cut [80] (fun _ wx=>∃ (ex:Int) (ga:Option Addr) (gn gc:Nat),Fr (fun k=>k=sb+2) W9 wx∧Blk wx (sb+2) #[.slice fa vr fc,.slice na m nc,.int .i64 ex,.slice ga gn gc,.slice none 0 0] 30∧VerdQ false vr bn ((overL l).take n) ((overL l).drop n) ex (.slice ga gn gc) wx∧(∀ ad,ga=some ad→W9.heap.size≤ad.block∧ad.block<wx.heap.size))
       case first =>
        rcases HOF.out with ⟨h1,h2,h3⟩ | ⟨g,h1⟩
        ·obtain rfl:n=0:=by omega
         obtain rfl:m=0:=by omega
         have hov:overL l=[]:=List.eq_nil_of_length_eq_zero (by have:=HOL.out;omega)
         have hcl:=fun W (hW:Below W9.heap.size W9 W)=>HVD.out [] [] (.slice none 0 0) (.slice none 0 0) W (hW.mono (by rw[HS9.out];omega)) Sg.nil_ Sg.nil_ (by simp) (fun e he=>by simp at he)
         subst h1 h3
         have HR0:=HR9.out
         have hBd:Below W9.heap.size W9 W9.drew:=(Below.refl _ _).drew
         have HK1:W9.drew.cell? ⟨sb+2,0,none⟩=some (.slice fa vr fc):=(five_cells (HR9.out.below hBd)).1
         have HK0:W9.cell? ⟨sb+2,0,none⟩=some (.slice fa vr fc):=(five_cells HR9.out).1
         go_region_held3 (fun w'=>w'.cell? ⟨sb+2,0,none⟩=some (.slice fa vr fc))
          (first | exact HK5 | exact HK4 | exact HK3 | exact HK2 | exact HK1 | exact HK0)
          ((go_at_call 24;refine (hcl _ (by first | exact hBd | exact Below.refl _ _)).mono ?_;rintro r w10 ⟨vd,gv,rfl,hb10,hvq,hnew⟩;obtain⟨ga,gn,gc,rfl,hga⟩:=hvq.form;have hb910:=below_next hBd hb10;have hr10:=HR9.out.below hb910;obtain⟨y0,y1,y2,y3,y4⟩:=five_cells hr10;have HK2:w10.cell? ⟨sb+2,0,none⟩=some (.slice fa vr fc):=y0;have fz:=hr10.free;have hr11:=hr10.set2 (.int .i64 vd);obtain⟨z0,z1,z2,z3,z4⟩:=five_cells hr11;have fz1:=hr11.free;have HK3:(w10.setCell ⟨sb+2,2,none⟩ (.int .i64 vd)).cell? ⟨sb+2,0,none⟩=some (.slice fa vr fc):=z0;have hr12:=hr11.set3 (.slice ga gn gc);have HK4:((w10.setCell ⟨sb+2,2,none⟩ (.int .i64 vd)).setCell ⟨sb+2,3,none⟩ (.slice ga gn gc)).cell? ⟨sb+2,0,none⟩=some (.slice fa vr fc):=(five_cells hr12).1;have HK5:((w10.setCell ⟨sb+2,2,none⟩ (.int .i64 vd)).drew).cell? ⟨sb+2,0,none⟩=some (.slice fa vr fc):=z0))
         have hvq':VerdQ false vr bn ((overL l).take 0) ((overL l).drop 0) vd (.slice ga gn gc) w10:=by rw[hov];exact hvq
         go_wp2_with fail
         go_meet
         have hfr:Fr (fun k=>k=sb+2) W9 ((w10.setCell ⟨sb+2,2,none⟩ (.int .i64 vd)).setCell ⟨sb+2,3,none⟩ (.slice ga gn gc)) :=
          ((Fr.of_below hb910 (fun k=>k=sb+2)).trans (Fr.of_set w10 (sb+2) 2 _) (fun _ _ q=>q)).trans (Fr.of_set _ (sb+2) 3 _) (fun _ _ q=>q)
         have hset:Fr (fun k=>k=sb+2) w10 ((w10.setCell ⟨sb+2,2,none⟩ (.int .i64 vd)).setCell ⟨sb+2,3,none⟩ (.slice ga gn gc)):=(Fr.of_set w10 (sb+2) 2 _).trans (Fr.of_set _ (sb+2) 3 _) (fun _ _ q=>q)
         have hgne:∀ ad,ga=some ad→ad.block≠sb+2:=fun ad had e=>by
          subst had
          have h1:=hnew ad.block rfl
          have h2:=HS9.out
          have h3:W9.drew.heap.size=W9.heap.size:=rfl
          omega
         exact⟨vd,ga,gn,gc,hfr,hr12,hvq'.kept hset.size (fun a' n' c' e'=>by cases e';exact hset.block _ (hga _ rfl).1 (hgne _ rfl)),fun ad had=>⟨by subst had;have h1:=hnew ad.block rfl;have h3:W9.drew.heap.size=W9.heap.size:=rfl;omega,Nat.lt_of_lt_of_le (hga ad had).1 hset.size⟩⟩
        ·subst h1
         have hsoW:=fun W (hW:Below W9.heap.size W9 W)=>HSO9.out.below keepsL hW
         have hn0:(0:Int)≤(n:Int):=by omega
         have hnm:(n:Int)≤((n+m:Nat):Int):=by omega
         have hi2:(n:Int)≤(jc:Int):=by omega
         have hi3:(n:Int)≤(n:Int)+(m:Int):=by omega
         have hi4:(n:Int)+(m:Int)≤(jc:Int):=by omega
         have hi5:n≤n+m:=by omega
         have hi6:n≤jc:=by omega
         by_cases hcc:jc=n
         ·subst hcc
          obtain rfl:m=0:=by omega
          have hcl:=fun W (hW:Below W9.heap.size W9 W)=>HVD.out ((overL l).take jc) ((overL l).drop jc) (.slice (some ⟨g,0,none⟩) jc jc) (.slice (some ⟨g,0,none⟩) 0 0) W (hW.mono (by rw[HS9.out];omega)) (sg_take (hsoW W hW) HOL.out (by omega) (Nat.le_refl _)) (by rw[List.drop_of_length_le (by have:=HOL.out;omega)];exact⟨[],Or.inl ⟨rfl,_,_,rfl⟩,rfl,fun i c x hc _=>by simp at hc⟩) (by simp;have:=HOL.out;omega) (fun e he=>by rw[List.take_append_drop] at he;exact he)
          have HSW:=Lib.hid hsoW
          clear hsoW
          have HR0:=HR9.out
          have hBd:Below W9.heap.size W9 W9.drew:=(Below.refl _ _).drew
          have HK1:W9.drew.cell? ⟨sb+2,0,none⟩=some (.slice fa vr fc):=(five_cells (HR9.out.below hBd)).1
          have HK0:W9.cell? ⟨sb+2,0,none⟩=some (.slice fa vr fc):=(five_cells HR9.out).1
          go_region_held3 (fun w'=>w'.cell? ⟨sb+2,0,none⟩=some (.slice fa vr fc))
           (first | exact HK5 | exact HK4 | exact HK3 | exact HK2 | exact HK1 | exact HK0)
           ((go_at_call 24;refine (hcl _ (by first | exact hBd | exact Below.refl _ _)).mono ?_;rintro r w10 ⟨vd,gv,rfl,hb10,hvq,hnew⟩;obtain⟨ga,gn,gc,rfl,hga⟩:=hvq.form;have hb910:=below_next hBd hb10;have hr10:=HR9.out.below hb910;obtain⟨y0,y1,y2,y3,y4⟩:=five_cells hr10;have HK2:w10.cell? ⟨sb+2,0,none⟩=some (.slice fa vr fc):=y0;have fz:=hr10.free;have hr11:=hr10.set2 (.int .i64 vd);obtain⟨z0,z1,z2,z3,z4⟩:=five_cells hr11;have fz1:=hr11.free;have HK3:(w10.setCell ⟨sb+2,2,none⟩ (.int .i64 vd)).cell? ⟨sb+2,0,none⟩=some (.slice fa vr fc):=z0;have hr12:=hr11.set3 (.slice ga gn gc);have HK4:((w10.setCell ⟨sb+2,2,none⟩ (.int .i64 vd)).setCell ⟨sb+2,3,none⟩ (.slice ga gn gc)).cell? ⟨sb+2,0,none⟩=some (.slice fa vr fc):=(five_cells hr12).1;have HK5:((w10.setCell ⟨sb+2,2,none⟩ (.int .i64 vd)).drew).cell? ⟨sb+2,0,none⟩=some (.slice fa vr fc):=z0))
          have hvq':=hvq
          go_wp2_with fail
          go_meet
          have hfr:Fr (fun k=>k=sb+2) W9 ((w10.setCell ⟨sb+2,2,none⟩ (.int .i64 vd)).setCell ⟨sb+2,3,none⟩ (.slice ga gn gc)) :=
           ((Fr.of_below hb910 (fun k=>k=sb+2)).trans (Fr.of_set w10 (sb+2) 2 _) (fun _ _ q=>q)).trans (Fr.of_set _ (sb+2) 3 _) (fun _ _ q=>q)
          have hset:Fr (fun k=>k=sb+2) w10 ((w10.setCell ⟨sb+2,2,none⟩ (.int .i64 vd)).setCell ⟨sb+2,3,none⟩ (.slice ga gn gc)):=(Fr.of_set w10 (sb+2) 2 _).trans (Fr.of_set _ (sb+2) 3 _) (fun _ _ q=>q)
          have hgne:∀ ad,ga=some ad→ad.block≠sb+2:=fun ad had e=>by
           subst had
           have h1:=hnew ad.block rfl
           have h2:=HS9.out
           have h3:W9.drew.heap.size=W9.heap.size:=rfl
           omega
          exact⟨vd,ga,gn,gc,hfr,hr12,hvq'.kept hset.size (fun a' n' c' e'=>by cases e';exact hset.block _ (hga _ rfl).1 (hgne _ rfl)),fun ad had=>⟨by subst had;have h1:=hnew ad.block rfl;have h3:W9.drew.heap.size=W9.heap.size:=rfl;omega,Nat.lt_of_lt_of_le (hga ad had).1 hset.size⟩⟩
         ·have hcl:=fun W (hW:Below W9.heap.size W9 W)=>HVD.out ((overL l).take n) ((overL l).drop n) (.slice (some ⟨g,0,none⟩) n jc) (.slice (some ⟨g,n,none⟩) (n+m - n) (jc - n)) W (hW.mono (by rw[HS9.out];omega)) (sg_take (hsoW W hW) HOL.out (by omega) (by omega)) (sg_drop (hsoW W hW) HOL.out (by omega) (by omega)) (by simp;have:=HOL.out;omega) (fun e he=>by rw[List.take_append_drop] at he;exact he)
          have hmm:n+m - n=m:=by omega
          rw[hmm] at hcl
          have HSW:=Lib.hid hsoW
          clear hsoW hmm
          have HR0:=HR9.out
          have hBd:Below W9.heap.size W9 W9.drew:=(Below.refl _ _).drew
          have HK1:W9.drew.cell? ⟨sb+2,0,none⟩=some (.slice fa vr fc):=(five_cells (HR9.out.below hBd)).1
          have HK0:W9.cell? ⟨sb+2,0,none⟩=some (.slice fa vr fc):=(five_cells HR9.out).1
          go_region_held3 (fun w'=>w'.cell? ⟨sb+2,0,none⟩=some (.slice fa vr fc))
           (first | exact HK5 | exact HK4 | exact HK3 | exact HK2 | exact HK1 | exact HK0)
           ((go_at_call 24;refine (hcl _ (by first | exact hBd | exact Below.refl _ _)).mono ?_;rintro r w10 ⟨vd,gv,rfl,hb10,hvq,hnew⟩;obtain⟨ga,gn,gc,rfl,hga⟩:=hvq.form;have hb910:=below_next hBd hb10;have hr10:=HR9.out.below hb910;obtain⟨y0,y1,y2,y3,y4⟩:=five_cells hr10;have HK2:w10.cell? ⟨sb+2,0,none⟩=some (.slice fa vr fc):=y0;have fz:=hr10.free;have hr11:=hr10.set2 (.int .i64 vd);obtain⟨z0,z1,z2,z3,z4⟩:=five_cells hr11;have fz1:=hr11.free;have HK3:(w10.setCell ⟨sb+2,2,none⟩ (.int .i64 vd)).cell? ⟨sb+2,0,none⟩=some (.slice fa vr fc):=z0;have hr12:=hr11.set3 (.slice ga gn gc);have HK4:((w10.setCell ⟨sb+2,2,none⟩ (.int .i64 vd)).setCell ⟨sb+2,3,none⟩ (.slice ga gn gc)).cell? ⟨sb+2,0,none⟩=some (.slice fa vr fc):=(five_cells hr12).1;have HK5:((w10.setCell ⟨sb+2,2,none⟩ (.int .i64 vd)).drew).cell? ⟨sb+2,0,none⟩=some (.slice fa vr fc):=z0))
          have hvq':=hvq
          go_wp2_with fail
          go_meet
          have hfr:Fr (fun k=>k=sb+2) W9 ((w10.setCell ⟨sb+2,2,none⟩ (.int .i64 vd)).setCell ⟨sb+2,3,none⟩ (.slice ga gn gc)) :=
           ((Fr.of_below hb910 (fun k=>k=sb+2)).trans (Fr.of_set w10 (sb+2) 2 _) (fun _ _ q=>q)).trans (Fr.of_set _ (sb+2) 3 _) (fun _ _ q=>q)
          have hset:Fr (fun k=>k=sb+2) w10 ((w10.setCell ⟨sb+2,2,none⟩ (.int .i64 vd)).setCell ⟨sb+2,3,none⟩ (.slice ga gn gc)):=(Fr.of_set w10 (sb+2) 2 _).trans (Fr.of_set _ (sb+2) 3 _) (fun _ _ q=>q)
          have hgne:∀ ad,ga=some ad→ad.block≠sb+2:=fun ad had e=>by
           subst had
           have h1:=hnew ad.block rfl
           have h2:=HS9.out
           have h3:W9.drew.heap.size=W9.heap.size:=rfl
           omega
          exact⟨vd,ga,gn,gc,hfr,hr12,hvq'.kept hset.size (fun a' n' c' e'=>by cases e';exact hset.block _ (hga _ rfl).1 (hgne _ rfl)),fun ad had=>⟨by subst had;have h1:=hnew ad.block rfl;have h3:W9.drew.heap.size=W9.heap.size:=rfl;omega,Nat.lt_of_lt_of_le (hga ad had).1 hset.size⟩⟩
       case rest =>
        obtain⟨ex,ga,gn,gc,hfr,hrep,hvq,hgb⟩:=hcut
        obtain⟨Wx,rfl⟩ : ∃ Wx:World,Wx=wc:=⟨_,rfl⟩
        have hQK:=VerdQ.keeps false vr bn (pairE l)
        have hstart:PAt 30 45 (sb+2) #[.slice fa vr fc,.slice na m nc,.int .i64 ex,.slice ga gn gc] (fun p vd v W=>VerdQ false vr bn (pairE l p) [] vd v W) Wx (prsAt m 0 1) Wx:=PAt.start _ _ _ _ _ _ hrep
        have HFR:=Lib.hid hfr
        have HVQ:=Lib.hid hvq
        have HGB:=Lib.hid hgb
        have HQK:=Lib.hid hQK
        clear hfr hrep hvq hgb hQK
        go_wp2_with fail
        go_loopw [86] (fun iv wr=>∃ i:Nat,iv=.int .i64 i∧i≤m∧PAt 30 45 (sb+2) #[.slice fa vr fc,.slice na m nc,.int .i64 ex,.slice ga gn gc] (fun p vd v W=>VerdQ false vr bn (pairE l p) [] vd v W) Wx (prsAt m i (i+1)) wr) (fun iv _=>m - (intOf iv).toNat)
        case atStart=>exact⟨0,rfl,Nat.zero_le _,hstart⟩
        case round =>
         obtain⟨i,rfl,hi,hP⟩:=hrel
         have HP:=Lib.hid hP
         clear hstart hP
         by_cases hlt:i<m
         ·go_wp2_with fail
          go_loopw [20] (fun jv wr=>∃ j:Nat,jv=.int .i64 j∧i+1≤j∧j≤m∧PAt 30 45 (sb+2) #[.slice fa vr fc,.slice na m nc,.int .i64 ex,.slice ga gn gc] (fun p vd v W=>VerdQ false vr bn (pairE l p) [] vd v W) Wx (prsAt m i j) wr) (fun jv _=>m - (intOf jv).toNat)
          case atStart=>exact⟨i+1,by go_num,Nat.le_refl _,by omega,HP.out⟩
          case round =>
           obtain⟨j,rfl,hij,hj,hP2⟩:=hrel
           have HP2:=Lib.hid hP2
           clear hP2
           by_cases hlt2:j<m
           ·obtain⟨pa,hfr2,hrep2,hpr⟩:=HP2.out
            obtain⟨g,hg⟩ : ∃ g,ja=some ⟨g,0,none⟩:=by
             rcases HOF.out with ⟨_,h2,_⟩ | h
             ·omega
             ·exact h
            subst hg
            have hbel:Below (sb+2) W9 wr:=(HFR.out.trans hfr2 (fun _ _ q=>q)).belowB (by rw[HS9.out];omega)
            have hbel6:Below w6.heap.size w6 wr:=HB69.out.trans (hbel.mono (by have:=HSB.out;omega))
            obtain⟨xe,hxe⟩ : ∃ xe,(overL l)[n+i]?=some xe:=⟨_,List.getElem?_eq_getElem (by have:=HOL.out;omega)⟩
            obtain⟨ye,hye⟩ : ∃ ye,(overL l)[n+j]?=some ye:=⟨_,List.getElem?_eq_getElem (by have:=HOL.out;omega)⟩
            have hSW:=HSO.out.below keepsL hbel6
            obtain⟨a',c',e',-,hfx⟩:=hSW.form keepsL
            rw[← HOL.out] at e'
            cases e'
            have hget:∀ (k:Nat) (e:List Nd),(overL l)[k]?=some e→∃ xa xc,IsE wr (.slice xa e.length xc) e∧wr.cell? ⟨g,k,none⟩=some (.slice xa e.length xc):=by
             intro k e hk
             obtain⟨b,o,cs,e1,⟨u,rfl,hu⟩,hc⟩:=hfx wr (Below.refl _ _) k e hk
             cases e1
             obtain⟨xa,xc,rfl,-,-⟩:=hu.form
             refine⟨xa,xc,hu,?_⟩
             have h:=hc 0 _ rfl
             simpa using h
            obtain⟨xa,xc,hx,hxc⟩:=hget (n+i) xe hxe
            obtain⟨ya,yc,hy,hyc⟩:=hget (n+j) ye hye
            have hT:=sg_take (n:=n) (c:=n) hSW HOL.out (by omega) (Nat.le_refl n)
            obtain⟨-,us3,hU3⟩:=rowV hT
            have hTl:n=((overL l).take n).length:=by rw[List.length_take,← HOL.out];omega
            obtain⟨xl,hxl⟩ : ∃ xl,xl=xe.length:=⟨_,rfl⟩
            obtain⟨yl,hyl⟩ : ∃ yl,yl=ye.length:=⟨_,rfl⟩
            rw[← hxl] at hx hxc
            rw[← hyl] at hy hyc
            obtain⟨B1,hB1⟩ : ∃ B1,B1=(overL l).take n:=⟨_,rfl⟩
            rw[← hB1] at hT hU3 hTl
            have HX:=Lib.hid hx
            have HY:=Lib.hid hy
            have HT:=Lib.hid hT
            have HU3:=Lib.hid hU3
            have HTL:=Lib.hid hTl
            have HXE:=Lib.hid hxe
            have HYE:=Lib.hid hye
            have HB1:=Lib.hid hB1
            have HPR:=Lib.hid hpr
            have HFX:=Lib.hid hfr2
            have HRB:=Lib.hid hrep2
            have HBL:=Lib.hid hbel
            clear hx hy hT hU3 hTl hxe hye hB1 hpr hfr2 hrep2 hbel hbel6 hSW hfx hget hxl hyl
            go_upto_region 26 with fail
            obtain⟨W1,hW1⟩ : ∃ W1,W1=wr.alloc (.cells #[.int .i64 i,.int .i64 j,.int .i64 0,.slice none 0 0] 45):=⟨_,rfl⟩
            obtain⟨pb,hpb⟩ : ∃ pb,pb=wr.heap.size:=⟨_,rfl⟩
            have hkP:=Blk.new wr #[.int .i64 i,.int .i64 j,.int .i64 0,.slice none 0 0] 45
            have hb1:=(Below.refl wr.heap.size wr).alloc (Nat.le_refl _) (.cells #[.int .i64 i,.int .i64 j,.int .i64 0,.slice none 0 0] 45)
            have hz1:W1.heap.size=pb+1:=by rw[hW1,hpb];simp
            rw[← hW1] at hkP hb1 ⊢
            rw[← hpb] at hkP ⊢
            have HPB:=Lib.hid hpb
            have HKP:Hid (Blk W1 pb #[.int .i64 i,.int .i64 j,.int .i64 0,.slice none 0 0] 45):=hkP
            have HB1w:=Lib.hid hb1
            have HZ1:=Lib.hid hz1
            have HGX:g<wr.heap.size:=World.block_lt_of_cell? wr _ hxc
            have HS:Hid (∀ W,Below wr.heap.size wr W→W.cell? ⟨g,n+i,none⟩=some (.slice xa xl xc)∧W.cell? ⟨g,n+j,none⟩=some (.slice ya yl yc)):=fun W h=>⟨(h.cell (p:=⟨g,n+i,none⟩) HGX).trans hxc,(h.cell (p:=⟨g,n+j,none⟩) HGX).trans hyc⟩
            have HGP:Hid (g≠pb):=by show _≠_;rw[hpb];omega
            have HSZ:Hid (g<wr.heap.size):=HGX
            have hi0:(0:Int)≤(n:Int):=by omega
            have hi1:(n:Int)≤(jc:Int):=by omega
            have hi2:(n:Int)≤(n:Int)+(m:Int):=by omega
            obtain⟨p1,hp1⟩ : ∃ p1,p1=n+i:=⟨_,rfl⟩
            obtain⟨p2,hp2⟩ : ∃ p2,p2=n+j:=⟨_,rfl⟩
            have hi3:(0:Int)≤(p1:Int):=by omega
            have hi4:(p1:Int)<(n:Int)+(m:Int):=by omega
            have hi5:(0:Int)≤(p2:Int):=by omega
            have hi6:(p2:Int)<(n:Int)+(m:Int):=by omega
            have HP1:=Lib.hid hp1
            have HP22:=Lib.hid hp2
            rw[← hp1,← hp2] at HS
            have HNIJ:Hid (n+i≤1000∧n+j≤1000):=⟨by omega,by omega⟩
            have hsz:W1.heap.size=pb+1:=HZ1.out
            clear hp1 hp2 hsz
            clear hW1 hpb hkP hb1 hz1 hxc hyc HGX
            have hKA:=HS.out W1 HB1w.out
            have hbA:Below wr.heap.size wr ((W1.alloc (.cells #[.slice xa xl xc,.slice ya yl yc] 54)).drew):=(HB1w.out.alloc HB1w.out.size _).drew
            have hKB:=HS.out _ hbA
            have HBA:=Lib.hid hbA
            clear hbA
            obtain⟨hw1,hw3⟩:=w64_add HP1.out HNIJ.out.1
            obtain⟨hw2,hw4⟩:=w64_add HP22.out HNIJ.out.2
            go_region_held3 (fun w'=>w'.cell? ⟨g,p1,none⟩=some (.slice xa xl xc)∧w'.cell? ⟨g,p2,none⟩=some (.slice ya yl yc))
             (first | exact hKA | exact hKB | exact hKC | exact hKD | exact hKE | exact hKF)
             ((first
              | (go_at_call 24;(with_reducible refine (HVD.out (B1++[xe,ye]) [] _ _ w2' hbC hs2 Sg.nil_ hlenC hsubC).mono ?_);rintro r w10 ⟨vd,gv,rfl,hb10,hvq,hnew⟩;obtain⟨ga2,gn2,gc2,rfl,hga2⟩:=hvq.form;have hbD:=below_next hbR hb10;have hKD:=HS.out _ hbD;have hkp:=(HKP.out.below HB2a.out).below hb10;obtain⟨k0,k1,k2,k3⟩:=four_cells hkp;have hfz:=hkp.free;have hkp2:Blk (w10.setCell ⟨pb,2,none⟩ (.int .i64 vd)) pb #[.int .i64 i,.int .i64 j,.int .i64 vd,.slice none 0 0] 45:=hkp.seti 2 _;obtain⟨k0',k1',k2',k3'⟩:=four_cells hkp2;have hfz2:=hkp2.free;have hKE:(w10.setCell ⟨pb,2,none⟩ (.int .i64 vd)).cell? ⟨g,p1,none⟩=some (.slice xa xl xc)∧(w10.setCell ⟨pb,2,none⟩ (.int .i64 vd)).cell? ⟨g,p2,none⟩=some (.slice ya yl yc):=⟨(set_far HGP.out).trans hKD.1,(set_far HGP.out).trans hKD.2⟩;have hKF:((w10.setCell ⟨pb,2,none⟩ (.int .i64 vd)).setCell ⟨pb,3,none⟩ (.slice ga2 gn2 gc2)).cell? ⟨g,p1,none⟩=some (.slice xa xl xc)∧((w10.setCell ⟨pb,2,none⟩ (.int .i64 vd)).setCell ⟨pb,3,none⟩ (.slice ga2 gn2 gc2)).cell? ⟨g,p2,none⟩=some (.slice ya yl yc):=⟨(set_far HGP.out).trans hKE.1,(set_far HGP.out).trans hKE.2⟩)
              | (refine step_two (by rfl) _ _ (by rfl) (some ⟨g,0,none⟩) n B1 us3 (by rfl) HTL.out (by omega) (HU3.out.below HBA.out) (HT.out.below keepsL HBA.out) ⟨W1.heap.size,0,none⟩ 2 (.slice xa xl xc) (.slice ya yl yc) xe ye (by rfl) (news_at _ _ _ 0 _ rfl) (news_at _ _ _ 1 _ rfl) (Sl.below HX.out HBA.out) (Sl.below HY.out HBA.out) ?_;rintro v2 w2' hb2 ⟨g2,cap2,rfl,hcap2⟩ hs2;have hbR:=below_next HBA.out hb2;have hKC:=HS.out _ hbR;have HB2a:Hid (Below W1.heap.size W1 w2'):=below_next (((Below.refl _ W1).alloc (Nat.le_refl _) _).drew) hb2;have hbC:Below (sb+2) W9 w2':=HBL.out.trans (hbR.mono (by have:=HBL.out.size;have:=HS9.out;omega));have hlenC:(B1++[xe,ye]).length+([] : List (List Nd)).length≤1000:=(by have hq:=HTL.out;simp only[List.length_append,List.length_cons,List.length_nil];omega);have hsubC:∀ e∈(B1++[xe,ye])++[],e∈overL l:=(by rw[List.append_nil];intro e he;rcases List.mem_append.1 he with he | he;(rw[HB1.out] at he;exact List.mem_of_mem_take he);(simp at he;rcases he with rfl | rfl;exact List.mem_of_getElem? HXE.out;exact List.mem_of_getElem? HYE.out)))))
            have hP12:=hkp2.seti 3 (.slice ga2 gn2 gc2)
            have hsb12:Below wr.heap.size wr ((w10.setCell ⟨pb,2,none⟩ (.int .i64 vd)).setCell ⟨pb,3,none⟩ (.slice ga2 gn2 gc2)):=(hbD.setCell (by show wr.heap.size≤pb;rw[HPB.out];exact Nat.le_refl _) _).setCell (by show wr.heap.size≤pb;rw[HPB.out];exact Nat.le_refl _) _
            have hs12:((w10.setCell ⟨pb,2,none⟩ (.int .i64 vd)).setCell ⟨pb,3,none⟩ (.slice ga2 gn2 gc2)).heap.size=w10.heap.size:=by simp
            have hv12:VerdQ false vr bn (pairE l (i,j)) [] vd (.slice ga2 gn2 gc2) ((w10.setCell ⟨pb,2,none⟩ (.int .i64 vd)).setCell ⟨pb,3,none⟩ (.slice ga2 gn2 gc2)):=by
             rw[pairE_at HN.out HXE.out HYE.out,← HB1.out]
             refine hvq.kept (by rw[hs12];exact Nat.le_refl _) fun a n c e=>?_
             cases e
             have h1:=hnew _ rfl
             have h2:=HB2a.out.size
             have h3:=HZ1.out
             rw[Below.heap_setCell _ _ _ _ (by show _≠pb;omega),Below.heap_setCell _ _ _ _ (by show _≠pb;omega)]
            have hga12:∀ ad,ga2=some ad→w2'.heap.size≤ad.block∧ad.block<((w10.setCell ⟨pb,2,none⟩ (.int .i64 vd)).setCell ⟨pb,3,none⟩ (.slice ga2 gn2 gc2)).heap.size:=fun ad had=>by
             subst had
             exact⟨hnew _ rfl,by rw[hs12];exact (hga2 _ rfl).1⟩
            have hz2:=HB2a.out.size
            have HK12:Hid (Blk ((w10.setCell ⟨pb,2,none⟩ (.int .i64 vd)).setCell ⟨pb,3,none⟩ (.slice ga2 gn2 gc2)) pb #[.int .i64 i,.int .i64 j,.int .i64 vd,.slice ga2 gn2 gc2] 45):=hP12
            clear hP12 hs12 hKA hKB hKC hKD hKE hKF hw1 hw2 hw3 hw4 hbR hbC hs2 hlenC hsubC hb10 hvq hnew hga2 hkp k0 k1 k2 k3 hfz hkp2 k0' k1' k2' k3' hfz2 hbD hb2
            generalize (w10.setCell ⟨pb,2,none⟩ (.int .i64 vd)).setCell ⟨pb,3,none⟩ (.slice ga2 gn2 gc2)=W12 at hsb12 hv12 hga12 HK12 ⊢
            have hba:Below W12.heap.size W12 (W12.alloc (.cells #[.int .i64 i,.int .i64 j,.int .i64 vd,.slice ga2 gn2 gc2] 45)):=(Below.refl _ _).alloc (Nat.le_refl _) _
            have hpr12:=HPR.out.kept HQK.out (below_next hsb12 hba).size fun k _ hk=>(below_next hsb12 hba).block k hk
            have hrep12:Blk W12 (sb+2) #[.slice fa vr fc,.slice na m nc,.int .i64 ex,.slice ga gn gc,pa] 30:=HRB.out.below hsb12
            obtain⟨r0,r1,r2,r3,r4⟩:=five_cells hrep12
            have fr12:=hrep12.free
            obtain⟨k0,k1,k2,k3⟩:=four_cells HK12.out
            have HS12:=Lib.hid hsb12
            have HV12:=Lib.hid hv12
            have HG12:=Lib.hid hga12
            have HR12:=Lib.hid hrep12
            have HPF:=Lib.hid HPR.out.form
            obtain⟨q,hq⟩ : ∃ q,q=(prsAt m i j).length:=⟨_,rfl⟩
            have HQL:=Lib.hid hq
            have hq1000:q≤1000:=by rw[hq];exact prsAt_len hml (by omega) (by omega)
            obtain⟨cs,hcs1,hcs2,hcs3,hcs4⟩:=hpr12
            rw[← hq] at hcs1 hcs2
            have HC1:=Lib.hid hcs1
            have HC2:=Lib.hid hcs2
            have HC3:=Lib.hid hcs3
            have HC4:=Lib.hid hcs4
            have hxs12:Wx.heap.size≤W12.heap.size:=Nat.le_trans HFX.out.size hsb12.size
            clear hsb12 hv12 hga12 hrep12 hba hq hcs1 hcs2 hcs3 hcs4
            go_wp2_with (at_builtin;refine wpList_app rowPair rfl _ _ rfl Wx.heap.size pa q (cs.flatMap id) rfl HC1.out ⟨W12.heap.size,0,none⟩ 1 [.int .i64 i,.int .i64 j,.int .i64 vd,.slice ga2 gn2 gc2] rfl rfl (World.news_of_block (cs:=#[.int .i64 i,.int .i64 j,.int .i64 vd,.slice ga2 gn2 gc2]) (t:=45) (fr:=(0,0)) (heap_alloc_new W12 _)) (by simp[Value.oneCell']) (by omega) (by simp;omega) (W12.heap.size+1) (by simp) ?_)
            intro gg cap w13 hown hgrow hat hlt13 hcap13
            have hpaB:∀ k,pa.ownBlock=some k→Wx.heap.size≤k∧k<wr.heap.size:=fun k hk=>by
             rcases HPF.out with h | ⟨g',c',h,h1,h2⟩
             ·rw[h] at hk;cases hk
             ·rw[h] at hk;cases hk;exact⟨h1,h2⟩
            have h9x:=HFR.out.size
            have h9z:=HS9.out
            have hrx:=HFX.out.size
            have hz1':=HZ1.out
            have hpb':=HPB.out
            have h12r:=HS12.out.size
            have hb13:Blk w13 (sb+2) #[.slice fa vr fc,.slice na m nc,.int .i64 ex,.slice ga gn gc,pa] 30:=by
             have h1:=HR12.out.lt
             exact (hgrow.block (sb+2) (by simp;omega) (fun e=>by have:=(hpaB _ e.symm).1;omega)).trans ((Below.heap_alloc _ _ _ h1).trans HR12.out)
            have hP13:PRow 45 (fun p vd v W=>VerdQ false vr bn (pairE l p) [] vd v W) Wx.heap.size w13 (.slice (some ⟨gg,0,none⟩) (q+1) cap) (prsAt m i j++[(i,j)]):=by
             have hown':=hown
             rw[HQL.out] at hown' ⊢
             refine PRow.push HQK.out (by rw[← HQL.out];exact HC2.out) HC3.out HC4.out (HV12.out.kept (by simp) fun a n c e=>by cases e;exact Below.heap_alloc _ _ _ (HG12.out _ rfl).2) (fun ad had=>?_) (by rw[List.flatMap_id];exact hown') hgrow ?_
             ·have h1:=HG12.out ad had
              refine⟨by omega,by simp;omega,fun e=>?_⟩
              have h2:=hpaB _ e
              omega
             ·rcases hat with h | h
              ·exact Or.inl h
              ·exact Or.inr (by rw[h];simp)
            have hBX:Below Wx.heap.size wr w13:=((HS12.out.mono hrx).alloc hxs12 _).grown hgrow (by simp;omega) (fun k hk=>(hpaB k hk).1)
            obtain⟨r0',r1',r2',r3',r4'⟩:=five_cells hb13
            have fr13:=hb13.free
            have HB13:=Lib.hid hb13
            have HP13:=Lib.hid hP13
            have HBX:=Lib.hid hBX
            clear hb13 hP13 hBX hown hgrow hat k0 k1 k2 k3 r0 r1 r2 r3 r4 fr12 hpaB
            go_wp2_with fail
            have HPN:Hid (PAt 30 45 (sb+2) #[.slice fa vr fc,.slice na m nc,.int .i64 ex,.slice ga gn gc] (fun p vd v W=>VerdQ false vr bn (pairE l p) [] vd v W) Wx (prsAt m i (j+1)) (w13.setCell ⟨sb+2,4,none⟩ (.slice (some ⟨gg,0,none⟩) (q+1) cap))):=by
             rw[prsAt_snoc hij]
             refine⟨_,(HFX.out.trans (S':=fun k=>Wx.heap.size≤k) ⟨HBX.out.os,HBX.out.tape,HBX.out.output,HBX.out.size,fun k _ hn=>HBX.out.block k (by omega)⟩ (fun k hk h=>by omega)).trans (Fr.of_set w13 (sb+2) 4 _) (fun _ _ q=>q),HB13.out.seti 4 _,?_⟩
             exact HP13.out.kept HQK.out (by simp) fun k hk _=>Below.heap_setCell _ _ _ _ (by show k≠sb+2;omega)
            clear fr13 r0' r1' r2' r3' r4'
            go_roundw
            case rel=>exact⟨j+1,by go_num,by omega,by omega,HPN.out⟩
            case measure=>simp[intOf];omega
           ·have hje:j=m:=by omega
            subst hje
            have HP3:Hid (PAt 30 45 (sb+2) #[.slice fa vr fc,.slice na j nc,.int .i64 ex,.slice ga gn gc] (fun p vd v W=>VerdQ false vr bn (pairE l p) [] vd v W) Wx (prsAt j (i+1) (i+2)) wr):=by have h:=HP2.out;rw[prsAt_next] at h;exact h
            go_wp2_with fail
            go_roundw
            case rel=>exact⟨i+1,by go_num,by omega,HP3.out⟩
            case measure=>simp[intOf];omega
         ·have hie:i=m:=by omega
          subst hie
          obtain⟨pa,hfr2,hrep2,hpr⟩:=HP.out
          rw[prsAt_full] at hpr
          obtain⟨px,pn,pc,rfl⟩ : ∃ x n c,pa=.slice x n c:=by
           rcases hpr.form with h | ⟨g,c,h,_⟩
           ·exact⟨_,_,_,h⟩
           ·exact⟨_,_,_,h⟩
          have hrep3:Blk wr (sb+2) #[.slice fa vr fc,.slice na i nc,.int .i64 ex,.slice ga gn gc,.slice px pn pc] 30:=hrep2
          have hbel:Below (sb+2) W9 wr:=(HFR.out.trans hfr2 (fun _ _ q=>q)).belowB (by rw[HS9.out];omega)
          have hbel6:Below w6.heap.size w6 wr:=HB69.out.trans (hbel.mono (by have:=HSB.out;omega))
          have hkz:=(HK5.out.below HB6.out).below hbel6
          obtain⟨p0,p1,p2,p3,p4⟩:=five_cells hkz
          have f0:=hkz.free
          obtain⟨z0,z1,z2,z3,z4⟩:=five_cells hrep3
          have HBW:Hid (Below w.heap.size w wr):=below_next (below_next HB5.out HB6.out) hbel6
          have HB6r:=Lib.hid hbel6
          have HFX:=Lib.hid hfr2
          have HPR:=Lib.hid hpr
          have HZS:Hid (hz+1<w5.heap.size):=hz5
          clear hfr2 hrep2 hpr hrep3 hbel hbel6 hkz
          go_wp2_with fail
          refine bodyPost_ret (v:=.tuple #[.agg #[.slice fa vr fc,.slice na i nc,.int .i64 ex,.slice ga gn gc,.slice px pn pc],.int .i64 0]) (by simp[results,Tryz.results9,go_sem,p0,p1,p2,p3,p4]) rfl ⟨?_,0,_,rfl,Or.inr ⟨rfl,HGOOD.out,bn,rfl,?_⟩⟩
          ·have hzz:w.heap.size≤hz+1:=by rw[HHZ.out];omega
           exact ((((HBW.out.setCell hzz _).setCell hzz _).setCell hzz _).setCell hzz _).setCell hzz _
          ·have hset:=fun k (hk:k≠hz+1)=>five_set wr (hz+1) (.slice fa vr fc) (.slice na i nc) (.int .i64 ex) (.slice ga gn gc) (.slice px pn pc) k hk
           have hsize:(((((wr.setCell ⟨hz+1,0,none⟩ (.slice fa vr fc)).setCell ⟨hz+1,1,none⟩ (.slice na i nc)).setCell ⟨hz+1,2,none⟩ (.int .i64 ex)).setCell ⟨hz+1,3,none⟩ (.slice ga gn gc)).setCell ⟨hz+1,4,none⟩ (.slice px pn pc)).heap.size=wr.heap.size:=by simp
           generalize (((((wr.setCell ⟨hz+1,0,none⟩ (.slice fa vr fc)).setCell ⟨hz+1,1,none⟩ (.slice na i nc)).setCell ⟨hz+1,2,none⟩ (.int .i64 ex)).setCell ⟨hz+1,3,none⟩ (.slice ga gn gc)).setCell ⟨hz+1,4,none⟩ (.slice px pn pc))=W' at hset hsize ⊢
           have hzw:=HHZ.out
           have h6s:=HB6.out.size
           have h9s:=HB69.out.size
           have h9z:=HS9.out
           have hxs:=HFR.out.size
           have hrs:=HFX.out.size
           have hz5':=HZS.out
           have hsb':=HSB.out
           refine⟨_,_,_,_,_,rfl,?_,?_,?_,?_⟩
           ·exact sg_of_rwe (HFW.out.kept fun k hk hl=>(hset k (by omega)).trans (HB6r.out.block k hl))
           ·refine names_sl (base:=W0.heap.size) (row_kept HRN.out fun k hk _ hl=>(hset k (by have:=HHH.out;omega)).trans ?_)
            exact (below_next (below_next (below_next HB12.out HB.out) HB6.out) HB6r.out).block k hl
           ·rw[HKN.out,← HVR.out,← HN.out]
            exact (HVQ.out.kept (by omega:Wx.heap.size≤W'.heap.size) fun a n c e=>by
             cases e
             have h1:=HGB.out _ rfl
             exact (hset _ (by omega)).trans (HFX.out.block _ h1.2 (by omega)))
           ·rw[HKN.out,← HVR.out,← HMM.out]
            exact (HPR.out.kept HQK.out (by omega) fun k hk hl=>hset k (by omega)).mono (by have:=HB5.out.size;omega)
end Go.Proofs.YtmacepicoandkaaGreatDoor
