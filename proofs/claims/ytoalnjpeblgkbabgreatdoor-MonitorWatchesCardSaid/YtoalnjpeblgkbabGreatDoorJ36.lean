/- Step, of a watch: the walk. -/
import Derived.Deep.QuietTactic
import Derived.Test.YtoalnjpeblgkbabGreatDoorJ32
import Derived.Test.YtoalnjpeblgkbabGreatDoorJ35
set_option linter.unusedVariables false
set_option linter.unusedSimpArgs false
namespace Go.Proofs.YtoalnjpeblgkbabGreatDoor
open Go.RowKit
theorem newly_is {l:List Chk} {fs:List Int} {row:List Int} {k:Nat} {c:Chk} {f:Int} (hc:l[k]?=some c) (hf:fs[k]?=some f):newly l fs row k=((f == -1) && !holdsB c.holds row):=by unfold newly;rw[hc,hf]
set_option maxRecDepth 100000 in
set_option maxHeartbeats 2000000 in
theorem Step_any {w:World} {M:List Nat} {b fb fo:Nat} {l:List Chk} {fs:List Int} {N:Int} (h:WatchAt w M b fb fo l fs N) (hfs:fs.length=l.length) (hl:l.length≤60) (hN:0≤N∧N≤1000) (row:List Int) (vr:Value) (hr:SlN intC 1 [b,fb] w vr row) :
  Calls Tryz.prog 9 #[.pointer (some ⟨b,0,none⟩),vr] w fun e w'=>∃ u,e=.returned u∧FrS [b,fb] w w'∧WatchAt w' M b fb fo l (stepTo l fs row N l.length) (N+1)∧∀ M:List Nat,(∀ i∈M,i<w.heap.size)→SlN intC 1 M w' u (failedTo l fs row l.length):=by
 obtain⟨ra,rc,rfl,-,-⟩:=hr.form
 obtain⟨rn,hrn⟩ : ∃ rn,rn=row.length:=⟨_,rfl⟩
 rw[← hrn] at hr ⊢
 have HRW:=Lib.hid hr
 clear hr hrn
 obtain⟨n,hn⟩ : ∃ n,n=l.length:=⟨_,rfl⟩
 rw[← hn] at hfs hl ⊢
 have HN:=Lib.hid hn
 have HFS:=Lib.hid hfs
 obtain⟨vl0,vf0,k1,k2,k3⟩:=h.ex
 obtain⟨la0,lc0,rfl,-,-⟩:=k2.form
 rw[← hn] at k1 k2
 obtain⟨fa0,fc0,rfl,-,hfa,-⟩:=k3.form
 rw[hfs] at k1 k3
 have hbw:b<w.heap.size:=k1.lt
 have HNE:=Lib.hid h.ne
 have HMB:=Lib.hid h.hb
 have HMF:=Lib.hid h.hf
 have c00:w.cell? ⟨b,0,none⟩=some (.slice la0 n lc0):=k1.c rfl
 have HBW:=Lib.hid hbw
 have HNN:=Lib.hid hN
 have HK1:=Lib.hid k1
 have HK2:=Lib.hid k2
 have HK3:=Lib.hid k3
 have HFA:=Lib.hid hfa
 obtain⟨base,hbase⟩ : ∃ base,base=w.heap.size:=⟨_,rfl⟩
 have HBASE:=Lib.hid hbase
 clear hn hfs k1 k2 k3 h hbw hbase hN hfa
 go_enter Tryz.func9,Tryz.ntmps9
 go_wp2_with fail
 go_loopw [5,14] (fun out iv wr=>∃ t:Nat,iv=.int .i64 t∧t≤n∧FrS [fb] w wr∧RegsL wr fb fo (.slice fa0 n fc0) (stepTo l fs row N t)∧(t≠0∨Blk wr b #[.slice la0 n lc0,.slice fa0 n fc0,.int .i64 N] 58)∧wr.ownsRow base 3 1 out (failedTo l fs row t).length ((failedTo l fs row t).flatMap intC)) (fun _ iv _=>n - (intOf iv).toNat)
 case atStart=>exact⟨0,rfl,Nat.zero_le _,FrS.refl _ _,by rw[stepTo_zero];exact HK3.out,Or.inr HK1.out,World.ownsRow_nil _ _ _ _⟩
 case round =>
  obtain⟨t,rfl,ht,hF,hR,hB,hrow⟩:=hrel
  have HF:=Lib.hid hF
  have HR:=Lib.hid hR
  have HROW:=Lib.hid hrow
  have ht0:(0:Int)≤(t:Int):=by omega
  have k1:Blk wr b #[.slice la0 n lc0,.slice fa0 n fc0,.int .i64 N] 58:=by
   rcases hB with h0 | h0
   ·refine HF.out.blk HK1.out fun q=>?_
    have hne:fs≠[]:=fun e=>by have:=HFS.out;rw[e] at this;simp at this;omega
    exact HNE.out hne (List.mem_singleton.1 q).symm
   ·exact h0
  clear hF hR hrow c00 hB
  by_cases hlt:t<n
  ·obtain⟨c,hc⟩ : ∃ c,l[t]?=some c:=⟨_,List.getElem?_eq_getElem (by have:=HN.out;omega)⟩
   obtain⟨f,hf⟩ : ∃ f,fs[t]?=some f:=⟨_,List.getElem?_eq_getElem (by have:=HFS.out;omega)⟩
   have HNW:=Lib.hid (newly_is (row:=row) hc hf)
   have hsne:stepTo l fs row N t≠[]:=fun e=>by have:=stepTo_len l fs row N t;rw[e,HFS.out] at this;simp at this;omega
   have hfne:fs≠[]:=fun e=>by have:=HFS.out;rw[e] at this;simp at this;omega
   obtain⟨rfl,hfbw⟩:=HFA.out hfne
   have hne:fb≠b:=HNE.out hfne
   obtain⟨_,_,-,-,-,hfcc⟩:=HR.out.form
   obtain⟨cf,zf⟩:=hfcc t f (by rw[stepTo_get _ _ _ _ _ _ (by rw[HFS.out];exact hlt),if_neg (by omega),List.getD_eq_getElem?_getD,hf];rfl)
   have c0:wr.cell? ⟨b,0,none⟩=some (.slice la0 n lc0):=k1.c rfl
   have c1:wr.cell? ⟨b,1,none⟩=some (.slice (some ⟨fb,fo,none⟩) n fc0):=k1.c rfl
   have c2:wr.cell? ⟨b,2,none⟩=some (.int .i64 N):=k1.c rfl
   have hcall:=holds_any l t (by rw[← HN.out];exact hlt) row (.slice la0 n lc0) (.slice ra rn rc) wr (HK2.out.fr HF.out (fun i hi=>by rw[List.mem_singleton.1 hi];exact HMF.out)).sl ((HRW.out.fr HF.out (fun i hi=>by simp at hi;simp[hi])).sl)
   have hcl:l[t]=c:=by
    have:=List.getElem?_eq_getElem (l:=l) (i:=t) (by have:=HN.out;omega)
    rw[this] at hc;exact Option.some.inj hc
   rw[hcl] at hcall
   have htn:(t:Int)<(n:Int):=by omega
   have HFBW:=Lib.hid hfbw
   have HSNE:=Lib.hid hsne
   have HBK:=Lib.hid k1
   have HNEB:=Lib.hid hne
   clear hfcc hc hf hcl hfbw hsne k1 hfne hne
   by_cases hf1:f = -1
   ·subst hf1
    cases hh:holdsB c.holds row with
    | true =>
     rw[hh] at hcall
     have HNT:Hid (newly l fs row t=false):=by show _=_;rw[HNW.out,hh];rfl
     clear hh
     go_wp2_with fail
     refine hcall.mono ?_
     rintro e w1 ⟨rfl,rfl⟩
     go_wp2_with fail
     go_roundw
     case rel=>exact⟨t+1,by go_num,by omega,HF.out,by rw[stepTo_skip _ _ _ _ _ HNT.out];exact HR.out,Or.inr HBK.out,by rw[failedTo_succ,HNT.out];simpa using HROW.out⟩
     case measure=>simp[intOf];omega
    | false =>
     rw[hh] at hcall
     have HNT:Hid (newly l fs row t=true):=by show _=_;rw[HNW.out,hh];rfl
     clear hh
     go_wp2_with fail
     refine hcall.mono ?_
     rintro e w1 ⟨rfl,rfl⟩
     clear hcall
     have hfbb:fb<base:=by rw[HBASE.out];exact HFBW.out
     have hown1:=ownsRow_setCell_below HROW.out (a:=⟨fb,fo+t,none⟩) hfbb (.int .i64 N)
     have hnb:((w1.setCell ⟨fb,fo+t,none⟩ (.int .i64 N)).alloc (.cells #[.int .i64 t] 3)).heap[w1.heap.size]?=some (.cells #[.int .i64 t] 3 (0,0)):=by
      have:=heap_alloc_new (w1.setCell ⟨fb,fo+t,none⟩ (.int .i64 N)) (.cells #[.int .i64 t] 3)
      rwa [World.size_setCell] at this
     have hbs:base≤w1.heap.size:=by rw[HBASE.out];exact HF.out.size
     have hfl:=failedTo_len l fs row t
     have HFBB:=Lib.hid hfbb
     have HU:=Lib.hid hown1.lt
     go_wp2_with fail
     go_still_tail 10,(by kernel_rfl)
     go_wp2_with (at_builtin;refine wpList_app rowIM rfl _ _ rfl base _ _ _ rfl (World.ownsRow.alloc hown1 _) ⟨w1.heap.size,0,none⟩ 1 [.int .i64 t] rfl rfl (World.news_of_block hnb) (by simp[Value.oneCell']) (by omega) (by simp;omega) (w1.heap.size+1) (by simp) ?_)
     intro g cap w4 hown hgrow _ _ _
     have h2:FrS [fb] w (w1.setCell ⟨fb,fo+t,none⟩ (.int .i64 N)):=HF.out.setCell (Or.inl (by simp)) _
     have hu:∀ q,u5.ownBlock=some q→w.heap.size≤q:=fun q hq=>by rw[← HBASE.out];exact (HU.out q hq).1
     have h4:FrS [fb] w w4:=((h2.alloc _).drew).grown hgrow hu
     have h30:fb<(w1.setCell ⟨fb,fo+t,none⟩ (.int .i64 N)).heap.size:=by have:=HFBB.out;simp;omega
     have h3:=(HR.out.set t N).of_block (w':=w4) (fun _=>(hgrow.block fb (by show fb<(Array.push _ _).size;simp at h30 ⊢;omega) (fun e=>by have:=(HU.out fb e.symm).1;have:=HFBB.out;omega)).trans (Below.heap_alloc _ _ _ h30))
     rw[← stepTo_set _ _ _ _ _ HNT.out] at h3
     have h5:(failedTo l fs row t).flatMap intC++[.int .i64 t]=(failedTo l fs row (t+1)).flatMap intC∧(failedTo l fs row t).length+1=(failedTo l fs row (t+1)).length:=by
      rw[failedTo_succ,HNT.out];simp[List.flatMap_append,intC]
     rw[h5.1,h5.2] at hown
     have H4:=Lib.hid h4
     have H3:=Lib.hid h3
     have HO:=Lib.hid hown
     rw[h5.2]
     clear h2 hu h4 h3 h30 h5 hown hgrow hown1 hnb hbs hfl
     go_wp2_with fail
     go_roundw
     case rel=>exact⟨t+1,by go_num,by omega,H4.out,H3.out,Or.inl (by omega),HO.out⟩
     case measure=>simp[intOf];omega
   ·have hfb:(f == -1)=false:=by simpa using hf1
    have HNT:Hid (newly l fs row t=false):=by show _=_;rw[HNW.out,hfb];rfl
    clear hf1 hcall
    go_wp2_with fail
    go_roundw
    case rel=>exact⟨t+1,by go_num,by omega,HF.out,by rw[stepTo_skip _ _ _ _ _ HNT.out];exact HR.out,Or.inr HBK.out,by rw[failedTo_succ,HNT.out];simpa using HROW.out⟩
    case measure=>simp[intOf];omega
  ·have hte:t=n:=by omega
   subst hte
   have c2:wr.cell? ⟨b,2,none⟩=some (.int .i64 N):=k1.c rfl
   have z2:wr.frozen? ⟨b,2,none⟩=false:=k1.z (v:=.int .i64 N) rfl
   have HBK:=Lib.hid k1
   have hw:wrap64 (N+1)=N+1:=by have:=HNN.out;unfold wrap64;omega
   have HWR:=Lib.hid hw
   clear k1 hw
   go_wp2_with fail
   go_ret
   rw[HWR.out]
   have hbb:b<base:=by rw[HBASE.out];exact HBW.out
   refine⟨_,rfl,?_,⟨⟨_,_,(HBK.out.puti 2 (.int .i64 (N+1))),?_,?_⟩,?_,HMB.out,HMF.out⟩,?_⟩
   ·exact (HF.out.mono (fun i hi _=>by simp at hi;simp[hi])).setCell (Or.inl (by simp)) _
   ·exact HK2.out.fr ((HF.out.mono (S':=[b,fb]) (fun i hi _=>by simp at hi;simp[hi])).setCell (Or.inl (by simp)) _) (fun i hi=>by simp only[List.mem_cons,List.not_mem_nil,or_false] at hi;rcases hi with rfl | rfl;exact HMB.out;exact HMF.out)
   ·refine HR.out.other (fun q=>?_) 2 _
    have hne:fs≠[]:=fun e=>q (List.eq_nil_of_length_eq_zero (by rw[stepTo_len,e];rfl))
    exact HNE.out hne
   ·intro q
    have hne:fs≠[]:=fun e=>q (List.eq_nil_of_length_eq_zero (by rw[stepTo_len,e];rfl))
    exact HNE.out hne
   ·exact fun M hM=>ownsRow_apart intC_len (ownsRow_setCell_below HROW.out (a:=⟨b,2,none⟩) hbb _) rfl (fun i hi=>by rw[HBASE.out];exact hM i hi)
end Go.Proofs.YtoalnjpeblgkbabGreatDoor
