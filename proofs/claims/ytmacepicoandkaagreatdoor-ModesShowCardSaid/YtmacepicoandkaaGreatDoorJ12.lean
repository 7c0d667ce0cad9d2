/- The reference: calls put together; expressions under any operator: the walk. The reference: expressions in the places of streams: the walk. The reference: expressions in the places of streams: the walk of Put. -/
import Derived.Test.YtmacepicoandkaaGreatDoorJ3
import Derived.Test.YtmacepicoandkaaGreatDoorJ11
set_option linter.unusedVariables false
set_option linter.unusedSimpArgs false
namespace Go.Proofs.YtmacepicoandkaaGreatDoor
open Go.RowKit Go.Shelf Tx
set_option maxRecDepth 100000 in
set_option maxHeartbeats 8000000 in
theorem rjoin_call (n:Int) (s:ByteArray) (Fs:List Fo) (v:Value) (w:World) (hv:Sg 1 IsF w v Fs) (h1:∀ F∈Fs,F.count=1) (hz:(cat Fs).size+Fs.length≤500000) :
  Calls Tryz.prog 62 #[.int .i64 27,.int .i64 n,.string s,v] w fun r w'=>∃ v',r=.returned v'∧OwnE w.heap.size w' v' ((joinF 27 n s Fs).flat 0)∧Below w.heap.size w w':=by
 obtain⟨a,c,rfl,hc,hx⟩:=hv.form keepsF
 obtain⟨m,hm⟩ : ∃ m,m=Fs.length:=⟨_,rfl⟩
 have hmb:m≤500000:=by omega
 rw[← hm] at hc ⊢
 have HJ:Hid (joinF 27 n s Fs=.tr 27 n s (chain .no Fs) .no):=rfl
 have e28:((27:Int)==28)=false:=rfl
 have e27:((27:Int)==27)=true:=rfl
 have e27':((27:Int) != 27)=false:=rfl
 have HM:=Lib.hid hm
 have HX:=Lib.hid hx
 have H1:=Lib.hid h1
 have HZ:=Lib.hid hz
 obtain⟨nb,hnb⟩ : ∃ nb,nb=w.heap.size:=⟨_,rfl⟩
 have HNB:=Lib.hid hnb
 clear hm hx h1 hz hv
 go_enter Tryz.func62,Tryz.ntmps62
 go_wp2_with fail
 refine (leaf_any 27 n s w).mono ?_
 rintro r w1 ⟨rfl,hb1⟩
 have nbw:=hb1.alloc hb1.size (.cells #[.int .i64 27,.int .i64 (-1),.int .i64 (-1),.int .i64 (-1),.int .i64 n,.string s] 85)
 have kb:=Blk.new w1 #[.int .i64 27,.int .i64 (-1),.int .i64 (-1),.int .i64 (-1),.int .i64 n,.string s] 85
 have hxb:nb≤w1.heap.size:=by rw[hnb];exact hb1.size
 have KB:=Lib.hid kb
 have NBW:=Lib.hid nbw
 clear hb1 kb nbw
 go_wp2_with fail
 generalize hW1:w1.alloc (.cells #[.int .i64 27,.int .i64 (-1),.int .i64 (-1),.int .i64 (-1),.int .i64 n,.string s] 85)=W1 at *
 have kb:=KB.out
 have nbw:=NBW.out
 have hltb:=kb.lt
 generalize w1.heap.size=xb at *
 clear hW1 KB NBW
 refine (rKids_any ⟨27,-1,-1,-1,n,s⟩ W1).mono ?_
 rintro r w2 ⟨kv,rfl,hkr,hb2⟩
 obtain⟨ka,kc,hkv,-⟩:=hkr.form
 obtain⟨kl,hkl⟩ : ∃ q,q=(kids ⟨27,-1,-1,-1,n,s⟩).length:=⟨_,rfl⟩
 rw[← hkl] at hkv
 subst hkv
 have kb2:=kb.below hb2
 have B2:=nbw.trans (hb2.mono (by rw[← hnb];omega))
 have hlt2:=kb2.lt
 have KB2:=Lib.hid kb2
 clear hkr hkl kb nbw hb2 hltb hnb
 go_wp2_with fail
 go_loopw [11,12,13,14] (fun ov tv la i wr=>∃ (t:Nat) (l:List Int) (p:Int),i=.int .i64 t∧t≤m∧la=.int .i64 p∧((t=0∧p = -1)∨(0<t∧p=((chain .no (Fs.take t)).size:Int) - 1))∧OwnE nb wr ov ((chain .no (Fs.take t)).flat 0)∧l.length=t∧OwnI nb wr tv l∧(∀ g,ov.ownBlock=some g→xb<g∧tv.ownBlock≠some g)∧(∀ g,tv.ownBlock=some g→xb<g)∧Below nb w wr ∧
  Blk wr xb #[.int .i64 27,.int .i64 (-1),.int .i64 (-1),.int .i64 (-1),.int .i64 n,.string s] 85) (fun _ _ _ i _=>m - (intOf i).toNat)
 case atStart=>exact⟨0,[],-1,rfl,Nat.zero_le _,rfl,Or.inl ⟨rfl,rfl⟩,OwnE.nil_ _ _,rfl,World.ownsRow_nil _ _ _ _,(fun g hg=>by cases hg),(fun g hg=>by cases hg),by rw[HNB.out];exact B2,KB2.out⟩
 case round =>
  obtain⟨t,l,p,rfl,ht,rfl,hp,hO,hl,hK,hd1,hd2,hB,hb⟩:=hrel
  clear B2
  have hsz0:=chain_take Fs t
  have hz:=HZ.out
  obtain⟨va,vc,hva,hvc⟩:=hO.form
  obtain⟨ka2,kc2,hka,hkc⟩:=hK.form
  rw[Fo.flat_len] at hva hvc
  rw[hl] at hka hkc
  obtain⟨ol,hol⟩ : ∃ ol,ol=(chain .no (Fs.take t)).size:=⟨_,rfl⟩
  rw[← hol] at hva hvc hp
  subst hva hka
  have HP:=Lib.hid hp
  have HLL:=Lib.hid hl
  have holb:ol≤500000:=by omega
  have HOL:=Lib.hid hol
  have hnbl:=hb.lt
  clear hsz0 hz hol hp hl
  by_cases hlt:t<m
  ·obtain⟨F,hF⟩ : ∃ F,Fs[t]?=some F:=⟨_,List.getElem?_eq_getElem (by have:=HM.out;omega)⟩
   have hF1:=H1.out F (List.mem_of_getElem? hF)
   have hFs:=one_size hF1
   have hFF:Hid (Fs.take (t+1)=Fs.take t++[F]):=take_at hF
   have hszF:ol+F.size≤500000:=by
    have h1:=chain_take Fs (t+1)
    rw[hFF.out,chain_snoc] at h1
    simp only[Fo.size,Fo.size_app] at h1
    have:=HZ.out;have:=HOL.out;omega
   obtain⟨b,o,cs,rfl,⟨u,rfl,hu⟩,hcell⟩:=HX.out w (Below.refl _ _) t F hF
   have cu0:=hcell 0 u rfl
   simp only[Nat.mul_one,Nat.add_zero] at cu0
   have cu:wr.cell? ⟨b,o+t,none⟩=some u:=(hB.cell (by rw[HNB.out];exact World.block_lt_of_cell? w _ cu0)).trans cu0
   obtain⟨pa,pc,rfl,hpc,hpx⟩:=hu.form
   rw[Fo.flat_len] at cu hpc
   obtain⟨fl,hfl⟩ : ∃ fl,fl=F.size:=⟨_,rfl⟩
   have hbh:=rbehind_any (F.flat 0) (by rw[Fo.flat_len];omega) (fun x hx=>small_mono (small_flat F 0 x hx) (by omega)) pa pc nb w (by rw[HNB.out];exact hpx) ((chain .no (Fs.take t)).flat 0) (.slice va ol vc) wr hB (by omega) hO (by rw[Fo.flat_len,← HOL.out];omega)
   rw[Fo.flat_len,← hfl] at hbh
   rw[← hfl] at cu hpc hszF hFs
   have HBH:=Lib.hid hbh
   have HK:=Lib.hid hK
   have HD1:=Lib.hid hd1
   have HD2:=Lib.hid hd2
   have HBB:=Lib.hid hb
   have HF1:=Lib.hid hF1
   have HFL:=Lib.hid hfl
   have hfl0:((fl:Int)==0)=false:=by rw[beq_eq_false_iff_ne];omega
   have htm:(t:Int)<(m:Int):=by omega
   have ht0:(0:Int)≤(t:Int):=by omega
   clear hF hcell cu0 hpx hu hbh hK hd1 hd2 hb hF1 hfl hO
   go_wp2_with fail
   refine HBH.out.mono ?_
   rintro r w3 ⟨v3,rfl,hO3,hG3,hB3⟩
   rw[behind_flat] at hO3
   have hK3:=OwnI.gr HK.out hG3 (fun g hg=>(HD1.out g hg).2)
   have hb3:=hG3.blk HBB.out (fun h=>by have:=(HD1.out xb h).1;omega)
   have hd3:∀ g,v3.ownBlock=some g→xb<g∧(Value.slice ka2 t kc2).ownBlock≠some g:=fun g hg=>by
    rcases hG3.own g hg with h | h
    ·exact HD1.out g h
    ·exact⟨by omega,fun e=>by have:=(HK.out.low g e).2;omega⟩
   obtain⟨va3,vc3,hva3,-⟩:=hO3.form
   have hol3:(((chain .no (Fs.take t)).app F).flat 0).length=ol+fl:=by rw[Fo.flat_len,Fo.size_app,HOL.out,HFL.out]
   rw[hol3] at hva3
   subst hva3
   have hK4:w3.ownsRow nb 3 1 (.slice ka2 t kc2) t (l.map vI):=by
    have:=hK3;unfold OwnI at this
    rw[HLL.out] at this;exact this
   have HO3:=Lib.hid hO3
   have hxb3:=hb3.lt
   have HB3:=Lib.hid hb3
   have HD3:=Lib.hid hd3
   have hsz3:nb≤w3.heap.size:=by have:=hG3.size;omega
   have hfsum:(1:Int)≤(ol:Int)+(fl:Int):=by omega
   have hkb3:t≤500000:=by omega
   have HKL:=Lib.hid (fun g (hg:(Value.slice ka2 t kc2).ownBlock=some g)=>HD2.out g hg)
   clear hO3 hb3 hd3 hol3 hK3 hG3 cu hB
   go_wp2_with (at_builtin;refine wpList_app rowI rfl _ _ rfl nb _ _ _ rfl (hK4.alloc _) ⟨w3.heap.size,0,none⟩ 1 [.int .i64 ((ol:Int)+(fl:Int) - 1)] rfl rfl ?c1 ?c2 ?c3 ?c4 (w3.heap.size+1) ?c5 ?_)
   case c1=>exact World.news_of_block (heap_alloc_new w3 _)
   case c2=>simp[Value.oneCell']
   case c3=>omega
   case c4=>simp;omega
   case c5=>simp
   intro g cap w4 hown hgrow hat hlt4 hcap
   have hgr:Gr w3 (.slice ka2 t kc2) w4 (.slice (some ⟨g,0,none⟩) (t+1) cap):=gr_append hgrow hat
   have HO4:=Lib.hid (OwnE.gr HO3.out hgr (fun g' hg' e=>(HD3.out g' e).2 hg'))
   have HK4:Hid (OwnI nb w4 (.slice (some ⟨g,0,none⟩) (t+1) cap) (l++[(ol:Int)+(fl:Int) - 1])):=by
    show OwnI _ _ _ _
    unfold OwnI
    rw[List.length_append,HLL.out,List.map_append,List.map_cons,List.map_nil]
    exact hown
   have hgnew:xb<g:=by
    rcases hat with h | h
    ·exact HKL.out g h
    ·omega
   have HDD:Hid (∀ g',(Value.slice va3 (ol+fl) vc3).ownBlock=some g'→xb<g'∧(Value.slice (some ⟨g,0,none⟩) (t+1) cap).ownBlock≠some g'):=fun g' hg'=>by
    refine⟨(HD3.out g' hg').1,fun e=>?_⟩
    cases e
    rcases hat with h | h
    ·exact (HD3.out g hg').2 h
    ·have:=(HO3.out.low g hg').2;omega
   have HB4:=Lib.hid (hgr.blk HB3.out (fun h=>by have:=HKL.out xb h;omega))
   have hB4:Below nb w w4:=Gr.below hB3 hgr hsz3 (fun g' hg'=>by have:=HKL.out g' hg';omega)
   clear hown hgrow hat hgr hK4 hB3
   have hsz4:nb≤w4.heap.size:=by omega
   go_wp2_with fail
   refine (leaf_any 28 0 ⟨#[]⟩ w4).mono ?_
   rintro r w5 ⟨rfl,hb5⟩
   have HO5:=Lib.hid (HO4.out.below hb5)
   have HK5:=Lib.hid (HK4.out.below hb5)
   have HB5:=Lib.hid (HB4.out.below hb5)
   have HBL5:Hid (Below nb w w5):=hB4.trans (hb5.mono (by omega))
   have hsz5:w4.heap.size≤w5.heap.size:=hb5.size
   have hO5:w5.ownsRow nb 85 6 (.slice va3 (ol+fl) vc3) (ol+fl) ((((chain .no (Fs.take t)).app F).flat 0).flatMap ndL):=by
    have:=HO5.out;unfold OwnE at this;rw[Fo.flat_len,Fo.size_app,← HOL.out,← HFL.out] at this;exact this
   have KEY:Hid (∀ A:Array Value,w5.heap.size≤(w5.alloc (.cells A 85)).heap.size∧(w5.alloc (.cells A 85)).heap.size=w5.heap.size+1∧Below nb w (w5.alloc (.cells A 85)) ∧
     OwnI nb (w5.alloc (.cells A 85)) (.slice (some ⟨g,0,none⟩) (t+1) cap) (l++[(ol:Int)+(fl:Int) - 1])∧Blk (w5.alloc (.cells A 85)) xb #[.int .i64 27,.int .i64 (-1),.int .i64 (-1),.int .i64 (-1),.int .i64 n,.string s] 85):=fun A=>by
    have nn:=(Below.refl w5.heap.size w5).alloc (Nat.le_refl _) (.cells A 85)
    exact⟨nn.size,by simp,HBL5.out.trans (nn.mono (by omega)),HK5.out.below nn,HB5.out.below nn⟩
   have HNF:Hid (((chain .no (Fs.take t)).app F).flat 0++[(⟨28,(ol:Int)+(fl:Int) - 1,p,-1,0,ByteArray.empty⟩ : Nd)]=(chain .no (Fs.take (t+1))).flat 0):=by
    show _=_
    rw[hFF.out,chain_snoc]
    simp only[Fo.flat]
    congr 1
    have e3:((0+ol+F.size - 1:Nat):Int)=(ol:Int)+(fl:Int) - 1:=by have:=HFL.out;omega
    rcases HP.out with ⟨h0,hp⟩ | ⟨h0,hp⟩
    ·subst h0
     have e2:((chain .no (Fs.take 0)).app F).ends 0=[(ol:Int)+(fl:Int) - 1]:=by
      have e0:ol=0:=by rw[HOL.out];rfl
      rw[Fo.ends_app,ends_one HF1.out,← HOL.out,e3,List.take_zero];rfl
     rw[e2,hp];rfl
    ·have h2:Fs.take t≠[]:=fun e=>by have:=congrArg List.length e;rw[List.length_take,List.length_nil] at this;have:=HM.out;omega
     have e2:((chain .no (Fs.take t)).app F).ends 0=[(ol:Int) - 1,(ol:Int)+(fl:Int) - 1]:=by
      rw[Fo.ends_app,chain_ends h2,ends_one HF1.out,← HOL.out,e3];rfl
     rw[e2,hp];rfl
   have HPN:Hid ((ol:Int)+(fl:Int)=((chain .no (Fs.take (t+1))).size:Int) - 1):=by
    show _=_
    rw[hFF.out,chain_snoc];simp only[Fo.size,Fo.size_app];have:=HOL.out;have:=HFL.out;omega
   have hxb5:xb<w5.heap.size:=HB5.out.lt
   clear hb5 hB4
   go_wp2_with (at_builtin;refine wpList_app rowNd rfl (.tmp 70) (.tmp 72) rfl nb _ _ _ rfl ((hO5.alloc _).alloc _) ⟨w5.heap.size+1,0,none⟩ 1 [.int .i64 28,.int .i64 ((ol:Int)+(fl:Int) - 1),.int .i64 p,.int .i64 (-1),.int .i64 0,.string ⟨#[]⟩] rfl rfl ?c1 ?c2 ?c3 ?c4 (w5.heap.size+2) ?c5 ?_)
   case c1=>exact World.news_of_block (by have:=heap_alloc_new (w5.alloc (.cells #[.int .i64 28,.int .i64 ((ol:Int)+(fl:Int) - 1),.int .i64 p,.int .i64 (-1),.int .i64 0,.string ⟨#[]⟩] 85)) (.cells #[.int .i64 28,.int .i64 ((ol:Int)+(fl:Int) - 1),.int .i64 p,.int .i64 (-1),.int .i64 0,.string ⟨#[]⟩] 85);simpa using this)
   case c2=>simp[Value.oneCell']
   case c3=>omega
   case c4=>simp;omega
   case c5=>simp
   intro g6 cap6 w6 hown6 hgrow6 hat6 hlt6 hcap6
   obtain⟨hk0,hk1,hk2,hk3,hk4⟩:=KEY.out #[.int .i64 28,.int .i64 ((ol:Int)+(fl:Int) - 1),.int .i64 p,.int .i64 (-1),.int .i64 0,.string ⟨#[]⟩]
   have hgr6:Gr (w5.alloc (.cells #[.int .i64 28,.int .i64 ((ol:Int)+(fl:Int) - 1),.int .i64 p,.int .i64 (-1),.int .i64 0,.string ⟨#[]⟩] 85)) (.slice va3 (ol+fl) vc3) w6 (.slice (some ⟨g6,0,none⟩) (ol+fl+1) cap6):=gr_append hgrow6 (by rw[hk1];exact hat6)
   have HO6:Hid (OwnE nb w6 (.slice (some ⟨g6,0,none⟩) (ol+fl+1) cap6) ((chain .no (Fs.take (t+1))).flat 0)):=by
    show OwnE _ _ _ _
    rw[← HNF.out]
    unfold OwnE
    rw[List.length_append,List.flatMap_append,Fo.flat_len,Fo.size_app,← HOL.out,← HFL.out]
    exact hown6
   have HK6:=Lib.hid (OwnI.gr hk3 hgr6 (fun g' hg'=>(HDD.out g' hg').2))
   have HB6:=Lib.hid (hgr6.blk hk4 (fun h=>by have:=(HDD.out xb h).1;omega))
   have HBL6:Hid (Below nb w w6):=Gr.below hk2 hgr6 (by omega) (fun g' hg'=>by have:=(HDD.out g' hg').1;omega)
   have HDD6:Hid (∀ g',(Value.slice (some ⟨g6,0,none⟩) (ol+fl+1) cap6).ownBlock=some g'→xb<g'∧(Value.slice (some ⟨g,0,none⟩) (t+1) cap).ownBlock≠some g'):=fun g' hg'=>by
    have e1:g6=g':=Option.some.inj hg'
    subst e1
    rcases hat6 with h | h
    ·exact HDD.out g6 h
    ·exact⟨by omega,fun e=>by have:=(HK5.out.low g6 e).2;omega⟩
   have hHK:Hid (l.length+1=t+1):=by show _=_;rw[HLL.out]
   clear hown6 hgrow6 hat6 hgr6 hO5 hk0 hk1 hk2 hk3 hk4 KEY
   go_wp2_with fail
   go_roundw
   case rel=>exact⟨t+1,l++[(ol:Int)+(fl:Int) - 1],(ol:Int)+(fl:Int),by go_num,by omega,rfl,Or.inr ⟨by omega,HPN.out⟩,HO6.out,by rw[List.length_append];exact hHK.out,HK6.out,HDD6.out,(fun g' hg'=>by cases hg';exact hgnew),HBL6.out,HB6.out⟩
   case measure=>simp[intOf];omega
  ·have hte:t=m:=by omega
   subst hte
   have hfull:Fs.take t=Fs:=List.take_of_length_le (by have:=HM.out;omega)
   rw[hfull] at hO
   have HOL2:Hid (ol=(chain .no Fs).size):=by show _=_;rw[← hfull];exact HOL.out
   obtain⟨z0,z1,z2,z3,z4,z5⟩:=six_cells hb
   obtain⟨y0,y1,y2,y3,y4,y5⟩:=six_free hb
   have HNF:Hid ((joinF 27 n s Fs).flat 0=(chain .no Fs).flat 0++[(⟨27,p,-1,-1,n,s⟩ : Nd)]):=by
    show _=_
    rw[HJ.out,Fo.flat,Fo.flat]
    congr 1
    rcases HP.out with ⟨h0,hp⟩ | ⟨h0,hp⟩
    ·have e:Fs=[]:=List.eq_nil_of_length_eq_zero (by have:=HM.out;omega)
     rw[e,hp];rfl
    ·have h2:Fs≠[]:=fun e=>by have:=HM.out;rw[e] at this;simp at this;omega
     rw[chain_ends h2,hp,HOL2.out];rfl
   have hO3:(wr.setCell ⟨xb,1,none⟩ (.int .i64 p)).ownsRow nb 85 6 (.slice va ol vc) ol (((chain .no Fs).flat 0).flatMap ndL):=by
    have:=OwnE.set hO (g:=xb) (fun h=>by have:=(hd1 xb h).1;omega) 1 (.int .i64 p)
    unfold OwnE at this;rw[Fo.flat_len,← HOL2.out] at this;exact this
   have HD1:=Lib.hid hd1
   have HBL:Hid (Below nb w (wr.setCell ⟨xb,1,none⟩ (.int .i64 p))):=below_set hB hxb
   have hss:(wr.setCell ⟨xb,1,none⟩ (.int .i64 p)).heap.size=wr.heap.size:=by simp[World.setCell]
   have HSS:=Lib.hid hss
   clear hfull hO hd1 hd2 hb hK hss hB
   go_wp2_with (at_builtin;refine wpList_app rowNd rfl (.tmp 78) (.tmp 80) rfl nb _ _ _ rfl (hO3.alloc _) ⟨wr.heap.size,0,none⟩ 1 [.int .i64 27,.int .i64 p,.int .i64 (-1),.int .i64 (-1),.int .i64 n,.string s] rfl rfl ?c1 ?c2 ?c3 ?c4 (wr.heap.size+1) ?c5 ?_)
   case c1=>exact World.news_of_block (by have:=heap_alloc_new (wr.setCell ⟨xb,1,none⟩ (.int .i64 p)) (.cells #[.int .i64 27,.int .i64 p,.int .i64 (-1),.int .i64 (-1),.int .i64 n,.string s] 85);rw[HSS.out] at this;exact this)
   case c2=>simp[Value.oneCell']
   case c3=>omega
   case c4=>rw[World.size_alloc,HSS.out];omega
   case c5=>rw[World.size_alloc,HSS.out]
   intro g cap w4 hown hgrow hat hlt5 hcap
   have hgr:Gr (wr.setCell ⟨xb,1,none⟩ (.int .i64 p)) (.slice va ol vc) w4 (.slice (some ⟨g,0,none⟩) (ol+1) cap):=gr_append hgrow (by rw[HSS.out];exact hat)
   have hB4:Below nb w w4:=Gr.below HBL.out hgr (by rw[HSS.out];omega) (fun g' hg'=>by have:=(HD1.out g' hg').1;omega)
   have HOW:=Lib.hid hown
   clear hown hgrow hat hgr hO3
   go_wp2_with fail
   go_ret
   refine⟨_,rfl,?_,by rw[← HNB.out];exact hB4⟩
   rw[HNF.out,← HNB.out]
   unfold OwnE
   rw[List.length_append,List.flatMap_append,Fo.flat_len,← HOL2.out]
   exact HOW.out
theorem rJoin_any (op n:Int) (s:ByteArray) (Fs:List Fo) (v:Value) (w:World) (hv:Sg 1 IsF w v Fs) (h1:∀ F∈Fs,F.count=1) (hz:(cat Fs).size+Fs.length≤500000) (h28:op≠28) (har:op≠27→(kids (leaf op n s)).length=Fs.length) :
  Calls Tryz.prog 62 #[.int .i64 op,.int .i64 n,.string s,v] w fun r w'=>∃ v',r=.returned v'∧OwnE w.heap.size w' v' ((joinF op n s Fs).flat 0)∧Below w.heap.size w w':=by
 by_cases h:op=27
 ·subst h;exact rjoin_call n s Fs v w hv h1 hz
 ·exact rjoin_plain op n s Fs v w hv h1 (by omega) h28 h (har h)
end Go.Proofs.YtmacepicoandkaaGreatDoor
namespace Go.Proofs.YtmacepicoandkaaGreatDoor
open Go.RowKit Go.Shelf Tx
def placeL (L:List ByteArray) (s:ByteArray):Option Nat:=(List.range L.length).find? fun k=>decide (L.getD k ByteArray.empty=s)
def byL (L:List ByteArray) (A:List (List Nd)) (s:ByteArray):Option Fo:=(placeL L s).map fun k=>T (A.getD k []) ((A.getD k []).length - 1)
end Go.Proofs.YtmacepicoandkaaGreatDoor
namespace Go.Proofs.YtmacepicoandkaaGreatDoor
open Go.RowKit Go.Shelf Tx
def IsL (w:World) (c:List Value) (e:List Nd):Prop:=∃ u,c=[u]∧IsE w u e
theorem keepsL:Keeps IsL:=fun _ _ _ _ ⟨u,h1,h2⟩ hb=>⟨u,h1,Sl.below h2 hb⟩
theorem may_one {e:List Nd} (h:mayB e=true):(T e (e.length - 1)).count=1∧(T e (e.length - 1)).wf=true∧(T e (e.length - 1)).size=e.length∧1≤e.length:=by
 have hP:=(mayB_iff e).1 h
 have hne:=hP.ne
 exact⟨(T_ops hP.inR (List.getElem?_eq_getElem (by omega:e.length - 1<e.length))).2,T_wf hP.node _ (by omega),hP.size,hne⟩
theorem sub_last {e:List Nd} (h:mayB e=true):subL e ((e.length:Int) - 1)=(T e (e.length - 1)).flat 0:=by
 have:=(may_one h).2.2.2
 unfold subL
 rw[if_pos ⟨by omega,by omega,h⟩,show ((e.length:Int) - 1).toNat=e.length - 1 by omega]
def putE (L:List ByteArray) (A:List (List Nd)) (e:List Nd):List Nd:=(putF (byL L A) (T e (e.length - 1))).flat 0
theorem RowL.gr {α:Type} {f:α→Value} {T base g n:Nat} {w w':World} {v v':Value} {L:List α} (h:RowL f T base w g n L) (hg:Gr w v w' v') (hn:v.ownBlock≠some g):RowL f T base w' g n L:=by
 refine World.ownsRow.kept h (row:=v.ownBlock) ⟨hg.os,hg.tape,hg.output,hg.size,fun k hk hne=>hg.block k hk (fun e=>hne e.symm)⟩ ?_
 exact Or.inr (fun e=>hn e.symm)
end Go.Proofs.YtmacepicoandkaaGreatDoor
