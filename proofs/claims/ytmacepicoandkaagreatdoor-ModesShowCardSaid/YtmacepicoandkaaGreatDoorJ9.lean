/- Calls put together; expressions under any operator: the walk. The reference's operands of a node; a node with other operands; a leaf: the walks. -/
import Derived.Test.YtmacepicoandkaaGreatDoorJ7
import Derived.Test.YtmacepicoandkaaGreatDoorJ8
set_option linter.unusedVariables false
set_option linter.unusedSimpArgs false
namespace Go.Proofs.YtmacepicoandkaaGreatDoor
open Go.RowKit Go.Shelf Tx
theorem own_zero {w:World} {base e size n cap g:Nat} {xs:List Value} (h:w.ownsRow base e size (.slice (some ⟨g,0,none⟩) n cap) n xs):w.ownsRow base e size (.slice (some ⟨g,0,none⟩) 0 cap) 0 []:=by
 rcases h.2 with ⟨h',_⟩ | ⟨g',cap',cur,h',h1,h2,h3,h4,h5,h6⟩
 ·cases h'
 ·cases h'
  exact⟨by simp,Or.inr ⟨g,cap,cur,rfl,h1,h2,Nat.zero_le _,h4,h5,by simp⟩⟩
theorem chain_ends {l:List Fo} (h:l≠[]):(chain .no l).ends 0=[(((chain .no l).size:Nat) - 1:Int)]:=by
 have hc:=chain_count l
 rw[if_neg h] at hc
 rw[ends_one hc]
 have:=one_size hc
 congr 1;omega
theorem chain_take (l:List Fo) (t:Nat):(chain .no (l.take t)).size≤(cat l).size+l.length:=by
 rw[Px.chain_size]
 have:=sum_take l t
 have h2:(l.take t).length≤l.length:=by rw[List.length_take];omega
 omega
set_option maxRecDepth 100000 in
set_option maxHeartbeats 8000000 in
theorem join_call (n:Int) (s:ByteArray) (Fs:List Fo) (v:Value) (w:World) (hv:Sg 1 IsF w v Fs) (h1:∀ F∈Fs,F.count=1) (hz:(cat Fs).size+Fs.length≤500000) :
  Calls Tryz.prog 76 #[.int .i64 27,.int .i64 n,.string s,v] w fun r w'=>∃ v',r=.returned v'∧OwnE w.heap.size w' v' ((joinF 27 n s Fs).flat 0)∧Below w.heap.size w w':=by
 obtain⟨a,c,rfl,hc,hx⟩:=hv.form keepsF
 obtain⟨m,hm⟩ : ∃ m,m=Fs.length:=⟨_,rfl⟩
 have hmb:m≤500000:=by omega
 rw[← hm] at hc ⊢
 have HJ:Hid (joinF 27 n s Fs=.tr 27 n s (chain .no Fs) .no):=rfl
 have HM:=Lib.hid hm
 have HX:=Lib.hid hx
 have H1:=Lib.hid h1
 have HZ:=Lib.hid hz
 obtain⟨nb,hnb⟩ : ∃ nb,nb=w.heap.size:=⟨_,rfl⟩
 have nbw:=(Below.refl w.heap.size w).alloc (Nat.le_refl _) (.cells (ndA (leaf 27 n s)) 85)
 have kb:=Blk.new w (ndA (leaf 27 n s)) 85
 rw[← hnb] at kb
 have HNB:=Lib.hid hnb
 clear hm hx h1 hz hv
 simp only[leaf,ndA] at nbw kb
 have e28:((27:Int)==28)=false:=rfl
 have e27:((27:Int)==27)=true:=rfl
 have e27':((27:Int) != 27)=false:=rfl
 go_enter Tryz.func76,Tryz.ntmps76
 go_wp2_with fail
 generalize w.alloc (.cells #[.int .i64 27,.int .i64 (-1),.int .i64 (-1),.int .i64 (-1),.int .i64 n,.string s] 85)=W1 at *
 rw[← hnb]
 have hltb:=kb.lt
 have KB:=Lib.hid kb
 have NBW:=Lib.hid nbw
 clear hnb kb nbw
 go_loopw [10,11,14,35] (fun ov kv _ i wr=>∃ t:Nat,i=.int .i64 t∧t≤m∧OwnE nb wr ov ((chain .no (Fs.take t)).flat 0)∧((t=0∧kv=.slice none 0 0)∨∃ kg kc,0<t∧kv=.slice (some ⟨kg,0,none⟩) 1 kc∧wr.ownsRow nb 3 1 kv 1 [vI (((chain .no (Fs.take t)).size:Nat) - 1:Int)])∧(∀ g,ov.ownBlock=some g→nb<g∧kv.ownBlock≠some g)∧(∀ g,kv.ownBlock=some g→nb<g)∧Below nb w wr ∧
  Blk wr nb #[.int .i64 27,.int .i64 (-1),.int .i64 (-1),.int .i64 (-1),.int .i64 n,.string s] 85) (fun _ _ _ i _=>m - (intOf i).toNat)
 case atStart=>exact⟨0,rfl,Nat.zero_le _,OwnE.nil_ _ _,Or.inl ⟨rfl,rfl⟩,(fun g hg=>by cases hg),(fun g hg=>by cases hg),by rw[HNB.out];exact NBW.out,KB.out⟩
 case round =>
  obtain⟨t,rfl,ht,hO,hK,hd1,hd2,hB,hb⟩:=hrel
  have hsz0:=chain_take Fs t
  have hz:=HZ.out
  obtain⟨va,vc,hva,hvc⟩:=hO.form
  rw[Fo.flat_len] at hva hvc
  obtain⟨ol,hol⟩ : ∃ ol,ol=(chain .no (Fs.take t)).size:=⟨_,rfl⟩
  rw[← hol] at hva hvc
  subst hva
  have holb:ol≤500000:=by omega
  have HOL:=Lib.hid hol
  have hnbl:=hb.lt
  clear hsz0 hz hol
  by_cases hlt:t<m
  ·obtain⟨F,hF⟩ : ∃ F,Fs[t]?=some F:=⟨_,List.getElem?_eq_getElem (by have:=HM.out;omega)⟩
   have hF1:=H1.out F (List.mem_of_getElem? hF)
   have hFs:=one_size hF1
   have hFF:Hid (Fs.take (t+1)=Fs.take t++[F]):=take_at hF
   have hszF:ol+F.size+1≤500000:=by
    have h1:=chain_take Fs (t+1)
    rw[hFF.out,chain_snoc] at h1
    simp only[Fo.size,Fo.size_app] at h1
    have:=HZ.out;have:=HOL.out;omega
   obtain⟨b,o,cs,rfl,⟨u,rfl,hu⟩,hcell⟩:=HX.out w (Below.refl _ _) t F hF
   have cu0:=hcell 0 u rfl
   simp only[Nat.mul_one,Nat.add_zero] at cu0
   have cu:wr.cell? ⟨b,o+t,none⟩=some u:=(hB.cell (by rw[HNB.out];exact World.block_lt_of_cell? w _ cu0)).trans cu0
   obtain⟨pa,pc,rfl,hpc,hpx⟩:=hu.form
   rw[Fo.flat_len] at cu hpc
   obtain⟨fl,hfl⟩ : ∃ fl,fl=F.size:=⟨_,rfl⟩
   have hbh:=behind_any (F.flat 0) (by rw[Fo.flat_len];omega) (fun x hx=>small_mono (small_flat F 0 x hx) (by omega)) pa pc nb w (by rw[HNB.out];exact hpx) ((chain .no (Fs.take t)).flat 0) (.slice va ol vc) wr hB (by omega) hO (by rw[Fo.flat_len,← HOL.out];omega)
   rw[Fo.flat_len,← hfl] at hbh
   rw[← hfl] at cu hpc hszF hFs
   have HBH:=Lib.hid hbh
   have HD1:=Lib.hid hd1
   have HD2:=Lib.hid hd2
   have HBB:=Lib.hid hb
   have HF1:=Lib.hid hF1
   have HFL:=Lib.hid hfl
   have hfl0:((fl:Int)==0)=false:=by rw[beq_eq_false_iff_ne];omega
   have htm:(t:Int)<(m:Int):=by omega
   have ht0:(0:Int)≤(t:Int):=by omega
   clear hF hcell cu0 hpx hu hbh hd1 hd2 hb hF1 hfl hO
   rcases hK with ⟨h0,rfl⟩ | ⟨kg,kc,hpos,rfl,hkr⟩
   ·have hol0:ol=0:=by rw[HOL.out,h0];rfl
    have HL0:=Lib.hid hol0
    have HT0:=Lib.hid h0
    clear hol0 h0
    go_wp2_with fail
    refine HBH.out.mono ?_
    rintro r w3 ⟨v3,rfl,hO3,hG3,hB3⟩
    rw[behind_flat] at hO3
    have hb3:=hG3.blk HBB.out (fun h=>by have:=(HD1.out nb h).1;omega)
    have hd3:∀ g,v3.ownBlock=some g→nb<g∧(Value.slice none 0 0).ownBlock≠some g:=fun g hg=>by
     rcases hG3.own g hg with h | h
     ·exact HD1.out g h
     ·exact⟨by omega,fun e=>by cases e⟩
    obtain⟨va3,vc3,hva3,-⟩:=hO3.form
    have hol3:(((chain .no (Fs.take t)).app F).flat 0).length=ol+fl:=by rw[Fo.flat_len,Fo.size_app,HOL.out,HFL.out]
    rw[hol3] at hva3
    subst hva3
    have hO4:w3.ownsRow nb 85 6 (.slice va3 (ol+fl) vc3) (ol+fl) ((((chain .no (Fs.take t)).app F).flat 0).flatMap ndL):=by have:=hO3;unfold OwnE at this;rw[hol3] at this;exact this
    have HB3:=Lib.hid hb3
    have HD3:=Lib.hid hd3
    have hsz3:nb≤w3.heap.size:=by have:=hG3.size;omega
    have hnb3:nb<w3.heap.size:=by have:=hb3.lt;omega
    have hfsum:(1:Int)≤(ol:Int)+(fl:Int):=by omega
    have HGS:=Lib.hid hG3.size
    clear hO3 hb3 hd3 hol3 hG3 cu hB 
    go_wp2_with (at_builtin;refine wpList_app rowNd rfl (.tmp 53) (.tmp 59) rfl nb _ _ _ rfl (hO4.alloc _) ⟨w3.heap.size,0,none⟩ 1 [.int .i64 28,.int .i64 ((ol:Int)+(fl:Int) - 1),.int .i64 (-1),.int .i64 (-1),.int .i64 0,.string ⟨#[]⟩] rfl rfl ?c1 ?c2 ?c3 ?c4 (w3.heap.size+1) ?c5 ?_)
    case c1=>exact World.news_of_block (heap_alloc_new w3 _)
    case c2=>simp[Value.oneCell']
    case c3=>omega
    case c4=>simp;omega
    case c5=>simp
    intro g cap w4 hown hgrow hat hlt4 hcap
    have hgr:Gr w3 (.slice va3 (ol+fl) vc3) w4 (.slice (some ⟨g,0,none⟩) (ol+fl+1) cap):=gr_append hgrow hat
    have hb4:=hgr.blk HB3.out (fun h=>by have:=(HD3.out nb h).1;omega)
    have hB4:Below nb w w4:=Gr.below hB3 hgr hsz3 (fun g' hg'=>by have:=(HD3.out g' hg').1;omega)
    have hg4:nb<g∧(Value.slice none 0 0).ownBlock≠some g:=by
     rcases hat with h | h
     ·exact HD3.out g h
     ·exact⟨by omega,fun e=>by cases e⟩
    have HNF:Hid (((chain .no (Fs.take t)).app F).flat 0++[(⟨28,(ol:Int)+(fl:Int) - 1,-1,-1,0,ByteArray.empty⟩ : Nd)]=(chain .no (Fs.take (t+1))).flat 0):=by
     show _=_
     rw[hFF.out,chain_snoc]
     simp only[Fo.flat]
     congr 1
     have e1:chain .no (Fs.take t)=.no:=by rw[HT0.out];rfl
     have e2:((chain .no (Fs.take t)).app F).ends 0=[((F.size - 1:Nat):Int)]:=by rw[e1];show F.ends 0=_;rw[ends_one HF1.out];congr 1;omega
     rw[e2]
     have e3:(ol:Int)+(fl:Int) - 1=((F.size - 1:Nat):Int):=by have:=HL0.out;have:=HFL.out;omega
     rw[e3];rfl
    have HO5:Hid (OwnE nb w4 (.slice (some ⟨g,0,none⟩) (ol+fl+1) cap) ((chain .no (Fs.take (t+1))).flat 0)):=by
     show OwnE _ _ _ _
     rw[← HNF.out]
     unfold OwnE
     rw[List.length_append,List.flatMap_append,Fo.flat_len,Fo.size_app,← HOL.out,← HFL.out]
     exact hown
    have HG4:=Lib.hid hg4
    have HBB4:=Lib.hid hb4
    have hsz4:nb<w4.heap.size:=hb4.lt
    have hKW:w4.ownsRow nb 3 1 (.slice none 0 0) 0 []:=World.ownsRow_nil _ _ _ _
    have hwg:w3.heap.size<w4.heap.size:=by have h1:=hgr.size;have h2:=hgrow.size;simp at h2;omega
    clear hown hgrow hat hgr hO4 hg4 hb4 hB3 
    go_wp2_with (at_builtin;refine wpList_app rowI rfl (.tmp 63) (.tmp 67) rfl nb _ _ _ rfl (hKW.alloc _) ⟨w4.heap.size,0,none⟩ 1 [.int .i64 ((ol:Int)+(fl:Int))] rfl rfl ?c1 ?c2 ?c3 ?c4 (w4.heap.size+1) ?c5 ?_)
    case c1=>exact World.news_of_block (heap_alloc_new w4 _)
    case c2=>simp[Value.oneCell']
    case c3=>omega
    case c4=>simp;omega
    case c5=>simp
    intro g2 cap2 w5 hown hgrow hat hlt5 hcap2
    have hgr:Gr w4 (.slice none 0 0) w5 (.slice (some ⟨g2,0,none⟩) 1 cap2):=gr_append hgrow hat
    have hg2:nb<g2∧g2≠g:=by
     rcases hat with h | h
     ·cases h
     ·refine⟨by omega,fun e=>?_⟩
      have:=(HO5.out.low g rfl).2;omega
    have HO6:=Lib.hid (OwnE.gr HO5.out hgr (fun g' hg' e=>by cases hg'))
    have HB5:=Lib.hid (hgr.blk HBB4.out (fun h=>by cases h))
    have hB5:Below nb w w5:=Gr.below hB4 hgr (by omega) (fun g' hg'=>by cases hg')
    have HK5:Hid (w5.ownsRow nb 3 1 (.slice (some ⟨g2,0,none⟩) 1 cap2) 1 [vI (((chain .no (Fs.take (t+1))).size:Nat) - 1:Int)]):=by
     show World.ownsRow _ _ _ _ _ _ _
     have e:(((chain .no (Fs.take (t+1))).size:Nat) - 1:Int)=(ol:Int)+(fl:Int):=by
      rw[hFF.out,chain_snoc];simp only[Fo.size,Fo.size_app];have:=HOL.out;have:=HFL.out;omega
     rw[e];exact hown
    have HG2:=Lib.hid hg2
    clear hown hgrow hat hgr hKW hg2 hB4
    go_wp2_with fail
    go_roundw
    case rel=>exact⟨t+1,by go_num,by omega,HO6.out,Or.inr ⟨g2,cap2,by omega,rfl,HK5.out⟩,(fun g' hg'=>by cases hg';exact⟨HG4.out.1,fun e=>by cases e;exact HG2.out.2 rfl⟩),(fun g' hg'=>by cases hg';exact HG2.out.1),hB5,HB5.out⟩
    case measure=>simp[intOf];omega
   ·have hol1:(1:Int)≤(ol:Int):=by
     have h1:=chain_count (Fs.take t)
     have h2:Fs.take t≠[]:=fun e=>by have:=congrArg List.length e;rw[List.length_take,List.length_nil] at this;have:=HM.out;omega
     rw[if_neg h2] at h1
     have:=one_size h1
     rw[HOL.out];omega
    have HKR:=Lib.hid hkr
    clear hkr
    go_wp2_with fail
    refine HBH.out.mono ?_
    rintro r w3 ⟨v3,rfl,hO3,hG3,hB3⟩
    rw[behind_flat] at hO3
    have hb3:=hG3.blk HBB.out (fun h=>by have:=(HD1.out nb h).1;omega)
    have hK3:w3.ownsRow nb 3 1 (.slice (some ⟨kg,0,none⟩) 1 kc) 1 [vI (((chain .no (Fs.take t)).size:Nat) - 1:Int)]:=by
     refine World.ownsRow.kept HKR.out (row:=(Value.slice va ol vc).ownBlock) ⟨hG3.os,hG3.tape,hG3.output,hG3.size,fun k hk hne=>hG3.block k hk (fun e=>hne e.symm)⟩ (Or.inr fun e=>(HD1.out kg e.symm).2 rfl)
    have ck:w3.cell? ⟨kg,0,none⟩=some (.int .i64 ((ol:Int) - 1)):=by
     rw[World.ownsRow.cellAt hK3 0 (by omega),← HOL.out];rfl
    have hKZ:w3.ownsRow nb 3 1 (.slice (some ⟨kg,0,none⟩) 0 kc) 0 []:=own_zero hK3
    have hkglt:kg<w3.heap.size:=(World.ownsRow.lt hK3 kg rfl).2
    have hkgnb:nb<kg:=HD2.out kg rfl
    have hd3:∀ g,v3.ownBlock=some g→nb<g∧(Value.slice (some ⟨kg,0,none⟩) 1 kc).ownBlock≠some g:=fun g hg=>by
     rcases hG3.own g hg with h | h
     ·exact HD1.out g h
     ·exact⟨by omega,fun e=>by have e':kg=g:=Option.some.inj e;have:=(World.ownsRow.lt HKR.out kg rfl).2;omega⟩
    obtain⟨va3,vc3,hva3,-⟩:=hO3.form
    have hol3:(((chain .no (Fs.take t)).app F).flat 0).length=ol+fl:=by rw[Fo.flat_len,Fo.size_app,HOL.out,HFL.out]
    rw[hol3] at hva3
    subst hva3
    have hO4:w3.ownsRow nb 85 6 (.slice va3 (ol+fl) vc3) (ol+fl) ((((chain .no (Fs.take t)).app F).flat 0).flatMap ndL):=by have:=hO3;unfold OwnE at this;rw[hol3] at this;exact this
    have HB3:=Lib.hid hb3
    have HD3:=Lib.hid hd3
    have hsz3:nb≤w3.heap.size:=by have:=hG3.size;omega
    have hnb3:nb<w3.heap.size:=by have:=hb3.lt;omega
    have hfsum:(1:Int)≤(ol:Int)+(fl:Int):=by omega
    have HKZ:=Lib.hid hKZ
    have HGS:=Lib.hid hG3.size
    clear hO3 hb3 hd3 hol3 hG3 cu hB hK3 hKZ
    go_wp2_with (at_builtin;refine wpList_app rowNd rfl (.tmp 53) (.tmp 59) rfl nb _ _ _ rfl (hO4.alloc _) ⟨w3.heap.size,0,none⟩ 1 [.int .i64 28,.int .i64 ((ol:Int)+(fl:Int) - 1),.int .i64 ((ol:Int) - 1),.int .i64 (-1),.int .i64 0,.string ⟨#[]⟩] rfl rfl ?c1 ?c2 ?c3 ?c4 (w3.heap.size+1) ?c5 ?_)
    case c1=>exact World.news_of_block (heap_alloc_new w3 _)
    case c2=>simp[Value.oneCell']
    case c3=>omega
    case c4=>simp;omega
    case c5=>simp
    intro g cap w4 hown hgrow hat hlt4 hcap
    have hgr:Gr w3 (.slice va3 (ol+fl) vc3) w4 (.slice (some ⟨g,0,none⟩) (ol+fl+1) cap):=gr_append hgrow hat
    have hb4:=hgr.blk HB3.out (fun h=>by have:=(HD3.out nb h).1;omega)
    have hB4:Below nb w w4:=Gr.below hB3 hgr hsz3 (fun g' hg'=>by have:=(HD3.out g' hg').1;omega)
    have hg4:nb<g∧(Value.slice (some ⟨kg,0,none⟩) 1 kc).ownBlock≠some g:=by
     rcases hat with h | h
     ·exact HD3.out g h
     ·exact⟨by omega,fun e=>by have e':kg=g:=Option.some.inj e;omega⟩
    have HNF:Hid (((chain .no (Fs.take t)).app F).flat 0++[(⟨28,(ol:Int)+(fl:Int) - 1,(ol:Int) - 1,-1,0,ByteArray.empty⟩ : Nd)]=(chain .no (Fs.take (t+1))).flat 0):=by
     show _=_
     rw[hFF.out,chain_snoc]
     simp only[Fo.flat]
     congr 1
     have h2:Fs.take t≠[]:=fun e=>by have:=congrArg List.length e;rw[List.length_take,List.length_nil] at this;have:=HM.out;omega
     have e2:((chain .no (Fs.take t)).app F).ends 0=[(ol:Int) - 1,(ol:Int)+(fl:Int) - 1]:=by
      rw[Fo.ends_app,chain_ends h2,ends_one HF1.out,← HOL.out]
      have e3:((0+ol+F.size - 1:Nat):Int)=(ol:Int)+(fl:Int) - 1:=by have:=HFL.out;omega
      rw[e3];rfl
     rw[e2];rfl
    have HO5:Hid (OwnE nb w4 (.slice (some ⟨g,0,none⟩) (ol+fl+1) cap) ((chain .no (Fs.take (t+1))).flat 0)):=by
     show OwnE _ _ _ _
     rw[← HNF.out]
     unfold OwnE
     rw[List.length_append,List.flatMap_append,Fo.flat_len,Fo.size_app,← HOL.out,← HFL.out]
     exact hown
    have HG4:=Lib.hid hg4
    have HBB4:=Lib.hid hb4
    have hsz4:nb<w4.heap.size:=hb4.lt
    have hKW:w4.ownsRow nb 3 1 (.slice (some ⟨kg,0,none⟩) 0 kc) 0 []:=by
     refine World.ownsRow.kept HKZ.out (row:=(Value.slice va3 (ol+fl) vc3).ownBlock) ⟨hgr.os,hgr.tape,hgr.output,hgr.size,fun k hk hne=>hgr.block k hk (fun e=>hne e.symm)⟩ (Or.inr fun e=>(HD3.out kg e.symm).2 rfl)
    have hwg:w3.heap.size<w4.heap.size:=by have h1:=hgr.size;have h2:=hgrow.size;simp at h2;omega
    clear hown hgrow hat hgr hO4 hg4 hb4 hB3 ck
    go_wp2_with (at_builtin;refine wpList_app rowI rfl (.tmp 63) (.tmp 67) rfl nb _ _ _ rfl (hKW.alloc _) ⟨w4.heap.size,0,none⟩ 1 [.int .i64 ((ol:Int)+(fl:Int))] rfl rfl ?c1 ?c2 ?c3 ?c4 (w4.heap.size+1) ?c5 ?_)
    case c1=>exact World.news_of_block (heap_alloc_new w4 _)
    case c2=>simp[Value.oneCell']
    case c3=>omega
    case c4=>simp;omega
    case c5=>simp
    intro g2 cap2 w5 hown hgrow hat hlt5 hcap2
    have hgr:Gr w4 (.slice (some ⟨kg,0,none⟩) 0 kc) w5 (.slice (some ⟨g2,0,none⟩) 1 cap2):=gr_append hgrow hat
    have hg2:nb<g2∧g2≠g:=by
     rcases hat with h | h
     ·have h':kg=g2:=Option.some.inj h
      exact⟨by omega,fun e=>HG4.out.2 (by rw[← e,← h'];rfl)⟩
     ·refine⟨by omega,fun e=>?_⟩
      have:=(HO5.out.low g rfl).2;omega
    have HO6:=Lib.hid (OwnE.gr HO5.out hgr (fun g' hg' e=>by have h1:kg=g':=Option.some.inj hg';have h2:g=g':=Option.some.inj e;exact HG4.out.2 (by rw[h2,← h1];rfl)))
    have HB5:=Lib.hid (hgr.blk HBB4.out (fun h=>by have h':kg=nb:=Option.some.inj h;omega))
    have hB5:Below nb w w5:=Gr.below hB4 hgr (by omega) (fun g' hg'=>by have h':kg=g':=Option.some.inj hg';omega)
    have HK5:Hid (w5.ownsRow nb 3 1 (.slice (some ⟨g2,0,none⟩) 1 cap2) 1 [vI (((chain .no (Fs.take (t+1))).size:Nat) - 1:Int)]):=by
     show World.ownsRow _ _ _ _ _ _ _
     have e:(((chain .no (Fs.take (t+1))).size:Nat) - 1:Int)=(ol:Int)+(fl:Int):=by
      rw[hFF.out,chain_snoc];simp only[Fo.size,Fo.size_app];have:=HOL.out;have:=HFL.out;omega
     rw[e];exact hown
    have HG2:=Lib.hid hg2
    clear hown hgrow hat hgr hKW hg2 hB4
    go_wp2_with fail
    go_roundw
    case rel=>exact⟨t+1,by go_num,by omega,HO6.out,Or.inr ⟨g2,cap2,by omega,rfl,HK5.out⟩,(fun g' hg'=>by cases hg';exact⟨HG4.out.1,fun e=>by cases e;exact HG2.out.2 rfl⟩),(fun g' hg'=>by cases hg';exact HG2.out.1),hB5,HB5.out⟩
    case measure=>simp[intOf];omega
  ·have hte:t=m:=by omega
   subst hte
   have hfull:Fs.take t=Fs:=List.take_of_length_le (by have:=HM.out;omega)
   rw[hfull] at hO
   have HOL2:Hid (ol=(chain .no Fs).size):=by show _=_;rw[← hfull];exact HOL.out
   have HFL:Hid (∀ o' a' b' c' n' s',aim ⟨27,-1,-1,-1,n,s⟩ ((chain .no Fs).ends 0)=⟨o',a',b',c',n',s'⟩→(joinF 27 n s Fs).flat 0=(chain .no Fs).flat 0++[(⟨o',a',b',c',n',s'⟩ : Nd)]):=fun o' a' b' c' n' s' h=>by
    rw[HJ.out,Fo.flat,Fo.flat]
    have:aim (leaf 27 n s) ((chain .no Fs).ends 0)=⟨o',a',b',c',n',s'⟩:=h
    rw[this]
   rcases hK with ⟨h0,rfl⟩ | ⟨kg,kc,hpos,rfl,hkr⟩
   ·have hlist:(chain .no Fs).ends 0=[]:=by
     have e:Fs=[]:=List.eq_nil_of_length_eq_zero (by have:=HM.out;omega)
     rw[e];rfl
    have hKs:Sl intC 1 wr (.slice none 0 0) ((chain .no Fs).ends 0):=by rw[hlist];exact Sl.nil_
    have hl3:((chain .no Fs).ends 0).length≤3:=by rw[hlist];simp
    have hw:=with_parts ⟨27,-1,-1,-1,n,s⟩ _ hl3 _ wr hKs
    clear hlist hKs hl3 hfull
    obtain⟨z0,z1,z2,z3,z4,z5⟩:=six_cells hb
    have HOO:=Lib.hid hO
    have HD1:=Lib.hid hd1
    clear hO hd1 hd2 hb
    go_wp2_with fail
    refine hw.mono ?_
    rintro r w2 ⟨o',a',b',c',n',s',rfl,hy,hb2⟩
    have hO2:=HOO.out.below hb2
    have hB2:=hB.trans (hb2.mono (by omega))
    have hsz2:nb≤w2.heap.size:=by have:=hb2.size;omega
    have hO3:w2.ownsRow nb 85 6 (.slice va ol vc) ol (((chain .no Fs).flat 0).flatMap ndL):=by have:=hO2;unfold OwnE at this;rw[Fo.flat_len,← HOL2.out] at this;exact this
    clear hw hO2 z0 z1 z2 z3 z4 z5 hb2
    go_wp2_with (at_builtin;refine wpList_app rowNd rfl _ _ rfl nb _ _ _ rfl (hO3.alloc _) ⟨w2.heap.size,0,none⟩ 1 [.int .i64 o',.int .i64 a',.int .i64 b',.int .i64 c',.int .i64 n',.string s'] rfl rfl ?c1 ?c2 ?c3 ?c4 (w2.heap.size+1) ?c5 ?_)
    case c1=>exact World.news_of_block (heap_alloc_new w2 _)
    case c2=>simp[Value.oneCell']
    case c3=>omega
    case c4=>simp;omega
    case c5=>simp
    intro g cap w4 hown hgrow hat hlt5 hcap
    have hgr:Gr w2 (.slice va ol vc) w4 (.slice (some ⟨g,0,none⟩) (ol+1) cap):=gr_append hgrow hat
    have hB4:Below nb w w4:=Gr.below hB2 hgr hsz2 (fun g' hg'=>by have:=(HD1.out g' hg').1;omega)
    have HOW:=Lib.hid hown
    clear hown hgrow hat hgr hO3
    go_wp2_with fail
    go_ret
    refine⟨_,rfl,?_,by rw[← HNB.out];exact hB4⟩
    rw[HFL.out _ _ _ _ _ _ hy.out,← HNB.out]
    unfold OwnE
    rw[List.length_append,List.flatMap_append,Fo.flat_len,← HOL2.out]
    exact HOW.out
   ·have hlist:(chain .no Fs).ends 0=[(((chain .no Fs).size:Nat) - 1:Int)]:=chain_ends (fun e=>by have:=HM.out;rw[e] at this;simp at this;omega)
    have hKs:Sl intC 1 wr (.slice (some ⟨kg,0,none⟩) 1 kc) ((chain .no Fs).ends 0):=by
     rw[hlist]
     rw[hfull] at hkr
     exact Sl.own (enc:=intC) intC_len (n:=1) hkr rfl
    have hl3:((chain .no Fs).ends 0).length≤3:=by rw[hlist];simp
    have hw:=with_parts ⟨27,-1,-1,-1,n,s⟩ _ hl3 _ wr hKs
    clear hlist hKs hl3 hfull
    obtain⟨z0,z1,z2,z3,z4,z5⟩:=six_cells hb
    have HOO:=Lib.hid hO
    have HD1:=Lib.hid hd1
    clear hO hd1 hd2 hb
    go_wp2_with fail
    refine hw.mono ?_
    rintro r w2 ⟨o',a',b',c',n',s',rfl,hy,hb2⟩
    have hO2:=HOO.out.below hb2
    have hB2:=hB.trans (hb2.mono (by omega))
    have hsz2:nb≤w2.heap.size:=by have:=hb2.size;omega
    have hO3:w2.ownsRow nb 85 6 (.slice va ol vc) ol (((chain .no Fs).flat 0).flatMap ndL):=by have:=hO2;unfold OwnE at this;rw[Fo.flat_len,← HOL2.out] at this;exact this
    clear hw hO2 z0 z1 z2 z3 z4 z5 hb2
    go_wp2_with (at_builtin;refine wpList_app rowNd rfl _ _ rfl nb _ _ _ rfl (hO3.alloc _) ⟨w2.heap.size,0,none⟩ 1 [.int .i64 o',.int .i64 a',.int .i64 b',.int .i64 c',.int .i64 n',.string s'] rfl rfl ?c1 ?c2 ?c3 ?c4 (w2.heap.size+1) ?c5 ?_)
    case c1=>exact World.news_of_block (heap_alloc_new w2 _)
    case c2=>simp[Value.oneCell']
    case c3=>omega
    case c4=>simp;omega
    case c5=>simp
    intro g cap w4 hown hgrow hat hlt5 hcap
    have hgr:Gr w2 (.slice va ol vc) w4 (.slice (some ⟨g,0,none⟩) (ol+1) cap):=gr_append hgrow hat
    have hB4:Below nb w w4:=Gr.below hB2 hgr hsz2 (fun g' hg'=>by have:=(HD1.out g' hg').1;omega)
    have HOW:=Lib.hid hown
    clear hown hgrow hat hgr hO3
    go_wp2_with fail
    go_ret
    refine⟨_,rfl,?_,by rw[← HNB.out];exact hB4⟩
    rw[HFL.out _ _ _ _ _ _ hy.out,← HNB.out]
    unfold OwnE
    rw[List.length_append,List.flatMap_append,Fo.flat_len,← HOL2.out]
    exact HOW.out
theorem Join_any (op n:Int) (s:ByteArray) (Fs:List Fo) (v:Value) (w:World) (hv:Sg 1 IsF w v Fs) (h1:∀ F∈Fs,F.count=1) (hz:(cat Fs).size+Fs.length≤500000) (h28:op≠28) (har:op≠27→(kids (leaf op n s)).length=Fs.length) :
  Calls Tryz.prog 76 #[.int .i64 op,.int .i64 n,.string s,v] w fun r w'=>∃ v',r=.returned v'∧OwnE w.heap.size w' v' ((joinF op n s Fs).flat 0)∧Below w.heap.size w w':=by
 by_cases h:op=27
 ·subst h;exact join_call n s Fs v w hv h1 hz
 ·exact join_plain op n s Fs v w hv h1 (by omega) h28 h (har h)
end Go.Proofs.YtmacepicoandkaaGreatDoor
namespace Go.Proofs.YtmacepicoandkaaGreatDoor
open Go.RowKit Go.Shelf Tx
theorem kids_one {op a b c n:Int} {s:ByteArray} (h:op=4∨op=5∨(21≤op∧op≤25)):kids ⟨op,a,b,c,n,s⟩=[a]:=by
 have n1:¬ op=26:=by omega
 have n2:¬ op=28:=by omega
 have n3:¬ op=27:=by omega
 have n4:¬ (6≤op∧op≤20):=by omega
 unfold kids
 rw[if_neg n1,if_neg n2,if_neg n3,if_neg n4,if_pos h]
set_option maxRecDepth 100000 in
set_option maxHeartbeats 2000000 in
theorem rKids_any (x:Nd) (w:World):Calls Tryz.prog 40 #[ndV x] w (KidsPost x w):=by
 obtain⟨op,a,b,c,n,s⟩:=x
 unfold ndV
 simp only[]
 have hB:Below w.heap.size w (w.alloc (.cells #[.int .i64 op,.int .i64 a,.int .i64 b,.int .i64 c,.int .i64 n,.string s] 85)):=(Below.refl _ _).alloc (Nat.le_refl _) _
 have hsz:(w.alloc (.cells #[.int .i64 op,.int .i64 a,.int .i64 b,.int .i64 c,.int .i64 n,.string s] 85)).heap.size=w.heap.size+1:=by simp
 have row:∀ l:List Value,Blk ((w.alloc (.cells #[.int .i64 op,.int .i64 a,.int .i64 b,.int .i64 c,.int .i64 n,.string s] 85)).alloc (.cells l.toArray 3)) (w.heap.size+1) l.toArray 3∧Below w.heap.size w ((w.alloc (.cells #[.int .i64 op,.int .i64 a,.int .i64 b,.int .i64 c,.int .i64 n,.string s] 85)).alloc (.cells l.toArray 3)):=fun l=>by
  refine⟨?_,hB.alloc (by rw[hsz];omega) _⟩
  have:=Blk.new (w.alloc (.cells #[.int .i64 op,.int .i64 a,.int .i64 b,.int .i64 c,.int .i64 n,.string s] 85)) l.toArray 3
  rwa [hsz] at this
 have R3:Hid _:=row [.int .i64 a,.int .i64 b,.int .i64 c]
 have R2:Hid _:=row [.int .i64 b,.int .i64 a]
 have R2':Hid _:=row [.int .i64 a,.int .i64 b]
 have R1:Hid _:=row [.int .i64 a]
 have HB:Hid _:=hB
 clear row hB hsz
 by_cases h4:op=4∨op=5∨(21≤op∧op≤25)
 ·have HK:Hid (kids ⟨op,a,b,c,n,s⟩=[a]):=by show _=_;exact kids_one h4
  have hor:op=4∨op=5∨op=21∨op=22∨op=23∨op=24∨op=25:=by omega
  clear h4
  rcases hor with rfl | rfl | rfl | rfl | rfl | rfl | rfl
  all_goals
   go_enter Tryz.func40,Tryz.ntmps40
   go_wp2_with fail
   go_ret
   exact kidsPost_row HK.out rfl (Nat.le_succ _) R1.out.1 R1.out.2
 have f1:(op==4)=false:=by rw[beq_eq_false_iff_ne];omega
 have f2:(op==5)=false:=by rw[beq_eq_false_iff_ne];omega
 have f3:(op==21)=false:=by rw[beq_eq_false_iff_ne];omega
 have f4:(op==22)=false:=by rw[beq_eq_false_iff_ne];omega
 have f5:(op==23)=false:=by rw[beq_eq_false_iff_ne];omega
 have f6:(op==24)=false:=by rw[beq_eq_false_iff_ne];omega
 have f7:(op==25)=false:=by rw[beq_eq_false_iff_ne];omega
 by_cases h26:op=26
 ·have e1:(op==26)=true:=by simp[h26]
  have HK:Hid (kids ⟨op,a,b,c,n,s⟩=[a,b,c]):=by show _=_;unfold kids;rw[if_pos h26]
  clear h26 h4
  go_enter Tryz.func40,Tryz.ntmps40
  go_wp2_with fail
  go_ret
  exact kidsPost_row HK.out rfl (Nat.le_succ _) R3.out.1 R3.out.2
 have e26:(op==26)=false:=by simp[h26]
 by_cases h27:op=27
 ·have e27:(op==27)=true:=by simp[h27]
  have n28:¬ op=28:=by omega
  by_cases ha:a = -1
  ·have ea:(a != -1)=false:=by simp[ha]
   have HK:Hid (kids ⟨op,a,b,c,n,s⟩=[]):=by show _=_;unfold kids;rw[if_neg h26,if_neg n28,if_pos h27,if_pos ha]
   clear h26 h4 h27 ha n28
   go_enter Tryz.func40,Tryz.ntmps40
   go_wp2_with fail
   go_ret
   exact kidsPost_nil HK.out HB.out
  ·have ea:(a != -1)=true:=by simp[ha]
   have HK:Hid (kids ⟨op,a,b,c,n,s⟩=[a]):=by show _=_;unfold kids;rw[if_neg h26,if_neg n28,if_pos h27,if_neg ha]
   clear h26 h4 h27 ha n28
   go_enter Tryz.func40,Tryz.ntmps40
   go_wp2_with fail
   go_ret
   exact kidsPost_row HK.out rfl (Nat.le_succ _) R1.out.1 R1.out.2
 have e27:(op==27)=false:=by simp[h27]
 by_cases h28:op=28
 ·have e28:(op==28)=true:=by simp[h28]
  by_cases hb:b = -1
  ·have eb:(b != -1)=false:=by simp[hb]
   have HK:Hid (kids ⟨op,a,b,c,n,s⟩=[a]):=by show _=_;unfold kids;rw[if_neg h26,if_pos h28,if_pos hb]
   clear h26 h4 h27 h28 hb
   go_enter Tryz.func40,Tryz.ntmps40
   go_wp2_with fail
   go_ret
   exact kidsPost_row HK.out rfl (Nat.le_succ _) R1.out.1 R1.out.2
  ·have eb:(b != -1)=true:=by simp[hb]
   have HK:Hid (kids ⟨op,a,b,c,n,s⟩=[b,a]):=by show _=_;unfold kids;rw[if_neg h26,if_pos h28,if_neg hb]
   clear h26 h4 h27 h28 hb
   go_enter Tryz.func40,Tryz.ntmps40
   go_wp2_with fail
   go_ret
   exact kidsPost_row HK.out rfl (Nat.le_succ _) R2.out.1 R2.out.2
 have e28:(op==28)=false:=by simp[h28]
 by_cases h6:6≤op∧op≤20
 ·have HK:Hid (kids ⟨op,a,b,c,n,s⟩=[a,b]):=by show _=_;unfold kids;rw[if_neg h26,if_neg h28,if_neg h27,if_pos h6]
  obtain⟨g1,g2⟩:=h6
  clear h26 h28 h27 h4
  go_enter Tryz.func40,Tryz.ntmps40
  go_wp2_with fail
  go_ret
  exact kidsPost_row HK.out rfl (Nat.le_succ _) R2'.out.1 R2'.out.2
 ·have HK:Hid (kids ⟨op,a,b,c,n,s⟩=[]):=by show _=_;unfold kids;rw[if_neg h26,if_neg h28,if_neg h27,if_neg h6,if_neg h4]
  have hor:¬ (6:Int)≤op∨((6:Int)≤op∧¬ op≤20):=by omega
  clear h26 h28 h27 h6 h4
  rcases hor with g1 | ⟨g1,g2⟩
  all_goals
   go_enter Tryz.func40,Tryz.ntmps40
   go_wp2_with fail
   go_ret
   exact kidsPost_nil HK.out HB.out
theorem ints_at {w:World} {v:Value} {l:List Int} (hv:Sl intC 1 w v l):∃ a c,v=.slice a l.length c∧l.length≤c∧∀ W,Below w.heap.size w W→∀ (i:Nat) (y:Int),l[i]?=some y→∃ b o,a=some ⟨b,o,none⟩∧b<w.heap.size∧W.cell? ⟨b,o+i,none⟩=some (.int .i64 y):=by
 obtain⟨a,c,rfl,hc,hx⟩:=hv.form
 refine⟨a,c,rfl,hc,fun W hW i y hi=>?_⟩
 obtain⟨b,o,rfl,g⟩:=hx W hW i y hi
 obtain⟨b',o',h',g'⟩:=hx w (Below.refl _ _) i y hi
 cases h'
 refine⟨b,o,rfl,World.block_lt_of_cell? w _ (g' 0 _ rfl),?_⟩
 have:=g 0 _ rfl
 simpa using this
set_option maxRecDepth 100000 in
set_option maxHeartbeats 2000000 in
theorem aim_any (x:Nd) (l:List Int) (h3:l.length≤3) (v:Value) (w:World) (hv:Sl intC 1 w v l):Calls Tryz.prog 87 #[ndV x,v] w (WithPost x l w):=by
 obtain⟨a,c,rfl,hc,hx⟩:=ints_at hv
 obtain⟨zr,hzr⟩ : ∃ zr,zr=#[Value.int .i64 0,.int .i64 0,.int .i64 0,.int .i64 0,.int .i64 0,.string ⟨#[]⟩]:=⟨_,rfl⟩
 obtain⟨op,xa,xb,xc,xn,xs⟩:=x
 have HS:∀ A Z:Array Value,Below w.heap.size w ((w.alloc (.cells A 85)).alloc (.cells Z 85)):=fun A Z=>((Below.refl _ _).alloc (Nat.le_refl _) _).alloc (by simp) _
 unfold ndV
 simp only[]
 match l,h3 with
 | [],_ =>
  clear hx hv
  by_cases h28:op=28
  ·have e28:(op==28)=true:=by simp[h28]
   clear h28
   go_enter Tryz.func87,Tryz.ntmps87
   go_wp2_with fail
   exact bodyPost_ret (v:=.agg #[.int .i64 op,.int .i64 xa,.int .i64 xb,.int .i64 xc,.int .i64 xn,.string xs]) (by simp[results,Tryz.results87,go_sem]) rfl ⟨rfl,HS _ _⟩
  ·have e28:(op==28)=false:=by simp[h28]
   clear h28
   go_enter Tryz.func87,Tryz.ntmps87
   go_wp2_with fail
   exact bodyPost_ret (v:=.agg #[.int .i64 op,.int .i64 xa,.int .i64 xb,.int .i64 xc,.int .i64 xn,.string xs]) (by simp[results,Tryz.results87,go_sem]) rfl ⟨rfl,HS _ _⟩
 | [p],_ =>
  have B2:=fun A=>HS A zr
  subst hzr
  obtain⟨b0,o0,rfl,hlt,c0⟩:=hx _ (B2 #[.int .i64 op,.int .i64 xa,.int .i64 xb,.int .i64 xc,.int .i64 xn,.string xs]) 0 p rfl
  simp only[Nat.add_zero] at c0
  have HS2:=Lib.hid HS
  clear hx hlt B2 HS hc hv
  by_cases h28:op=28
  ·have e28:(op==28)=true:=by simp[h28]
   have HA:Hid (Tx.aim ⟨op,xa,xb,xc,xn,xs⟩ [p]=⟨op,p,xb,xc,xn,xs⟩):=by show _=_;simp[Tx.aim]
   clear h28
   go_enter Tryz.func87,Tryz.ntmps87
   go_wp2_with fail
   exact bodyPost_ret (v:=.agg #[.int .i64 op,.int .i64 p,.int .i64 xb,.int .i64 xc,.int .i64 xn,.string xs]) (by simp[results,Tryz.results87,go_sem]) rfl ⟨by rw[HA.out],HS2.out _ _⟩
  ·have e28:(op==28)=false:=by simp[h28]
   have HA:Hid (Tx.aim ⟨op,xa,xb,xc,xn,xs⟩ [p]=⟨op,p,xb,xc,xn,xs⟩):=by show _=_;simp[Tx.aim]
   clear h28
   go_enter Tryz.func87,Tryz.ntmps87
   go_wp2_with fail
   exact bodyPost_ret (v:=.agg #[.int .i64 op,.int .i64 p,.int .i64 xb,.int .i64 xc,.int .i64 xn,.string xs]) (by simp[results,Tryz.results87,go_sem]) rfl ⟨by rw[HA.out],HS2.out _ _⟩
 | [p,q],_ =>
  have B2:=fun A=>HS A zr
  subst hzr
  obtain⟨b0,o0,rfl,hlt,c0⟩:=hx _ (B2 #[.int .i64 op,.int .i64 xa,.int .i64 xb,.int .i64 xc,.int .i64 xn,.string xs]) 0 p rfl
  obtain⟨b1,o1,hab,_,c1⟩:=hx _ (B2 #[.int .i64 op,.int .i64 xa,.int .i64 p,.int .i64 xc,.int .i64 xn,.string xs]) 1 q rfl
  cases hab
  obtain⟨b1,o1,hab,_,c1'⟩:=hx _ (B2 #[.int .i64 op,.int .i64 p,.int .i64 xb,.int .i64 xc,.int .i64 xn,.string xs]) 1 q rfl
  cases hab
  simp only[Nat.add_zero] at c0
  have HS2:=Lib.hid HS
  clear hx hlt B2 HS hc hv
  by_cases h28:op=28
  ·have e28:(op==28)=true:=by simp[h28]
   have HA:Hid (Tx.aim ⟨op,xa,xb,xc,xn,xs⟩ [p,q]=⟨op,q,p,xc,xn,xs⟩):=by show _=_;simp[Tx.aim,h28]
   clear h28
   go_enter Tryz.func87,Tryz.ntmps87
   go_wp2_with fail
   exact bodyPost_ret (v:=.agg #[.int .i64 op,.int .i64 q,.int .i64 p,.int .i64 xc,.int .i64 xn,.string xs]) (by simp[results,Tryz.results87,go_sem]) rfl ⟨by rw[HA.out],HS2.out _ _⟩
  ·have e28:(op==28)=false:=by simp[h28]
   have HA:Hid (Tx.aim ⟨op,xa,xb,xc,xn,xs⟩ [p,q]=⟨op,p,q,xc,xn,xs⟩):=by show _=_;simp[Tx.aim,h28]
   clear h28
   go_enter Tryz.func87,Tryz.ntmps87
   go_wp2_with fail
   exact bodyPost_ret (v:=.agg #[.int .i64 op,.int .i64 p,.int .i64 q,.int .i64 xc,.int .i64 xn,.string xs]) (by simp[results,Tryz.results87,go_sem]) rfl ⟨by rw[HA.out],HS2.out _ _⟩
 | [p,q,r],_ =>
  have B2:=fun A=>HS A zr
  subst hzr
  obtain⟨b0,o0,rfl,hlt,c0⟩:=hx _ (B2 #[.int .i64 op,.int .i64 xa,.int .i64 xb,.int .i64 xc,.int .i64 xn,.string xs]) 0 p rfl
  obtain⟨b1,o1,hab,_,c1⟩:=hx _ (B2 #[.int .i64 op,.int .i64 p,.int .i64 xb,.int .i64 xc,.int .i64 xn,.string xs]) 1 q rfl
  cases hab
  obtain⟨b1,o1,hab,_,c2⟩:=hx _ (B2 #[.int .i64 op,.int .i64 p,.int .i64 q,.int .i64 xc,.int .i64 xn,.string xs]) 2 r rfl
  cases hab
  simp only[Nat.add_zero] at c0
  have HS2:=Lib.hid HS
  clear hx hlt B2 HS hc hv
  by_cases h28:op=28
  ·have e28:(op==28)=true:=by simp[h28]
   have HA:Hid (Tx.aim ⟨op,xa,xb,xc,xn,xs⟩ [p,q,r]=⟨op,p,q,r,xn,xs⟩):=by show _=_;simp[Tx.aim]
   clear h28
   go_enter Tryz.func87,Tryz.ntmps87
   go_wp2_with fail
   exact bodyPost_ret (v:=.agg #[.int .i64 op,.int .i64 p,.int .i64 q,.int .i64 r,.int .i64 xn,.string xs]) (by simp[results,Tryz.results87,go_sem]) rfl ⟨by rw[HA.out],HS2.out _ _⟩
  ·have e28:(op==28)=false:=by simp[h28]
   have HA:Hid (Tx.aim ⟨op,xa,xb,xc,xn,xs⟩ [p,q,r]=⟨op,p,q,r,xn,xs⟩):=by show _=_;simp[Tx.aim]
   clear h28
   go_enter Tryz.func87,Tryz.ntmps87
   go_wp2_with fail
   exact bodyPost_ret (v:=.agg #[.int .i64 op,.int .i64 p,.int .i64 q,.int .i64 r,.int .i64 xn,.string xs]) (by simp[results,Tryz.results87,go_sem]) rfl ⟨by rw[HA.out],HS2.out _ _⟩
end Go.Proofs.YtmacepicoandkaaGreatDoor
