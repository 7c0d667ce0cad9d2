/- The reference: a node moved; an expression behind another; nodes in order: the walks. The reference: nodes in order: the walk. The reference: the expression of a node; in order; are two the same: the walks. The reference: expressions under an operator: the walk. -/
import Derived.Test.YtmacepicoandkaaGreatDoorJ9
import Derived.Test.YtmacepicoandkaaGreatDoorJ10
set_option linter.unusedVariables false
set_option linter.unusedSimpArgs false
namespace Go.Proofs.YtmacepicoandkaaGreatDoor
open Go.RowKit Go.Shelf Tx
set_option maxRecDepth 100000 in
set_option maxHeartbeats 2000000 in
theorem move_any (x:Nd) (d:Nat) (hs:smallN 1000000000 x) (hd:d≤1000000) (w:World):Calls Tryz.prog 97 #[ndV x,.int .i64 d] w fun e w'=>∃ (o a b c n:Int) (s:ByteArray),e=.returned (.agg #[.int .i64 o,.int .i64 a,.int .i64 b,.int .i64 c,.int .i64 n,.string s])∧Hid (mv d x=⟨o,a,b,c,n,s⟩)∧Below w.heap.size w w':=by
 obtain⟨op,a,b,c,n,s⟩:=x
 obtain⟨s0,s1,s2⟩:=hs
 simp only[] at s0 s1 s2
 have HS:Hid (∀ A Z:Array Value,Below w.heap.size w ((w.alloc (.cells A 85)).alloc (.cells Z 85))):=fun A Z=>((Below.refl _ _).alloc (Nat.le_refl _) _).alloc (by simp) _
 have hd0:(0:Int)≤(d:Int):=by omega
 have hd1:(d:Int)≤1000000:=by omega
 unfold ndV
 simp only[]
 by_cases p1:0≤a <;> by_cases p2:0≤b <;> by_cases p3:0≤c
 all_goals
  have HM:Hid (mv d ⟨op,a,b,c,n,s⟩=⟨op,if 0≤a then a+d else a,if 0≤b then b+d else b,if 0≤c then c+d else c,n,s⟩):=rfl
  simp only[p1,p2,p3,if_true,if_false] at HM
  go_enter Tryz.func97,Tryz.ntmps97
  go_wp2_with fail
  refine bodyPost_ret (v:=.agg #[.int .i64 op,.int .i64 _,.int .i64 _,.int .i64 _,.int .i64 n,.string s]) (by simp[results,Tryz.results97,go_sem]) rfl ⟨_,_,_,_,_,_,rfl,HM,HS.out _ _⟩
set_option maxRecDepth 100000 in
set_option maxHeartbeats 8000000 in
theorem rbehind_any (E:List Nd) (hE:E.length≤1000000) (hS:∀ x∈E,smallN 1000000000 x) (a:Option Addr) (c:Nat) (base:Nat) (w0:World)
  (HX:Hid (∀ W,Below base w0 W→∀ i x,E[i]?=some x→∃ b o,a=some ⟨b,o,none⟩∧∀ j u,(ndL x)[j]?=some u→W.cell? ⟨b,o+i * 6+j,none⟩=some u))
  (O:List Nd) (vo:Value) (w:World) (hB:Below base w0 w) (hbw:base≤w.heap.size) (hO:OwnE base w vo O) (hOl:O.length≤1000000) :
  Calls Tryz.prog 86 #[vo,.slice a E.length c] w fun r w'=>∃ v,r=.returned v∧OwnE base w' v (behind O E)∧Gr w vo w' v∧Below base w0 w':=by
 obtain⟨oa,oc,rfl,hoc⟩:=hO.form
 obtain⟨d,hd⟩ : ∃ d,d=O.length:=⟨_,rfl⟩
 obtain⟨n,hn⟩ : ∃ n,n=E.length:=⟨_,rfl⟩
 rw[← hd] at hO hoc hOl ⊢
 rw[← hn] at hE ⊢
 have HD:=Lib.hid hd
 have HN:=Lib.hid hn
 have HS:=Lib.hid hS
 have HO0:=Lib.hid hO
 clear hd hn hS hO
 go_enter Tryz.func86,Tryz.ntmps86
 go_wp2_with fail
 go_loopw [0,6] (fun ov i wr=>∃ (t:Nat),i=.int .i64 t∧t≤n∧OwnE base wr ov (O++(E.take t).map (mv d))∧Gr w (.slice oa d oc) wr ov∧Below base w0 wr) (fun _ i _=>n - (intOf i).toNat)
 case atStart=>exact⟨0,rfl,Nat.zero_le _,by simpa using HO0.out,Gr.refl _ _,hB⟩
 case round =>
  obtain⟨t,rfl,ht,hO,hG,hBr⟩:=hrel
  obtain⟨ol,hol⟩ : ∃ ol,ol=(O++(E.take t).map (mv d)).length:=⟨_,rfl⟩
  have hol2:ol=d+t:=by rw[hol,List.length_append,List.length_map,List.length_take,← HD.out];have:=HN.out;omega
  obtain⟨va,vc,hva,hvc⟩:=hO.form
  rw[← hol] at hva hvc
  subst hva
  have HOL:=Lib.hid hol
  have HOL2:=Lib.hid hol2
  clear hol hol2
  by_cases hlt:t<n
  ·obtain⟨x,hx⟩ : ∃ x,E[t]?=some x:=⟨_,List.getElem?_eq_getElem (by have:=HN.out;omega)⟩
   obtain⟨b,o,rfl,hcell⟩:=HX.out wr hBr t x hx
   obtain⟨c0,c1,c2,c3,c4,c5⟩:=nd_cells hcell
   have hmove:=move_any x d (HS.out x (List.mem_of_getElem? hx)) hOl wr
   have HXX:=Lib.hid hx
   have htn:(t:Int)<(n:Int):=by omega
   have ht0:(0:Int)≤(t:Int):=by omega
   have hsz:=hG.size
   have HG:=Lib.hid hG
   have HOO:=Lib.hid hO
   clear hx hcell hG hO
   go_wp2_with fail
   refine hmove.mono ?_
   rintro r w2 ⟨o',a',b',c',n',s',rfl,hy,hb2⟩
   have hO2:=HOO.out.below hb2
   have hG2:=HG.out.trans (Gr.of_below (.slice va ol vc) hb2)
   have hB2:=hBr.trans (hb2.mono (by omega))
   have HG2:=Lib.hid hG2
   have hsz2:base≤w2.heap.size:=by have:=hG2.size;omega
   have hO3:w2.ownsRow base 85 6 (.slice va ol vc) ol ((O++(E.take t).map (mv d)).flatMap ndL):=by have:=hO2;unfold OwnE at this;rw[← HOL.out] at this;exact this
   have hol3:ol≤2000000:=by have:=HOL2.out;omega
   obtain⟨Ot,hOt⟩ : ∃ Ot,Ot=O++(E.take t).map (mv d):=⟨_,rfl⟩
   rw[← hOt] at hO3
   have HOt:=Lib.hid hOt
   clear hmove hO2 hG2 c0 c1 c2 c3 c4 c5 hOt
   go_wp2_with (at_builtin;refine wpList_app rowNd rfl _ _ rfl base _ _ _ rfl (hO3.alloc _) ⟨w2.heap.size,0,none⟩ 1 [.int .i64 o',.int .i64 a',.int .i64 b',.int .i64 c',.int .i64 n',.string s'] rfl rfl ?c1 ?c2 ?c3 ?c4 (w2.heap.size+1) ?c5 ?_)
   case c1=>exact World.news_of_block (heap_alloc_new w2 _)
   case c2=>simp[Value.oneCell']
   case c3=>omega
   case c4=>simp;omega
   case c5=>simp
   intro g cap w4 hown hgrow hat hlt2 hcap
   have hgr:Gr w2 (.slice va ol vc) w4 (.slice (some ⟨g,0,none⟩) (ol+1) cap):=gr_append hgrow hat
   have HF1:=Lib.hid (HG2.out.trans hgr)
   have hB4:Below base w0 w4:=Gr.below hB2 hgr hsz2 (fun g' hg'=>(World.ownsRow.lt hO3 g' hg').1)
   have HOW:Hid (OwnE base w4 (.slice (some ⟨g,0,none⟩) (ol+1) cap) (O++(E.take (t+1)).map (mv d))):=by
    show OwnE _ _ _ _
    unfold OwnE
    rw[take_at HXX.out,List.map_append,← List.append_assoc,List.length_append,List.flatMap_append,← HOL.out,← HOt.out,List.map_cons,List.map_nil,hy.out]
    exact hown
   clear hown hgrow hat hgr hO3
   go_wp2_with fail
   go_roundw
   case rel=>exact⟨t+1,by go_num,by omega,HOW.out,HF1.out,hB4⟩
   case measure=>simp[intOf];omega
  ·have hte:t=n:=by omega
   subst hte
   have HFIN:Hid (OwnE base wr (.slice va ol vc) (behind O E)):=by
    show OwnE _ _ _ _
    unfold behind
    rw[← HD.out]
    rw[List.take_of_length_le (by have:=HN.out;omega)] at hO
    exact hO
   have HG:=Lib.hid hG
   clear hO hG
   go_wp2_with fail
   go_ret
   exact⟨_,rfl,HFIN.out,HG.out,hBr⟩
end Go.Proofs.YtmacepicoandkaaGreatDoor
namespace Go.Proofs.YtmacepicoandkaaGreatDoor
open Go.RowKit Go.Shelf Tx
theorem Gr.other {w w1 w2 : World} {v v1 u u' : Value} (h : Gr w v w1 v1) (k : Gr w1 u w2 u') (hu : ∀ g, u.ownBlock = some g → w.heap.size ≤ g) : Gr w v w2 v1 :=
  ⟨k.os.trans h.os, k.tape.trans h.tape, k.output.trans h.output, Nat.le_trans h.size k.size,
   fun i hi hn => (k.block i (Nat.lt_of_lt_of_le hi h.size) (fun e => by have := hu i e; omega)).trans (h.block i hi hn), h.own⟩
set_option maxRecDepth 100000 in
set_option maxHeartbeats 8000000 in
theorem rorder_any (e:List Nd) (hN:NodeP e) (a:Option Addr) (c:Nat) (base:Nat) (w0:World)
  (HX:Hid (∀ W,Below base w0 W→∀ i x,e[i]?=some x→∃ b o,a=some ⟨b,o,none⟩∧∀ j u,(ndL x)[j]?=some u→W.cell? ⟨b,o+i * 6+j,none⟩=some u)) :
  ∀ (i:Nat),i<e.length→∀ (O:List Nd) (vo:Value) (w:World),Below base w0 w→base≤w.heap.size→OwnE base w vo O→O.length+(T e i).size≤1000000 →
   Calls Tryz.prog 88 #[.slice a e.length c,.int .i64 i,vo] w fun r w'=>∃ v,r=.returned v∧OwnE base w' v (O++(T e i).flat O.length)∧Gr w vo w' v∧Below base w0 w':=by
 intro i
 induction i using Nat.strongRecOn with
 | _ i ih =>
  intro hi O vo w hB hbw hO hOl
  have hR:InR e:=fun i x hx=>(hN i x hx).2.1
  obtain⟨x,hx⟩ : ∃ x,e[i]?=some x:=⟨_,List.getElem?_eq_getElem hi⟩
  obtain⟨b,o,rfl,hcell⟩:=HX.out w hB i x hx
  obtain⟨c0,c1,c2,c3,c4,c5⟩:=nd_cells hcell
  have HXX:=Lib.hid hx
  have HE:=order_end hN hx O.length
  have HIH:Hid (∀ j,j<i→∀ (O:List Nd) (vo:Value) (w:World),Below base w0 w→base≤w.heap.size→OwnE base w vo O→O.length+(T e j).size≤1000000 →
   Calls Tryz.prog 88 #[.slice (some ⟨b,o,none⟩) e.length c,.int .i64 j,vo] w fun r w'=>∃ v,r=.returned v∧OwnE base w' v (O++(T e j).flat O.length)∧Gr w vo w' v∧Below base w0 w'):=fun j hj=>ih j hj (by omega)
  have HSZ:Hid (∀ t,O.length+(cat (((kids x).take t).map fun k=>T e k.toNat)).size+1≤1000000):=fun t=>by
   have h1:(T e i).size=(cat ((kids x).map fun k=>T e k.toNat)).size+1:=by rw[T_at hx (hR i x hx)];simp[Fo.size]
   have h2:(cat ((kids x).map fun k=>T e k.toNat)).size=(cat (((kids x).take t).map fun k=>T e k.toNat)).size+(cat (((kids x).drop t).map fun k=>T e k.toNat)).size:=by
    rw[← Fo.size_app,← cat_append,← List.map_append,List.take_append_drop]
   omega
  have HCT:Hid (∀ t,t≤(kids x).length→((cat (((kids x).take t).map fun k=>T e k.toNat)).ends O.length).length=t):=fun t ht=>by
   rw[Fo.ends_len,cat_count hR hx _ (fun k hk=>List.mem_of_mem_take hk),List.length_take];omega
  have HEE:=Lib.hid HE
  obtain⟨n,hn⟩ : ∃ n,n=e.length:=⟨_,rfl⟩
  rw[← hn] at hi HIH ⊢
  have HN:=Lib.hid hn
  have hin:(i:Int)<(n:Int):=by omega
  have hi0:(0:Int)≤(i:Int):=by omega
  obtain⟨oa,oc,rfl,hoc⟩:=hO.form
  clear hx hcell HE ih hn
  go_enter Tryz.func88,Tryz.ntmps88
  go_wp2_with fail
  refine (rKids_any x w).mono ?_
  rintro r w1 ⟨kv,rfl,hkr,hb1⟩
  have hO1:=hO.below hb1
  have hG1:=Gr.of_below (.slice oa O.length oc) hb1
  have hB1:Below base w0 w1:=hB.trans (hb1.mono hbw)
  obtain⟨ka,kc,hkv,hkc⟩:=hkr.form
  subst hkv
  have hkown:∀ g,(Value.slice ka (kids x).length kc).ownBlock=some g→w.heap.size≤g:=by
   intro g hg
   rcases hkr with ⟨_,h⟩ | ⟨g',h,h2,_⟩
   ·rw[h] at hg;cases hg
   ·rw[h] at hg;cases hg;exact h2
  have hne1:∀ g,(Value.slice ka (kids x).length kc).ownBlock=some g→(Value.slice oa O.length oc).ownBlock≠some g∧(Value.slice none 0 0).ownBlock≠some g:=fun g hg=>⟨fun hq=>by
   have:=(hO.low g hq).2
   have:=hkown g hg
   omega,fun hq=>by cases hq⟩
  obtain⟨kn,hkn2⟩ : ∃ kn,kn=(kids x).length:=⟨_,rfl⟩
  have h3:=kids_len x
  rw[← hkn2] at hkr hkc h3 hkown hne1 ⊢
  have HKN:=Lib.hid hkn2
  have HKO:=Lib.hid hkown
  have HG1:=Lib.hid hG1
  have HO1:=Lib.hid hO1
  have HNE1:=Lib.hid hne1
  have HKR1:=Lib.hid hkr
  clear hkn2 hO hG1 hO1 hb1 hkr hkown hne1 c0 c1 c2 c3 c4 c5
  go_wp2_with fail
  go_loopw [2,8,9] (fun ov tv i wr=>∃ (t:Nat),i=.int .i64 t∧t≤kn∧OwnE base wr ov (O++(cat (((kids x).take t).map fun k=>T e k.toNat)).flat O.length)∧OwnI base wr tv ((cat (((kids x).take t).map fun k=>T e k.toNat)).ends O.length) ∧
   (∀ g,tv.ownBlock=some g→w.heap.size≤g∧ov.ownBlock≠some g)∧Gr w (.slice oa O.length oc) wr ov∧Below base w0 wr∧RowI w.heap.size wr (.slice ka kn kc) (kids x)∧(∀ g,(Value.slice ka kn kc).ownBlock=some g→ov.ownBlock≠some g∧tv.ownBlock≠some g)) (fun _ _ i _=>kn - (intOf i).toNat)
  case atStart=>exact⟨0,rfl,Nat.zero_le _,by simpa [cat,Fo.flat] using HO1.out,World.ownsRow_nil _ _ _ _,(fun g hg=>by cases hg),HG1.out,hB1,HKR1.out,HNE1.out⟩
  case round =>
   obtain⟨t,rfl,ht,hO,hK,htv,hG,hB,hkr,hne⟩:=hrel
   clear hB1
   obtain⟨Ot,hOt⟩ : ∃ Ot,Ot=O++(cat (((kids x).take t).map fun k=>T e k.toNat)).flat O.length:=⟨_,rfl⟩
   have hOtl:Ot.length=O.length+(cat (((kids x).take t).map fun k=>T e k.toNat)).size:=by rw[hOt,List.length_append,Fo.flat_len]
   rw[← hOt] at hO
   obtain⟨va,vc,hva,hvc⟩:=hO.form
   obtain⟨ol,hol⟩ : ∃ ol,ol=Ot.length:=⟨_,rfl⟩
   rw[← hol] at hva hvc
   subst hva
   obtain⟨ta,tc,hta,htc⟩:=hK.form
   rw[HCT.out t (by have:=HKN.out;omega)] at hta htc
   subst hta
   have hsz0:=HSZ.out t
   have holb:ol≤1000000:=by omega
   by_cases hlt:t<kn
   ·obtain⟨y,hy⟩ : ∃ y,(kids x)[t]?=some y:=⟨_,List.getElem?_eq_getElem (by have:=HKN.out;omega)⟩
    have hyr:=hR i x HXX.out y (List.mem_of_getElem? hy)
    obtain⟨g,rfl,hg1,hg2,cy,fy⟩:=hkr.at hy
    obtain⟨j,rfl⟩ : ∃ j:Nat,y=(j:Int):=⟨y.toNat,by omega⟩
    have hsz1:=HSZ.out (t+1)
    have hTK:cat (((kids x).take (t+1)).map fun k=>T e k.toNat)=(cat (((kids x).take t).map fun k=>T e k.toNat)).app (T e j):=by
     rw[take_at hy,List.map_append,List.map_cons,List.map_nil,cat_snoc];rfl
    have HOT:Hid (Ot++(T e j).flat Ot.length=O++(cat (((kids x).take (t+1)).map fun k=>T e k.toNat)).flat O.length):=by
     show _=_
     rw[hOtl,hOt,hTK,Fo.flat_app,List.append_assoc]
    have hone:=(T_ops hR (List.getElem?_eq_getElem (by have:=HN.out;omega:j<e.length))).2
    have hos:=one_size hone
    have HEND:Hid ((cat (((kids x).take (t+1)).map fun k=>T e k.toNat)).ends O.length=(cat (((kids x).take t).map fun k=>T e k.toNat)).ends O.length++[((ol+(T e j).size:Nat):Int) - 1]):=by
     show _=_
     rw[hTK,Fo.ends_app,ends_one hone,← hOtl,← hol]
     congr 2;omega
    have hsz2:Ot.length+(T e j).size≤1000000:=by
     rw[hTK,Fo.size_app] at hsz1;omega
    have hlen2:(O++(cat (((kids x).take (t+1)).map fun k=>T e k.toNat)).flat O.length).length=ol+(T e j).size:=by rw[← HOT.out,List.length_append,Fo.flat_len,hol]
    have HLEN2:=Lib.hid hlen2
    have hc:=HIH.out j (by omega) Ot _ wr hB (by have:=hG.size;omega) hO hsz2
    obtain⟨fs,hfs⟩ : ∃ fs,fs=(T e j).size:=⟨_,rfl⟩
    rw[← hfs] at HEND hsz2 hos HLEN2
    have holf:ol+fs≤1000000:=by omega
    have HHC:=Lib.hid hc
    have htk:(t:Int)<(kn:Int):=by omega
    have ht0:(0:Int)≤(t:Int):=by omega
    have HGG:=Lib.hid hG
    have HKR:=Lib.hid hkr
    have HNE:=Lib.hid hne
    have HG2:=Lib.hid hg2
    have HG3:=Lib.hid hg1
    have HK:=Lib.hid hK
    have HTV:=Lib.hid htv
    have hwr:w.heap.size≤wr.heap.size:=hG.size
    clear hy hOt hOtl hol hO hG hkr hne hsz0 hsz1 hg1 hg2 hK htv hTK hone hsz2 hlen2 hc hfs
    go_wp2_with fail
    refine HHC.out.mono ?_
    rintro r w2 ⟨v2,rfl,hO2,hGr2,hB2⟩
    clear cy fy
    rw[HOT.out] at hO2
    have hkr2:=hGr2.rowI HKR.out (fun g' hg'=>(HNE.out g' hg').1)
    have hK2:=OwnI.gr HK.out hGr2 (fun g' hg' hq=>(HTV.out g' hq).2 hg')
    have htv2:∀ g',(Value.slice ta t tc).ownBlock=some g'→w.heap.size≤g'∧v2.ownBlock≠some g':=fun g' hg'=>by
     refine⟨(HTV.out g' hg').1,fun hq=>?_⟩
     rcases hGr2.own g' hq with h | h
     ·exact (HTV.out g' hg').2 h
     ·have:=(HK.out.low g' hg').2;omega
    have hv2:v2.ownBlock≠some g:=fun hq=>by
     rcases hGr2.own g hq with h | h
     ·exact (HNE.out g rfl).1 h
     ·have:=HG2.out;omega
    obtain⟨va2,vc2,hva2,hvc2⟩:=hO2.form
    rw[HLEN2.out] at hva2
    subst hva2
    have hK4:w2.ownsRow base 3 1 (.slice ta t tc) t (((cat (((kids x).take t).map fun k=>T e k.toNat)).ends O.length).map vI):=by
     have:=hK2;unfold OwnI at this
     rw[HCT.out t (by have:=HKN.out;omega)] at this;exact this
    have HO2:=Lib.hid hO2
    have HGT:=Lib.hid (HGG.out.trans hGr2)
    have HR2:=Lib.hid hkr2
    have HTV2:=Lib.hid htv2
    have HV2:=Lib.hid hv2
    have hsz3:wr.heap.size≤w2.heap.size:=hGr2.size
    have hfsum:(1:Int)≤(ol:Int)+(fs:Int):=by omega
    have hkb3:t≤3:=by omega
    have hbase2:base≤w2.heap.size:=by omega
    clear hO2 hGr2 hkr2 hv2 htv2 hK2 hB
    go_wp2_with (at_builtin;refine wpList_app rowI rfl _ _ rfl base _ _ _ rfl (hK4.alloc _) ⟨w2.heap.size,0,none⟩ 1 [.int .i64 ((ol:Int)+(fs:Int) - 1)] rfl rfl ?c1 ?c2 ?c3 ?c4 (w2.heap.size+1) ?c5 ?_)
    case c1=>exact World.news_of_block (heap_alloc_new w2 _)
    case c2=>simp[Value.oneCell']
    case c3=>omega
    case c4=>simp;omega
    case c5=>simp
    intro g4 cap w4 hown hgrow hat hlt4 hcap
    have hgr:Gr w2 (.slice ta t tc) w4 (.slice (some ⟨g4,0,none⟩) (t+1) cap):=gr_append hgrow hat
    have HO4:=Lib.hid (OwnE.gr HO2.out hgr (fun g' hg'=>(HTV2.out g' hg').2))
    have HK4:Hid (OwnI base w4 (.slice (some ⟨g4,0,none⟩) (t+1) cap) ((cat (((kids x).take (t+1)).map fun k=>T e k.toNat)).ends O.length)):=by
     show OwnI _ _ _ _
     unfold OwnI
     rw[HCT.out (t+1) (by have:=HKN.out;omega),HEND.out,List.map_append,List.map_cons,List.map_nil]
     have e1:vI (((ol+fs:Nat):Int) - 1)=.int .i64 ((ol:Int)+(fs:Int) - 1):=by congr 1
     rw[e1];simpa only[List.map_take] using hown
    have HTV4:Hid (∀ g',(Value.slice (some ⟨g4,0,none⟩) (t+1) cap).ownBlock=some g'→w.heap.size≤g'∧(Value.slice va2 (ol+fs) vc2).ownBlock≠some g'):=fun g' hg'=>by
     have e1:g4=g':=Option.some.inj hg'
     subst e1
     rcases hat with h | h
     ·exact HTV2.out g4 h
     ·exact⟨by omega,fun e=>by have:=(HO2.out.low g4 e).2;omega⟩
    have HG4:=Lib.hid (HGT.out.other hgr (fun g' hg'=>(HTV2.out g' hg').1))
    have HB4:Hid (Below base w0 w4):=Gr.below hB2 hgr hbase2 (fun g' hg'=>by have:=(HTV2.out g' hg').1;omega)
    have HR4:=Lib.hid (hgr.rowI HR2.out (fun g' hg'=>fun e=>(HNE.out g' hg').2 e))
    have HNE4:Hid (∀ g_1,(Value.slice (some ⟨g,0,none⟩) kn kc).ownBlock=some g_1→(Value.slice va2 (ol+fs) vc2).ownBlock≠some g_1∧(Value.slice (some ⟨g4,0,none⟩) (t+1) cap).ownBlock≠some g_1):=fun g_1 h=>by
     have e1:g=g_1:=Option.some.inj h
     subst e1
     refine⟨HV2.out,fun e=>?_⟩
     have e2:g4=g:=Option.some.inj e
     subst e2
     rcases hat with h | h
     ·exact (HNE.out g4 rfl).2 h
     ·have:=HG2.out;omega
    have hB4:=HB4.out
    clear hown hgrow hat hgr hK4 hB2
    go_wp2_with fail
    go_roundw
    case rel=>exact⟨t+1,by go_num,by omega,HO4.out,HK4.out,HTV4.out,HG4.out,HB4.out,HR4.out,HNE4.out⟩
    case measure=>simp[intOf];omega
   ·have hte:t=kn:=by omega
    subst hte
    have hfull:(kids x).take t=kids x:=List.take_of_length_le (by have:=HKN.out;omega)
    have hl3:((cat (((kids x).take t).map fun k=>T e k.toNat)).ends O.length).length≤3:=by
     rw[HCT.out t (by have:=HKN.out;omega)];exact h3
    rw[hfull] at hOt hK hl3
    obtain⟨b2,o2,hab,hcell⟩:=HX.out wr hB i x HXX.out
    cases hab
    obtain⟨c0,c1,c2,c3,c4,c5⟩:=nd_cells hcell
    have haim:=aim_any x _ hl3 _ wr hK.sl
    have hw:Calls Tryz.prog 87 #[ndV x,.slice ta t tc] wr fun e' w'=>∃ (o a b c n:Int) (s:ByteArray),e'=.returned (.agg #[.int .i64 o,.int .i64 a,.int .i64 b,.int .i64 c,.int .i64 n,.string s])∧Hid (aim x ((cat ((kids x).map fun k=>T e k.toNat)).ends O.length)=⟨o,a,b,c,n,s⟩)∧Below wr.heap.size wr w' :=
     haim.mono fun _ _ ⟨h1,h2⟩=>⟨_,_,_,_,_,_,h1,rfl,h2⟩
    have HFL:Hid (∀ o' a' b' c' n' s',aim x ((cat ((kids x).map fun k=>T e k.toNat)).ends O.length)=⟨o',a',b',c',n',s'⟩→O++(T e i).flat O.length=Ot++[(⟨o',a',b',c',n',s'⟩ : Nd)]):=fun o' a' b' c' n' s' h=>by
     rw[HEE.out,hOt,h,List.append_assoc]
    have HGG:=Lib.hid hG
    have HOO:=Lib.hid hO
    have HOL:=Lib.hid hol
    clear hfull hOt hkr hcell hl3 hG hO hol hOtl hsz0 hne haim hK htv
    go_wp2_with fail
    refine hw.mono ?_
    rintro r w2 ⟨o',a',b',c',n',s',rfl,hy,hb2⟩
    have hO2:=HOO.out.below hb2
    have hG2:=HGG.out.trans (Gr.of_below (.slice va ol vc) hb2)
    have hB2:=hB.trans (hb2.mono (by have:=HGG.out.size;omega))
    have HG2:=Lib.hid hG2
    have hsz2:base≤w2.heap.size:=by have:=hG2.size;omega
    have hO3:w2.ownsRow base 85 6 (.slice va ol vc) ol (Ot.flatMap ndL):=by have:=hO2;unfold OwnE at this;rw[← HOL.out] at this;exact this
    clear hw hO2 hG2 c0 c1 c2 c3 c4 c5
    go_wp2_with (at_builtin;refine wpList_app rowNd rfl _ _ rfl base _ _ _ rfl (hO3.alloc _) ⟨w2.heap.size,0,none⟩ 1 [.int .i64 o',.int .i64 a',.int .i64 b',.int .i64 c',.int .i64 n',.string s'] rfl rfl ?c1 ?c2 ?c3 ?c4 (w2.heap.size+1) ?c5 ?_)
    case c1=>exact World.news_of_block (heap_alloc_new w2 _)
    case c2=>simp[Value.oneCell']
    case c3=>omega
    case c4=>simp;omega
    case c5=>simp
    intro g cap w4 hown hgrow hat hlt2 hcap
    have hgr:Gr w2 (.slice va ol vc) w4 (.slice (some ⟨g,0,none⟩) (ol+1) cap):=gr_append hgrow hat
    have HF1:=Lib.hid (HG2.out.trans hgr)
    have hB4:Below base w0 w4:=Gr.below hB2 hgr hsz2 (fun g' hg'=>(World.ownsRow.lt hO3 g' hg').1)
    have HOW:=Lib.hid hown
    clear hown hgrow hat hgr hO3
    go_wp2_with fail
    go_ret
    refine⟨_,rfl,?_,HF1.out,hB4⟩
    have e1:=HFL.out _ _ _ _ _ _ hy.out
    rw[e1]
    unfold OwnE
    rw[List.length_append,List.flatMap_append,← HOL.out]
    exact HOW.out
end Go.Proofs.YtmacepicoandkaaGreatDoor
namespace Go.Proofs.YtmacepicoandkaaGreatDoor
open Go.RowKit Go.Shelf Tx
set_option maxHeartbeats 1000000 in
theorem rSub_any (e:List Nd) (v:Value) (i:Int) (w:World) (he:e.length≤1000000000) (hv:IsE w v e) :
  Calls Tryz.prog 63 #[v,.int .i64 i] w fun r w'=>∃ v',r=.returned v'∧OwnE w.heap.size w' v' (subL e i)∧Below w.heap.size w w':=by
 have HM:=rMay_any e v w he hv
 obtain⟨a,c,rfl,hc,hx⟩:=hv.form
 have HX:Hid (∀ W,Below w.heap.size w W→∀ i x,e[i]?=some x→∃ b o,a=some ⟨b,o,none⟩∧∀ j u,(ndL x)[j]?=some u→W.cell? ⟨b,o+i * 6+j,none⟩=some u):=hx
 obtain⟨n,hn⟩ : ∃ n,n=e.length:=⟨_,rfl⟩
 have HN:=Lib.hid hn
 clear hx hv
 cases hm:mayB e with
 | false =>
  have HS:Hid (subL e i=[]):=by show _=_;unfold subL;rw[hm];simp
  rw[hm] at HM
  rw[← hn] at HM ⊢
  clear hm hn
  go_enter Tryz.func63,Tryz.ntmps63
  go_wp2_with fail
  refine HM.mono ?_
  rintro r w1 ⟨rfl,hb⟩
  clear HM
  go_wp2_with fail
  go_ret
  exact⟨_,rfl,by rw[HS.out];exact OwnE.nil_ _ _,hb⟩
 | true =>
  by_cases hi:0≤i∧i<(n:Int)
  ·obtain⟨hi0,hi1⟩:=hi
   have hn0:¬ (n:Int)≤i:=by omega
   obtain⟨j,rfl⟩ : ∃ j:Nat,i=(j:Int):=⟨i.toNat,by omega⟩
   have HS:Hid (subL e (j:Int)=(T e j).flat 0):=by
    show _=_;unfold subL;rw[if_pos ⟨hi0,by omega,hm⟩];rfl
   have hP:=(mayB_iff e).1 hm
   have hs:=T_size hP.inR hP.nodup (by omega:j<e.length)
   have hl5:=hP.len
   have HO:=fun w1 (hb:Below w.heap.size w w1)=>rorder_any e hP.node a c w.heap.size w HX j (by omega) [] (.slice none 0 0) w1 hb hb.size (OwnE.nil_ _ _) (by simp;omega)
   rw[hm] at HM
   rw[← hn] at HM HO ⊢
   have HOO:=Lib.hid HO
   clear hm hn hP hs hl5 HO
   go_enter Tryz.func63,Tryz.ntmps63
   go_wp2_with fail
   refine HM.mono ?_
   rintro r w1 ⟨rfl,hb⟩
   clear HM
   have hc1:=HOO.out w1 hb
   go_wp2_with fail
   refine hc1.mono ?_
   rintro r w2 ⟨v2,rfl,hO,hG,hB⟩
   clear hc1
   have HO2:=Lib.hid hO
   clear hO hG
   go_wp2_with fail
   go_ret
   exact⟨v2,rfl,by rw[HS.out];simpa using HO2.out,hB⟩
  ·have HS:Hid (subL e i=[]):=by show _=_;unfold subL;rw[if_neg (fun h=>hi ⟨h.1,by omega⟩)]
   have hor:i<0∨(¬ i<0∧(n:Int)≤i):=by omega
   rw[hm] at HM
   rw[← hn] at HM ⊢
   clear hi hn hm
   rcases hor with h1 | ⟨h1,h2⟩
   all_goals
    go_enter Tryz.func63,Tryz.ntmps63
    go_wp2_with fail
    refine HM.mono ?_
    rintro r w1 ⟨rfl,hb⟩
    clear HM
    go_wp2_with fail
    go_ret
    exact⟨_,rfl,by rw[HS.out];exact OwnE.nil_ _ _,hb⟩
set_option maxHeartbeats 1000000 in
theorem Norm_any (e:List Nd) (v:Value) (w:World) (he:e.length≤1000000000) (hv:IsE w v e) :
  Calls Tryz.prog 36 #[v] w fun r w'=>∃ v',r=.returned v'∧OwnE w.heap.size w' v' (subL e ((e.length:Int) - 1))∧Below w.heap.size w w':=by
 have HS:=rSub_any e v ((e.length:Int) - 1) w he hv
 obtain⟨a,c,rfl,hc,-⟩:=hv.form
 obtain⟨n,hn⟩ : ∃ n,n=e.length:=⟨_,rfl⟩
 obtain⟨O,hO⟩ : ∃ O,O=subL e ((e.length:Int) - 1):=⟨_,rfl⟩
 rw[← hO] at HS ⊢
 rw[← hn] at HS he hc ⊢
 clear hn hv hO
 go_enter Tryz.func36,Tryz.ntmps36
 go_wp2_with fail
 refine HS.mono ?_
 rintro r w1 ⟨v2,rfl,hO,hB⟩
 have HO:=Lib.hid hO
 clear HS hO
 go_wp2_with fail
 go_ret
 exact⟨v2,rfl,HO.out,hB⟩
set_option maxRecDepth 100000 in
set_option maxHeartbeats 4000000 in
theorem Same_any (e f:List Nd) (u v:Value) (w:World) (he:e.length≤1000000000) (hf:f.length≤1000000000) (hu:IsE w u e) (hv:IsE w v f) :
  Calls Tryz.prog 34 #[u,v] w fun r w'=>r=.returned (.bool (decide (e=f)))∧∃ k,w'=w.drewN k:=by
 obtain⟨a,c,rfl,hc,hx⟩:=hu.form
 obtain⟨a2,c2,rfl,hc2,hx2⟩:=hv.form
 obtain⟨n,hn⟩ : ∃ n,n=e.length:=⟨_,rfl⟩
 obtain⟨m,hm⟩ : ∃ m,m=f.length:=⟨_,rfl⟩
 have HX:=Lib.hid hx
 have HX2:=Lib.hid hx2
 rw[← hn] at he hc ⊢
 rw[← hm] at hf hc2 ⊢
 have HN:=Lib.hid hn
 have HM:=Lib.hid hm
 clear hu hv hx hx2 hn hm
 by_cases hl:n=m
 ·subst hl
  have e0:((n:Int) != (n:Int))=false:=by simp
  go_enter Tryz.func34,Tryz.ntmps34
  go_wp2_with fail
  go_loopw [5] (fun i wr=>∃ t:Nat,i=.int .i64 t∧t≤n∧(∀ j,j<t→e[j]?=f[j]?)∧∃ k,wr=w.drewN k) (fun i _=>n - (intOf i).toNat)
  case atStart=>exact⟨0,rfl,Nat.zero_le _,fun j h=>by omega,0,rfl⟩
  case round =>
   obtain⟨t,rfl,ht,hok,k,hk⟩:=hrel
   by_cases hlt:t<n
   ·obtain⟨x,hx⟩ : ∃ x,e[t]?=some x:=⟨_,List.getElem?_eq_getElem (by have:=HN.out;omega)⟩
    obtain⟨y,hy⟩ : ∃ y,f[t]?=some y:=⟨_,List.getElem?_eq_getElem (by have:=HM.out;omega)⟩
    have hbw:Below w.heap.size w wr:=by rw[hk];exact below_drawn (Below.refl _ _) k
    have hbd:Below w.heap.size w wr.drew:=hbw.drew
    obtain⟨b,o,rfl,hcell⟩:=HX.out _ hbd t x hx
    obtain⟨c0,c1,c2,c3,c4,c5⟩:=nd_cells hcell
    obtain⟨b2,o2,rfl,hcell2⟩:=HX2.out _ hbd t y hy
    obtain⟨d0,d1,d2,d3,d4,d5⟩:=nd_cells hcell2
    obtain⟨q,hq⟩ : ∃ q,q=decide (x=y):=⟨_,rfl⟩
    have HEQ:∀ W,(Op.equalIn 10000 85 (.agg #[.int .i64 x.op,.int .i64 x.a,.int .i64 x.b,.int .i64 x.c,.int .i64 x.n,.string x.s]) (.agg #[.int .i64 y.op,.int .i64 y.a,.int .i64 y.b,.int .i64 y.c,.int .i64 y.n,.string y.s])).run Tryz.prog W=.ok q W:=fun W=>by rw[hq];exact eqNd x y W
    have HXX:=Lib.hid hx
    have HYY:=Lib.hid hy
    have HQ:=Lib.hid hq
    have HOK:=Lib.hid hok
    have HK:=Lib.hid hk
    have htn:(t:Int)<(n:Int):=by omega
    have ht0:(0:Int)≤(t:Int):=by omega
    clear hx hy hq hok hk hcell hcell2 hbw hbd
    cases q
    ·have HF:Hid (decide (e=f)=false):=by
      show _=_
      rw[decide_eq_false_iff_not]
      intro h
      have h1:=HXX.out
      rw[h,HYY.out] at h1
      have h2:=HQ.out
      rw[Option.some.inj h1] at h2
      simp at h2
     go_wp2_with fail
     go_region
     all_goals
      go_wp2_with fail
      go_ret
      exact⟨ret_bool' HF.out.symm,k+1,by rw[HK.out];rfl⟩
    ·have HALL:Hid (∀ j,j<t+1→e[j]?=f[j]?):=fun j hj=>by
      by_cases h:j=t
      ·subst h
       rw[HXX.out,HYY.out]
       have:=HQ.out
       rw[of_decide_eq_true this.symm]
      ·exact HOK.out j (by omega)
     go_wp2_with fail
     go_region
     all_goals
      go_wp2_with fail
      go_roundw
      case rel=>exact⟨t+1,by go_num,by omega,HALL.out,k+1,by rw[HK.out];rfl⟩
      case measure=>simp[intOf];omega
   ·have hte:t=n:=by omega
    subst hte
    have HF:Hid (decide (e=f)=true):=by
     show _=_
     rw[decide_eq_true_iff]
     apply List.ext_getElem?
     intro j
     rcases Nat.lt_or_ge j t with h | h
     ·exact hok j h
     ·rw[List.getElem?_eq_none (by have:=HN.out;omega),List.getElem?_eq_none (by have:=HM.out;omega)]
    have HK:=Lib.hid hk
    clear hok hk
    go_wp2_with fail
    go_ret
    exact⟨ret_bool' HF.out.symm,k,HK.out⟩
 ·have e0:((n:Int) != (m:Int))=true:=by rw[bne_iff_ne];omega
  have HF:Hid (decide (e=f)=false):=by
   show _=_
   rw[decide_eq_false_iff_not]
   intro h
   exact hl (by rw[HN.out,HM.out,h])
  clear hl
  go_enter Tryz.func34,Tryz.ntmps34
  go_wp2_with fail
  go_ret
  exact⟨ret_bool' HF.out.symm,0,rfl⟩
end Go.Proofs.YtmacepicoandkaaGreatDoor
namespace Go.Proofs.YtmacepicoandkaaGreatDoor
open Go.RowKit Go.Shelf Tx
theorem aim_parts (x:Nd) (l:List Int) (h3:l.length≤3) (v:Value) (w:World) (hv:Sl intC 1 w v l):Calls Tryz.prog 87 #[ndV x,v] w fun e w'=>∃ (o a b c n:Int) (s:ByteArray),e=.returned (.agg #[.int .i64 o,.int .i64 a,.int .i64 b,.int .i64 c,.int .i64 n,.string s])∧Hid (aim x l=⟨o,a,b,c,n,s⟩)∧Below w.heap.size w w' :=
 (aim_any x l h3 v w hv).mono fun _ _ ⟨h1,h2⟩=>⟨_,_,_,_,_,_,h1,rfl,h2⟩
set_option maxHeartbeats 1000000 in
theorem leaf_any (op n:Int) (s:ByteArray) (w:World):Calls Tryz.prog 85 #[.int .i64 op,.int .i64 n,.string s] w fun e w'=>e=.returned (.agg #[.int .i64 op,.int .i64 (-1),.int .i64 (-1),.int .i64 (-1),.int .i64 n,.string s])∧Below w.heap.size w w':=by
 have HS:Hid (∀ A:Array Value,Below w.heap.size w (w.alloc (.cells A 85))):=fun A=>(Below.refl _ _).alloc (Nat.le_refl _) _
 go_enter Tryz.func85,Tryz.ntmps85
 go_wp2_with fail
 exact bodyPost_ret (v:=.agg #[.int .i64 op,.int .i64 (-1),.int .i64 (-1),.int .i64 (-1),.int .i64 n,.string s]) (by simp[results,Tryz.results85,go_sem]) rfl ⟨rfl,HS.out _⟩
set_option maxRecDepth 100000 in
set_option maxHeartbeats 8000000 in
theorem rjoin_plain (op n:Int) (s:ByteArray) (Fs:List Fo) (v:Value) (w:World) (hv:Sg 1 IsF w v Fs) (h1:∀ F∈Fs,F.count=1) (hz:(cat Fs).size≤500000) (h28:op≠28) (h27:op≠27) (har:(kids (leaf op n s)).length=Fs.length) :
  Calls Tryz.prog 62 #[.int .i64 op,.int .i64 n,.string s,v] w fun r w'=>∃ v',r=.returned v'∧OwnE w.heap.size w' v' ((joinF op n s Fs).flat 0)∧Below w.heap.size w w':=by
 obtain⟨a,c,rfl,hc,hx⟩:=hv.form keepsF
 obtain⟨m,hm⟩ : ∃ m,m=Fs.length:=⟨_,rfl⟩
 have h3:m≤3:=by rw[hm,← har];exact kids_len _
 rw[← hm] at hc ⊢
 have e28:(op==28)=false:=by simp[h28]
 have e27:(op==27)=false:=by simp[h27]
 have e27':(op != 27)=true:=by simp[h27]
 have HJ:Hid (joinF op n s Fs=.tr op n s (cat Fs) .no):=by show _=_;unfold joinF;rw[if_neg h27]
 have HM:=Lib.hid hm
 have HX:=Lib.hid hx
 have H1:=Lib.hid h1
 have HZ:=Lib.hid hz
 have HAR:=Lib.hid har
 obtain⟨nb,hnb⟩ : ∃ nb,nb=w.heap.size:=⟨_,rfl⟩
 have HNB:=Lib.hid hnb
 clear hm hx h1 hz har hv h28 h27
 go_enter Tryz.func62,Tryz.ntmps62
 go_wp2_with fail
 refine (leaf_any op n s w).mono ?_
 rintro r w1 ⟨rfl,hb1⟩
 have nbw:=hb1.alloc hb1.size (.cells #[.int .i64 op,.int .i64 (-1),.int .i64 (-1),.int .i64 (-1),.int .i64 n,.string s] 85)
 have kb:=Blk.new w1 #[.int .i64 op,.int .i64 (-1),.int .i64 (-1),.int .i64 (-1),.int .i64 n,.string s] 85
 have hxb:nb≤w1.heap.size:=by rw[hnb];exact hb1.size
 have KB:=Lib.hid kb
 have NBW:=Lib.hid nbw
 clear hb1 kb nbw
 go_wp2_with fail
 generalize hW1:w1.alloc (.cells #[.int .i64 op,.int .i64 (-1),.int .i64 (-1),.int .i64 (-1),.int .i64 n,.string s] 85)=W1 at *
 have kb:=KB.out
 have nbw:=NBW.out
 have hltb:=kb.lt
 generalize w1.heap.size=xb at *
 clear hW1 KB NBW
 refine (rKids_any ⟨op,-1,-1,-1,n,s⟩ W1).mono ?_
 rintro r w2 ⟨kv,rfl,hkr,hb2⟩
 obtain⟨ka,kc,hkv,-⟩:=hkr.form
 have hkl:(kids ⟨op,-1,-1,-1,n,s⟩).length=m:=by have:=HAR.out;rw[HM.out];exact this
 rw[hkl] at hkv
 subst hkv
 have em:((m:Int) != (m:Int))=false:=by simp
 have kb2:=kb.below hb2
 have B2:=nbw.trans (hb2.mono (by rw[← hnb];omega))
 have hlt2:=kb2.lt
 have KB2:=Lib.hid kb2
 clear hkr hkl kb nbw hb2 hltb hnb
 go_wp2_with fail
 go_loopw [11,12,14] (fun ov kv i wr=>∃ t:Nat,i=.int .i64 t∧t≤m∧OwnE nb wr ov ((cat (Fs.take t)).flat 0)∧OwnI nb wr kv ((cat (Fs.take t)).ends 0)∧(∀ g,ov.ownBlock=some g→xb<g∧kv.ownBlock≠some g)∧(∀ g,kv.ownBlock=some g→xb<g)∧Below nb w wr ∧
  Blk wr xb #[.int .i64 op,.int .i64 (-1),.int .i64 (-1),.int .i64 (-1),.int .i64 n,.string s] 85) (fun _ _ i _=>m - (intOf i).toNat)
 case atStart=>exact⟨0,rfl,Nat.zero_le _,OwnE.nil_ _ _,World.ownsRow_nil _ _ _ _,(fun g hg=>by cases hg),(fun g hg=>by cases hg),by rw[HNB.out];exact B2,KB2.out⟩
 case round =>
  obtain⟨t,rfl,ht,hO,hK,hd1,hd2,hB,hb⟩:=hrel
  clear B2
  have hsz0:=sum_take Fs t
  have hz:=HZ.out
  have hct:=count_take H1.out t (by have:=HM.out;omega)
  obtain⟨va,vc,hva,hvc⟩:=hO.form
  obtain⟨ka2,kc2,hka,hkc⟩:=hK.form
  rw[Fo.flat_len] at hva hvc
  rw[Fo.ends_len,hct] at hka hkc
  obtain⟨ol,hol⟩ : ∃ ol,ol=(cat (Fs.take t)).size:=⟨_,rfl⟩
  rw[← hol] at hva hvc
  subst hva hka
  have holb:ol≤500000:=by omega
  have HOL:=Lib.hid hol
  have hnbl:=hb.lt
  clear hsz0 hz hct hol
  by_cases hlt:t<m
  ·obtain⟨F,hF⟩ : ∃ F,Fs[t]?=some F:=⟨_,List.getElem?_eq_getElem (by have:=HM.out;omega)⟩
   have hF1:=H1.out F (List.mem_of_getElem? hF)
   have hFs:=one_size hF1
   have hFF:Hid (Fs.take (t+1)=Fs.take t++[F]):=take_at hF
   have hszF:ol+F.size≤500000:=by
    have h1:=sum_take Fs (t+1)
    rw[hFF.out,cat_snoc,Fo.size_app] at h1
    have:=HZ.out;have:=HOL.out;omega
   obtain⟨b,o,cs,rfl,⟨u,rfl,hu⟩,hcell⟩:=HX.out w (Below.refl _ _) t F hF
   have cu0:=hcell 0 u rfl
   simp only[Nat.mul_one,Nat.add_zero] at cu0
   have cu:wr.cell? ⟨b,o+t,none⟩=some u:=(hB.cell (by rw[HNB.out];exact World.block_lt_of_cell? w _ cu0)).trans cu0
   obtain⟨pa,pc,rfl,hpc,hpx⟩:=hu.form
   rw[Fo.flat_len] at cu hpc
   obtain⟨fl,hfl⟩ : ∃ fl,fl=F.size:=⟨_,rfl⟩
   have hbh:=rbehind_any (F.flat 0) (by rw[Fo.flat_len];omega) (fun x hx=>small_mono (small_flat F 0 x hx) (by omega)) pa pc nb w (by rw[HNB.out];exact hpx) ((cat (Fs.take t)).flat 0) (.slice va ol vc) wr hB (by omega) hO (by rw[Fo.flat_len,← HOL.out];omega)
   rw[Fo.flat_len,← hfl] at hbh
   rw[← hfl] at cu hpc hszF hFs
   have HBH:=Lib.hid hbh
   have HK:=Lib.hid hK
   have HD1:=Lib.hid hd1
   have HD2:=Lib.hid hd2
   have HBB:=Lib.hid hb
   have HF1:=Lib.hid hF1
   have HFL:=Lib.hid hfl
   have hfl0:((fl:Int)==0)=false:=by rw[beq_eq_false_iff_ne];omega
   have htm:(t:Int)<(m:Int):=by omega
   have ht0:(0:Int)≤(t:Int):=by omega
   clear hF hcell cu0 hpx hu hbh hK hd1 hd2 hb hF1 hfl hO
   go_wp2_with fail
   refine HBH.out.mono ?_
   rintro r w3 ⟨v3,rfl,hO3,hG3,hB3⟩
   rw[behind_flat,← cat_snoc,← hFF.out] at hO3
   have hK3:=OwnI.gr HK.out hG3 (fun g hg=>(HD1.out g hg).2)
   have hb3:=hG3.blk HBB.out (fun h=>by have:=(HD1.out xb h).1;omega)
   have hd3:∀ g,v3.ownBlock=some g→xb<g∧(Value.slice ka2 t kc2).ownBlock≠some g:=fun g hg=>by
    rcases hG3.own g hg with h | h
    ·exact HD1.out g h
    ·exact⟨by omega,fun e=>by have:=(HK.out.low g e).2;omega⟩
   obtain⟨va3,vc3,hva3,-⟩:=hO3.form
   have hol3:((cat (Fs.take (t+1))).flat 0).length=ol+fl:=by rw[Fo.flat_len,hFF.out,cat_snoc,Fo.size_app,HOL.out,HFL.out]
   rw[hol3] at hva3
   subst hva3
   have hK4:w3.ownsRow nb 3 1 (.slice ka2 t kc2) t (((cat (Fs.take t)).ends 0).map vI):=by
    have:=hK3;unfold OwnI at this
    rw[Fo.ends_len,count_take H1.out t (by have:=HM.out;omega)] at this;exact this
   have HO3:=Lib.hid hO3
   have hxb3:=hb3.lt
   have HB3:=Lib.hid hb3
   have HD3:=Lib.hid hd3
   have hsz3:nb≤w3.heap.size:=by have:=hG3.size;omega
   have hfsum:(1:Int)≤(ol:Int)+(fl:Int):=by omega
   have hkb3:t≤3:=by omega
   have HKL:=Lib.hid (fun g (hg:(Value.slice ka2 t kc2).ownBlock=some g)=>HD2.out g hg)
   clear hO3 hb3 hd3 hol3 hK3 hG3 cu hB
   go_wp2_with (at_builtin;refine wpList_app rowI rfl _ _ rfl nb _ _ _ rfl (hK4.alloc _) ⟨w3.heap.size,0,none⟩ 1 [.int .i64 ((ol:Int)+(fl:Int) - 1)] rfl rfl ?c1 ?c2 ?c3 ?c4 (w3.heap.size+1) ?c5 ?_)
   case c1=>exact World.news_of_block (heap_alloc_new w3 _)
   case c2=>simp[Value.oneCell']
   case c3=>omega
   case c4=>simp;omega
   case c5=>simp
   intro g cap w4 hown hgrow hat hlt4 hcap
   have hgr:Gr w3 (.slice ka2 t kc2) w4 (.slice (some ⟨g,0,none⟩) (t+1) cap):=gr_append hgrow hat
   have HO4:=Lib.hid (OwnE.gr HO3.out hgr (fun g' hg' e=>(HD3.out g' e).2 hg'))
   have HK4:Hid (OwnI nb w4 (.slice (some ⟨g,0,none⟩) (t+1) cap) ((cat (Fs.take (t+1))).ends 0)):=by
    show OwnI _ _ _ _
    unfold OwnI
    rw[Fo.ends_len,count_take H1.out (t+1) (by have:=HM.out;omega),hFF.out,cat_snoc,Fo.ends_app,ends_one HF1.out,List.map_append,List.map_cons,List.map_nil]
    have e:vI ((0+(cat (Fs.take t)).size+F.size - 1:Nat):Int)=.int .i64 ((ol:Int)+(fl:Int) - 1):=by
     rw[← HOL.out,← HFL.out];congr 1;omega
    rw[e];exact hown
   have hgnew:xb<g:=by
    rcases hat with h | h
    ·exact HKL.out g h
    ·omega
   have HDD:Hid (∀ g',(Value.slice va3 (ol+fl) vc3).ownBlock=some g'→xb<g'∧(Value.slice (some ⟨g,0,none⟩) (t+1) cap).ownBlock≠some g'):=fun g' hg'=>by
    refine⟨(HD3.out g' hg').1,fun e=>?_⟩
    cases e
    rcases hat with h | h
    ·exact (HD3.out g hg').2 h
    ·have:=(HO3.out.low g hg').2;omega
   have HB4:=Lib.hid (hgr.blk HB3.out (fun h=>by have:=HKL.out xb h;omega))
   have hB4:Below nb w w4:=Gr.below hB3 hgr hsz3 (fun g' hg'=>by have:=HKL.out g' hg';omega)
   clear hown hgrow hat hgr hK4 hB3
   go_wp2_with fail
   go_roundw
   case rel=>exact⟨t+1,by go_num,by omega,HO4.out,HK4.out,HDD.out,(fun g' hg'=>by cases hg';exact hgnew),hB4,HB4.out⟩
   case measure=>simp[intOf];omega
  ·have hte:t=m:=by omega
   subst hte
   have hfull:Fs.take t=Fs:=List.take_of_length_le (by have:=HM.out;omega)
   rw[hfull] at hO hK
   have hKs:=hK.sl
   have hl3:((cat Fs).ends 0).length≤3:=by rw[Fo.ends_len,count_cat Fs H1.out];have:=HM.out;omega
   have hw:=aim_parts ⟨op,-1,-1,-1,n,s⟩ _ hl3 _ wr hKs
   obtain⟨z0,z1,z2,z3,z4,z5⟩:=six_cells hb
   have HFL:Hid (∀ o' a' b' c' n' s',aim ⟨op,-1,-1,-1,n,s⟩ ((cat Fs).ends 0)=⟨o',a',b',c',n',s'⟩→(joinF op n s Fs).flat 0=(cat Fs).flat 0++[(⟨o',a',b',c',n',s'⟩ : Nd)]):=fun o' a' b' c' n' s' h=>by
    rw[HJ.out,Fo.flat,Fo.flat]
    have:aim (leaf op n s) ((cat Fs).ends 0)=⟨o',a',b',c',n',s'⟩:=h
    rw[this]
   have HOO:=Lib.hid hO
   have HD1:=Lib.hid hd1
   have HOL2:Hid (ol=(cat Fs).size):=by show _=_;rw[← hfull];exact HOL.out
   clear hfull hK hKs hl3 hO hd1 hd2 hb
   go_wp2_with fail
   refine hw.mono ?_
   rintro r w2 ⟨o',a',b',c',n',s',rfl,hy,hb2⟩
   have hO2:=HOO.out.below hb2
   have hB2:=hB.trans (hb2.mono (by omega))
   have hsz2:nb≤w2.heap.size:=by have:=hb2.size;omega
   have hO3:w2.ownsRow nb 85 6 (.slice va ol vc) ol (((cat Fs).flat 0).flatMap ndL):=by have:=hO2;unfold OwnE at this;rw[Fo.flat_len,← HOL2.out] at this;exact this
   clear hw hO2 z0 z1 z2 z3 z4 z5 hb2
   go_wp2_with (at_builtin;refine wpList_app rowNd rfl _ _ rfl nb _ _ _ rfl (hO3.alloc _) ⟨w2.heap.size,0,none⟩ 1 [.int .i64 o',.int .i64 a',.int .i64 b',.int .i64 c',.int .i64 n',.string s'] rfl rfl ?c1 ?c2 ?c3 ?c4 (w2.heap.size+1) ?c5 ?_)
   case c1=>exact World.news_of_block (heap_alloc_new w2 _)
   case c2=>simp[Value.oneCell']
   case c3=>omega
   case c4=>simp;omega
   case c5=>simp
   intro g cap w4 hown hgrow hat hlt5 hcap
   have hgr:Gr w2 (.slice va ol vc) w4 (.slice (some ⟨g,0,none⟩) (ol+1) cap):=gr_append hgrow hat
   have hB4:Below nb w w4:=Gr.below hB2 hgr hsz2 (fun g' hg'=>by have:=(HD1.out g' hg').1;omega)
   have HOW:=Lib.hid hown
   clear hown hgrow hat hgr hO3
   go_wp2_with fail
   go_ret
   refine⟨_,rfl,?_,by rw[← HNB.out];exact hB4⟩
   rw[HFL.out _ _ _ _ _ _ hy.out,← HNB.out]
   unfold OwnE
   rw[List.length_append,List.flatMap_append,Fo.flat_len,← HOL2.out]
   exact HOW.out
end Go.Proofs.YtmacepicoandkaaGreatDoor
