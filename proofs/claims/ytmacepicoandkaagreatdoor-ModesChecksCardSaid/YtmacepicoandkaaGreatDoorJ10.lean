/- The reference: may a node be: the walks. The reference: a node's number and name; its Args: the walks. The reference: how deep an expression is: the walk. The reference: may an expression be: the walk. -/
import Derived.Test.YtmacepicoandkaaGreatDoorJ6
import Derived.Test.YtmacepicoandkaaGreatDoorJ9
set_option linter.unusedVariables false
set_option linter.unusedSimpArgs false
namespace Go.Proofs.YtmacepicoandkaaGreatDoor
open Go.RowKit Go.Shelf Tx
def bareR (x:Nd) (k:Nat):Bool :=
 if x.op=27 then x.b == -1&&x.c == -1
 else if x.op=28 then x.c == -1
 else (decide (0<k) || x.a == -1)&&(decide (1<k) || x.b == -1)&&(decide (2<k) || x.c == -1)
theorem bareR_is (x:Nd):bareR x (kids x).length=bareB x:=by
 obtain⟨op,a,b,c,n,s⟩:=x
 unfold bareR bareB
 simp only[]
 rw[Bool.eq_iff_iff,decide_eq_true_eq]
 by_cases h27:op=27
 ·subst h27
  by_cases ha:a = -1
  ·simp[kids,ha,Tx.aim,leaf]
  ·simp[kids,ha,Tx.aim,leaf]
 by_cases h28:op=28
 ·subst h28
  by_cases hb:b = -1
  ·simp[kids,hb,Tx.aim,leaf]
  ·simp[kids,hb,Tx.aim,leaf]
 rw[if_neg h27,if_neg h28]
 by_cases h26:op=26
 ·subst h26;simp[kids,Tx.aim,leaf]
 by_cases h6:6≤op∧op≤20
 ·have hk:kids ⟨op,a,b,c,n,s⟩=[a,b]:=by unfold kids;rw[if_neg h26,if_neg h28,if_neg h27,if_pos h6]
  simp[hk,Tx.aim,leaf,h28]
 by_cases h4:op=4∨op=5∨(21≤op∧op≤25)
 ·rw[kids_one h4];simp[Tx.aim,leaf]
 ·have hk:kids ⟨op,a,b,c,n,s⟩=[]:=by unfold kids;rw[if_neg h26,if_neg h28,if_neg h27,if_neg h6,if_neg h4]
  simp[hk,Tx.aim,leaf,and_assoc]
set_option maxRecDepth 100000 in
set_option maxHeartbeats 2000000 in
theorem bare_any (x:Nd) (w:World):Calls Tryz.prog 38 #[ndV x] w fun e w'=>e=.returned (.bool (bareB x))∧Below w.heap.size w w':=by
 rw[← bareR_is]
 obtain⟨k,hk⟩ : ∃ k,k=(kids x).length:=⟨_,rfl⟩
 have hk3:k≤3:=by have:=kids_len x;omega
 have HK:Hid (k=(kids x).length):=hk
 rw[← hk]
 clear hk
 obtain⟨op,a,b,c,n,s⟩:=x
 have B0:Below w.heap.size w (w.alloc (.cells #[.int .i64 op,.int .i64 a,.int .i64 b,.int .i64 c,.int .i64 n,.string s] 85)):=(Below.refl _ _).alloc (Nat.le_refl _) _
 have k0:=Blk.new w #[.int .i64 op,.int .i64 a,.int .i64 b,.int .i64 c,.int .i64 n,.string s] 85
 have HR:=rKids_any ⟨op,a,b,c,n,s⟩
 unfold ndV at HR ⊢
 simp only[] at HR ⊢
 go_enter Tryz.func38,Tryz.ntmps38
 go_wp2_with fail
 refine (HR _).mono ?_
 rintro e w1 ⟨v,rfl,hr,hb⟩
 obtain⟨t0,t1,t2,t3,t4,t5⟩:=six_cells (k0.below hb)
 have HB:=Lib.hid (below_next B0 hb)
 clear HR k0 B0 hb
 obtain⟨aa,cc,rfl,_⟩:=hr.form
 rw[← HK.out]
 clear hr HK
 by_cases h27:op=27
 ·have e27:(op==27)=true:=by simp[h27]
  have HF:Hid (bareR ⟨op,a,b,c,n,s⟩ k=((b == -1)&&(c == -1))):=by show _=_;simp[bareR,h27]
  clear h27
  cases hb1:(b == -1) <;> cases hc1:(c == -1)
  all_goals
   go_wp2_with fail
   go_ret
   exact⟨ret_bool' (by rw[HF.out,hb1,hc1];rfl),HB.out⟩
 have e27:(op==27)=false:=by simp[h27]
 by_cases h28:op=28
 ·have e28:(op==28)=true:=by simp[h28]
  have HF:Hid (bareR ⟨op,a,b,c,n,s⟩ k=(c == -1)):=by show _=_;simp[bareR,h28]
  clear h27 h28
  go_wp2_with fail
  go_ret
  exact⟨ret_bool' HF.out.symm,HB.out⟩
 have e28:(op==28)=false:=by simp[h28]
 have HF:Hid (bareR ⟨op,a,b,c,n,s⟩ k=((decide (0<k) || a == -1)&&(decide (1<k) || b == -1)&&(decide (2<k) || c == -1))):=by show _=_;simp[bareR,h27,h28]
 clear h27 h28
 have hor:k=0∨k=1∨k=2∨k=3:=by omega
 clear hk3
 rcases hor with rfl | rfl | rfl | rfl
 ·cases ha1:(a == -1)
  ·go_wp2_with fail
   go_ret
   exact⟨ret_bool' (by rw[HF.out,ha1];rfl),HB.out⟩
  cases hb1:(b == -1)
  ·go_wp2_with fail
   go_ret
   exact⟨ret_bool' (by rw[HF.out,ha1,hb1];rfl),HB.out⟩
  cases hc1:(c == -1)
  all_goals
   go_wp2_with fail
   go_ret
   exact⟨ret_bool' (by rw[HF.out,ha1,hb1,hc1];rfl),HB.out⟩
 ·cases hb1:(b == -1)
  ·go_wp2_with fail
   go_ret
   exact⟨ret_bool' (by rw[HF.out,hb1];rfl),HB.out⟩
  cases hc1:(c == -1)
  all_goals
   go_wp2_with fail
   go_ret
   exact⟨ret_bool' (by rw[HF.out,hb1,hc1];rfl),HB.out⟩
 ·cases hc1:(c == -1)
  all_goals
   go_wp2_with fail
   go_ret
   exact⟨ret_bool' (by rw[HF.out,hc1];rfl),HB.out⟩
 ·go_wp2_with fail
  go_ret
  exact⟨ret_bool' (by rw[HF.out];rfl),HB.out⟩
end Go.Proofs.YtmacepicoandkaaGreatDoor
namespace Go.Proofs.YtmacepicoandkaaGreatDoor
open Go.RowKit Go.Shelf Tx
theorem plainB_is (op n:Int) (s:ByteArray) (se:Bool) (h:s.toList.isEmpty=se):plainB op n s=(((!se)==(op==3 || op==27))&&decide (0≤n)&&decide (n≤mostN op)):=by
 have hse2:decide (s≠ByteArray.empty) = !se:=by
  rw[← h,Bool.eq_iff_iff]
  simp only[decide_eq_true_eq,Bool.not_eq_true',List.isEmpty_eq_false_iff,ne_eq]
  refine not_congr ?_
  rw[Lib.toList_data]
  exact⟨fun h=>by rw[h];rfl,fun h=>bytes_ext (by rw[h];rfl)⟩
 unfold plainB mostN;rw[hse2]
set_option maxRecDepth 100000 in
set_option maxHeartbeats 2000000 in
theorem plain_any (x:Nd) (w:World):Calls Tryz.prog 39 #[ndV x] w fun e w'=>e=.returned (.bool (plainB x.op x.n x.s))∧Below w.heap.size w w':=by
 obtain⟨op,a,b,c,n,s⟩:=x
 have HB:Hid (Below w.heap.size w (w.alloc (.cells #[.int .i64 op,.int .i64 a,.int .i64 b,.int .i64 c,.int .i64 n,.string s] 85))):=(Below.refl _ _).alloc (Nat.le_refl _) _
 obtain⟨se,hse⟩ : ∃ se,s.toList.isEmpty=se:=⟨_,rfl⟩
 have HF:=Lib.hid (plainB_is op n s se hse)
 unfold ndV
 simp only[]
 obtain⟨nm,hnm⟩ : ∃ nm,nm=(op==3 || op==27):=⟨_,rfl⟩
 have HNM:Hid (nm=(op==3 || op==27)):=hnm
 have hor:((op==3)=true∧(op==27)=false∧nm=true)∨((op==3)=false∧(op==27)=true∧nm=true)∨((op==3)=false∧(op==27)=false∧nm=false):=by
  rw[hnm]
  by_cases h3:op=3
  ·subst h3;exact Or.inl ⟨rfl,rfl,rfl⟩
  ·have:(op==3)=false:=by simp[h3]
   rw[this];cases (op==27) <;> simp
 clear hnm
 by_cases hq:(!se)=nm
 ·by_cases h1:op=1
  ·subst h1
   have e3:nm=false:=HNM.out
   subst e3
   obtain rfl:se=true:=by cases se <;> simp at hq ⊢
   clear hor hq HNM
   by_cases c1:0≤n
   ·by_cases c2:n≤2147483647
    ·go_enter Tryz.func39,Tryz.ntmps39
     go_wp2_with fail
     go_ret
     exact⟨ret_bool' (by rw[HF.out];simp[mostN,c1,c2]),HB.out⟩
    ·have C:Hid (decide (n≤2147483647)=false):=decide_eq_false c2
     go_enter Tryz.func39,Tryz.ntmps39
     go_wp2_with fail
     go_ret
     exact⟨ret_bool' (by rw[HF.out,show mostN 1=2147483647 from rfl,C.out];simp),HB.out⟩
   ·have C:Hid (decide (0≤n)=false):=decide_eq_false c1
    go_enter Tryz.func39,Tryz.ntmps39
    go_wp2_with fail
    go_ret
    exact⟨ret_bool' (by rw[HF.out,C.out];simp),HB.out⟩
  by_cases h2:op=2
  ·subst h2
   have e3:nm=false:=HNM.out
   subst e3
   obtain rfl:se=true:=by cases se <;> simp at hq ⊢
   clear hor hq HNM h1
   have HD:Hid ((decide (0≤n)&&decide (n≤1))=(n==0 || n==1)):=by
    show _=_;rw[Bool.eq_iff_iff];simp;omega
   cases c1:(n==0) <;> cases c2:(n==1)
   all_goals
    go_enter Tryz.func39,Tryz.ntmps39
    go_wp2_with fail
    go_ret
    exact⟨ret_bool' (by rw[HF.out,show mostN 2=1 from rfl,Bool.and_assoc,HD.out,c1,c2];rfl),HB.out⟩
  by_cases h25:op=25
  ·subst h25
   have e3:nm=false:=HNM.out
   subst e3
   obtain rfl:se=true:=by cases se <;> simp at hq ⊢
   clear hor hq HNM h1 h2
   by_cases c1:0≤n
   ·by_cases c2:n≤1000
    ·go_enter Tryz.func39,Tryz.ntmps39
     go_wp2_with fail
     go_ret
     exact⟨ret_bool' (by rw[HF.out];simp[mostN,c1,c2]),HB.out⟩
    ·have C:Hid (decide (n≤1000)=false):=decide_eq_false c2
     go_enter Tryz.func39,Tryz.ntmps39
     go_wp2_with fail
     go_ret
     exact⟨ret_bool' (by rw[HF.out,show mostN 25=1000 from rfl,C.out];simp),HB.out⟩
   ·have C:Hid (decide (0≤n)=false):=decide_eq_false c1
    go_enter Tryz.func39,Tryz.ntmps39
    go_wp2_with fail
    go_ret
    exact⟨ret_bool' (by rw[HF.out,C.out];simp),HB.out⟩
  have HD:Hid ((decide (0≤n)&&decide (n≤mostN op))=(n==0)):=by
   show _=_;rw[show mostN op=0 by unfold mostN;rw[if_neg h1,if_neg h2,if_neg h25],Bool.eq_iff_iff];simp;omega
  have f1:(op==1)=false:=by simp[h1]
  have f2:(op==2)=false:=by simp[h2]
  have f25:(op==25)=false:=by simp[h25]
  have HQ:Hid (((!se)==nm)=true):=by show _=_;rw[hq];simp
  clear h1 h2 h25
  rcases hor with ⟨g1,g2,rfl⟩ | ⟨g1,g2,rfl⟩ | ⟨g1,g2,rfl⟩
  all_goals
   cases se <;> first | (exfalso;exact absurd hq (by decide)) | skip
   clear hq
   go_enter Tryz.func39,Tryz.ntmps39
   go_wp2_with fail
   go_ret
   exact⟨ret_bool' (by rw[HF.out,← HNM.out,HQ.out,Bool.and_assoc,HD.out];rfl),HB.out⟩
 ·have HQ:Hid (((!se)==nm)=false):=by show _=_;rw[beq_eq_false_iff_ne];exact hq
  rcases hor with ⟨g1,g2,rfl⟩ | ⟨g1,g2,rfl⟩ | ⟨g1,g2,rfl⟩
  all_goals
   cases se <;> first | (exfalso;exact absurd rfl hq) | skip
   clear hq
   go_enter Tryz.func39,Tryz.ntmps39
   go_wp2_with fail
   go_ret
   exact⟨ret_bool' (by rw[HF.out,← HNM.out,HQ.out];rfl),HB.out⟩
set_option maxRecDepth 100000 in
set_option maxHeartbeats 4000000 in
theorem args_any (e:List Nd) (i:Nat) (x:Nd) (hx:e[i]?=some x) (hr:inR x i) (v:Value) (w:World) (_he:e.length≤1000000000) (hv:IsE w v e) :
  Calls Tryz.prog 41 #[v,.int .i64 i] w fun r w'=>r=.returned (.bool (argsOk e x))∧Below w.heap.size w w':=by
 obtain⟨a,c,rfl,hc,hX⟩:=hv.form
 obtain⟨n,hn⟩ : ∃ n,n=e.length:=⟨_,rfl⟩
 rw[← hn] at hc _he ⊢
 have HN:Hid (n=e.length):=hn
 have HX:Hid (∀ W,Below w.heap.size w W→∀ i x,e[i]?=some x→∃ b o,a=some ⟨b,o,none⟩∧∀ j u,(ndL x)[j]?=some u→W.cell? ⟨b,o+i * 6+j,none⟩=some u):=hX
 have HR:Hid (inR x i):=hr
 have HI:Hid (e[i]?=some x):=hx
 have hi:i<n:=by rw[hn];exact (List.getElem?_eq_some_iff.1 hx).1
 obtain⟨b,o,rfl,hcell⟩:=HX.out w (Below.refl _ _) i x hx
 obtain⟨c0,c1,c2,c3,c4,c5⟩:=nd_cells hcell
 have hkn:(i:Int)<(n:Int):=by omega
 have hk0:(0:Int)≤(i:Int):=by omega
 have nb:=(Below.refl w.heap.size w).alloc (Nat.le_refl _) (.cells (ndA x) 85)
 have kb:=Blk.new w (ndA x) 85
 clear hn hX hv hx hr hcell
 unfold ndA at nb kb
 have HNB:=Lib.hid nb
 have HKB:=Lib.hid kb
 clear nb kb
 go_enter Tryz.func41,Tryz.ntmps41
 go_wp2_with fail
 refine (rKids_any x _).mono ?_
 rintro r w2 ⟨kv,rfl,hkr0,hb2⟩
 have hB3:Below w.heap.size w w2:=below_next HNB.out hb2
 have kb3:=HKB.out.below hb2
 have hkr:=hkr0.mono (b2:=w.heap.size) (by simp)
 obtain⟨ka,kc,hkv,hkc⟩:=hkr.form
 subst hkv
 obtain⟨kn,hkn2⟩ : ∃ kn,kn=(kids x).length:=⟨_,rfl⟩
 have h3:=kids_len x
 rw[← hkn2] at hkr hkc h3 ⊢
 have HKN:=Lib.hid hkn2
 obtain⟨nbk,hnbk⟩ : ∃ q,q=w.heap.size:=⟨_,rfl⟩
 obtain⟨y0,y1,y2,y3,y4,y5⟩:=six_cells kb3
 have HB3:=Lib.hid hB3
 have HKR:=Lib.hid hkr
 clear hkn2 hkr0 hb2 c0 c1 c2 c3 c4 c5 HNB HKB kb3 hB3 hkr
 go_wp2_with fail
 have HL2:Hid ((x.op==28)=true→((kn:Int)==2)=(x.b != -1)):=fun h=>by
  have h28:x.op=28:=by simpa using h
  have h26:¬ x.op=26:=by omega
  have hk:=HKN.out
  unfold kids at hk
  rw[if_neg h26,if_pos h28] at hk
  by_cases hb:x.b = -1
  ·rw[if_pos hb] at hk;subst hk;simp[hb]
  ·rw[if_neg hb] at hk;subst hk;simp[hb]
 go_loop [7] (fun i=>∃ t:Nat,i=.int .i64 t∧t≤kn∧∀ t' y,t'<t→(kids x)[t']?=some y→((e.getD y.toNat dft).op==28)=argWant x t') (fun i=>kn - (intOf i).toNat)
 case atStart=>exact⟨0,rfl,Nat.zero_le _,fun t' y h=>by omega⟩
 case round =>
  obtain⟨t,rfl,ht,hok⟩:=hrel
  by_cases hlt2:t<kn
  ·obtain⟨y,hy⟩ : ∃ y,(kids x)[t]?=some y:=⟨_,List.getElem?_eq_getElem (by have:=HKN.out;omega)⟩
   obtain⟨g,rfl,hg1,hg2,cy,-⟩:=HKR.out.at hy
   have HY:=Lib.hid hy
   have htk:(t:Int)<(kn:Int):=by omega
   have ht0:(0:Int)≤(t:Int):=by omega
   obtain⟨hy0,hyk⟩:=HR.out y (List.mem_of_getElem? hy)
   obtain⟨j,rfl⟩ : ∃ j:Nat,y=(j:Int):=⟨y.toNat,by omega⟩
   have hjn:(j:Int)<(n:Int):=by omega
   clear hy
   obtain⟨z2,hz2⟩ : ∃ z2,e[j]?=some z2:=⟨_,List.getElem?_eq_getElem (by have:=HN.out;omega)⟩
   have HZ2:Hid ((e.getD (j:Int).toNat dft)=z2):=by show _=_;rw[show (j:Int).toNat=j by omega,List.getD_eq_getElem?_getD,hz2];rfl
   obtain⟨b2,o2,hab,hcell⟩:=HX.out w2 HB3.out j z2 hz2
   cases hab
   have ce:=hcell 0 _ rfl
   simp only[Nat.add_zero] at ce
   obtain⟨wt,hwt⟩ : ∃ wt,wt=argWant x t:=⟨_,rfl⟩
   have hor:((x.op==27)=true∧wt=true)∨((x.op==27)=false∧(x.op==28)=false∧wt=false)∨((x.op==27)=false∧(x.op==28)=true∧((kn:Int)==2)=false∧wt=false) ∨
     ((x.op==27)=false∧(x.op==28)=true∧((kn:Int)==2)=true∧((t:Int)==0)=false∧wt=false)∨((x.op==27)=false∧(x.op==28)=true∧((kn:Int)==2)=true∧((t:Int)==0)=true∧wt=true):=by
    have e1:((t:Int)==0)=(t==0):=by rw[Bool.eq_iff_iff];simp
    rw[hwt,e1];unfold argWant
    have:=HL2.out
    revert this
    cases (x.op==27) <;> cases (x.op==28) <;> cases ((kn:Int)==2) <;> cases (x.b != -1) <;> cases (t==0) <;> simp
   obtain⟨zo28,hzo⟩ : ∃ q,q=(z2.op==28):=⟨_,rfl⟩
   have hzo2:(z2.op==28)=zo28:=hzo.symm
   have HWT:Hid (wt=argWant x t):=hwt
   have HOK:Hid (∀ t' y,t'<t→(kids x)[t']?=some y→((e.getD y.toNat dft).op==28)=argWant x t'):=hok
   have HZO:Hid (zo28=(z2.op==28)):=hzo
   clear hok hz2 hcell hwt hzo
   by_cases heq:zo28=wt
   ·have HALL:Hid (∀ t' y,t'<t+1→(kids x)[t']?=some y→((e.getD y.toNat dft).op==28)=argWant x t'):=fun t' y h1 h2=>by
     by_cases q:t'=t
     ·subst q
      have:=HY.out;rw[h2] at this;cases this
      rw[HZ2.out,← HZO.out,← HWT.out];exact heq
     ·exact HOK.out t' y (by omega) h2
    rcases hor with ⟨g1,rfl⟩ | ⟨g1,g2,rfl⟩ | ⟨g1,g2,g3,rfl⟩ | ⟨g1,g2,g3,g4,rfl⟩ | ⟨g1,g2,g3,g4,rfl⟩
    all_goals
     subst heq
     go_wp2_with fail
     go_round
     case rel=>exact⟨t+1,by go_num,by omega,HALL.out⟩
     case measure=>simp[intOf];omega
   ·have HF:Hid (argsOk e x=false):=by
     show _=_
     rw[Bool.eq_false_iff]
     intro h
     have h1:=(argsOk_iff e x).1 h t _ HY.out
     rw[HZ2.out,← HZO.out,← HWT.out] at h1
     exact heq h1
    have heq2:zo28 = !wt:=by revert heq;cases zo28 <;> cases wt <;> simp
    clear heq
    rcases hor with ⟨g1,rfl⟩ | ⟨g1,g2,rfl⟩ | ⟨g1,g2,g3,rfl⟩ | ⟨g1,g2,g3,g4,rfl⟩ | ⟨g1,g2,g3,g4,rfl⟩
    all_goals
     subst heq2
     go_wp2_with fail
     go_ret
     exact⟨ret_bool' HF.out.symm,HB3.out⟩
  ·have hte:t=kn:=by omega
   subst hte
   have HF:Hid (argsOk e x=true):=(argsOk_iff e x).2 fun t' k hk=>hok t' k (by have:=(List.getElem?_eq_some_iff.1 hk).1;have:=HKN.out;omega) hk
   clear hok
   go_wp2_with fail
   go_ret
   exact⟨ret_bool' HF.out.symm,HB3.out⟩
end Go.Proofs.YtmacepicoandkaaGreatDoor
namespace Go.Proofs.YtmacepicoandkaaGreatDoor
open Go.RowKit Go.Shelf Tx
set_option maxRecDepth 100000 in
set_option maxHeartbeats 4000000 in
theorem rDepth_any (e:List Nd) (v:Value) (w:World) (he:e.length≤5000) (hv:IsE w v e) :
  Calls Tryz.prog 42 #[v] w fun r w'=>r=.returned (.int .i64 (depL e))∧Below w.heap.size w w':=by
 obtain⟨a,c,rfl,hc,hx⟩:=hv.form
 obtain⟨i0,hi,hz0,hz1,hz2⟩:=info_parts infoI
 obtain⟨n,hn⟩ : ∃ n,n=e.length:=⟨_,rfl⟩
 rw[← hn] at hc he ⊢
 have HN:Hid (n=e.length):=hn
 have HX:Hid (∀ W,Below w.heap.size w W→∀ i x,e[i]?=some x→∃ b o,a=some ⟨b,o,none⟩∧∀ j u,(ndL x)[j]?=some u→W.cell? ⟨b,o+i * 6+j,none⟩=some u):=hx
 clear hn hx hv
 go_enter Tryz.func42,Tryz.ntmps42
 go_wp2_with (at_make;refine wpList_make_full _ rfl _ _ 83 rfl w.heap.size 3 i0 (.int .i64 0) 1 Tryz.underlying83 hi hz0 hz1 _ _ _ _ n rfl rfl rfl rfl ?_ ?_ ?_ ?_;rotate_right;intro w2 hown2 hgrow2)
 case refine_1=>rw[hz2];omega
 case refine_2=>unfold maxLen;omega
 case refine_3=>exact Nat.le_refl _
 have hB2:Below w.heap.size w w2:=(Below.refl _ _).grown hgrow2 (Nat.le_refl _) (by simp)
 have hR2:RowL vI 3 w.heap.size w2 w.heap.size n (List.replicate n 0):=by
  unfold RowL
  have:=hown2
  simp only[Value.cells,Nat.mul_one,toList_madeCells_one] at this
  simpa using this
 clear hown2 hgrow2 hi hz0 hz1 hz2
 obtain⟨bx,hbx⟩ : ∃ bx,bx=w.heap.size:=⟨_,rfl⟩
 rw[← hbx] at hB2 hR2 ⊢
 have HBX:Hid (bx=w.heap.size):=hbx
 clear hbx
 go_loopw [4] (fun i wr=>∃ (k:Nat) (L:List Int),i=.int .i64 k∧k≤n∧RowL vI 3 bx wr bx n L∧DepRow (deps e) k 0 L∧Below bx w wr) (fun i _=>n - (intOf i).toNat)
 case atStart=>exact⟨0,_,rfl,Nat.zero_le _,hR2,DepRow.start _ _,hB2⟩
 case round =>
  obtain⟨k,L,rfl,hk,hR,hD,hB⟩:=hrel
  clear hB2 hR2
  by_cases hlt:k<n
  ·obtain⟨x,hx⟩ : ∃ x,e[k]?=some x:=⟨_,List.getElem?_eq_getElem (by have:=HN.out;omega)⟩
   obtain⟨b,o,rfl,hcell⟩:=HX.out wr (by rw[← HBX.out];exact hB) k x hx
   obtain⟨c0,c1,c2,c3,c4,c5⟩:=nd_cells hcell
   have HXX:=Lib.hid hx
   have hkn:(k:Int)<(n:Int):=by omega
   have hk0:(0:Int)≤(k:Int):=by omega
   have hlL:=hR.len
   have ck:=hR.cell (hD.now (by omega))
   have fk:=hR.free k
   have hRs:=hR.set k 1
   have hltb:=hR.lt.2
   have hbb:b≠bx:=by
    obtain⟨b',o',hab,hcell'⟩:=HX.out w (Below.refl _ _) k x hx
    cases hab
    have:=World.block_lt_of_cell? w _ (hcell' 0 _ rfl)
    have h8:=HBX.out
    simp at this;omega
   have hDs:DepRow (deps e) k (kidMax (deps e) k ((kids x).take 0)+1) (L.set k 1):=hD.raise 1
   have hBs:Below bx w (wr.setCell ⟨bx,k,none⟩ (.int .i64 1)):=below_set hB (Nat.le_refl _)
   have HRS:=Lib.hid hRs
   have HDS:=Lib.hid hDs
   have HBS:=Lib.hid hBs
   have hls:bx<(wr.setCell ⟨bx,k,none⟩ (.int .i64 1)).heap.size:=hRs.lt.2
   have HLS:=Lib.hid hls
   clear hx hcell hRs hDs hBs hR hD hB hlL hls
   go_wp2_with fail
   refine (rKids_any x _).mono ?_
   rintro r w1 ⟨kv,rfl,hkr0,hb1⟩
   have hR1:=HRS.out.below hb1
   have hB1:Below bx w w1:=HBS.out.trans (hb1.mono (by have:=HLS.out;omega))
   have hkr:=hkr0.mono (b2:=bx+1) (by have:=HLS.out;omega)
   clear hkr0 c0 c1 c2 c3 c4 c5 ck fk hb1
   obtain⟨ka,kc,rfl,hkc⟩:=hkr.form
   obtain⟨kn,hkn2⟩ : ∃ kn,kn=(kids x).length:=⟨_,rfl⟩
   have h3:=kids_len x
   rw[← hkn2] at hkr hkc h3 ⊢
   have HKN:=Lib.hid hkn2
   clear hkn2
   go_wp2_with fail
   obtain⟨wo,rfl⟩ : ∃ wo:World,wo=wr:=⟨_,rfl⟩
   go_loopw [6] (fun i wr=>∃ (t:Nat) (L:List Int),i=.int .i64 t∧t≤kn∧RowL vI 3 bx wr bx n L∧DepRow (deps e) k (kidMax (deps e) k ((kids x).take t)+1) L∧Below bx w wr∧RowI (bx+1) wr (.slice ka kn kc) (kids x)) (fun i _=>kn - (intOf i).toNat)
   case atStart=>exact⟨0,_,rfl,Nat.zero_le _,hR1,HDS.out,hB1,hkr⟩
   case round =>
    obtain⟨t,L,rfl,ht,hR,hD,hB,hkr⟩:=hrel
    clear hR1 hB1
    by_cases hlt2:t<kn
    ·obtain⟨y,hy⟩ : ∃ y,(kids x)[t]?=some y:=⟨_,List.getElem?_eq_getElem (by have:=HKN.out;omega)⟩
     obtain⟨g,rfl,hg1,hg2,cy,-⟩:=hkr.at hy
     have HS:Hid (kidMax (deps e) k ((kids x).take (t+1))=if 0≤y∧y<(k:Int) then max (kidMax (deps e) k ((kids x).take t)) ((deps e).getD y.toNat 0) else kidMax (deps e) k ((kids x).take t)):=by
      show _=_;rw[take_at hy,kidMax_snoc]
     have htk:(t:Int)<(kn:Int):=by omega
     have ht0:(0:Int)≤(t:Int):=by omega
     clear hy
     have HR:=Lib.hid hR
     have HD:=Lib.hid hD
     by_cases hyr:0≤y∧y<(k:Int)
     ·have HS2:Hid (kidMax (deps e) k ((kids x).take (t+1))=max (kidMax (deps e) k ((kids x).take t)) ((deps e).getD y.toNat 0)):=by show _=_;rw[HS.out,if_pos hyr]
      obtain⟨hy0,hyk⟩:=hyr
      obtain⟨j,rfl⟩ : ∃ j:Nat,y=(j:Int):=⟨y.toNat,by omega⟩
      have hlL:=hR.len
      obtain⟨dj,hdj⟩ : ∃ dj,(deps e)[j]?=some dj:=⟨_,List.getElem?_eq_getElem (by rw[deps_len];have:=HN.out;omega)⟩
      have HDJ:Hid ((deps e).getD (j:Int).toNat 0=dj):=by show _=_;rw[List.getD_eq_getElem?_getD,show (j:Int).toNat=j by omega,hdj];rfl
      have cj:=hR.cell (hD.old j dj (by omega) hdj)
      have ck:=hR.cell (hD.now (by omega))
      have fk:=hR.free k
      obtain⟨m,hm⟩ : ∃ m,m=kidMax (deps e) k ((kids x).take t)+1:=⟨_,rfl⟩
      rw[← hm] at ck
      have HM:=Lib.hid hm
      have hmax:∀ (ts:Array TypeId) (t':TypeId) (W:World),(Builtin.max_ ts t' #[.int .i64 (m:Int),.int .i64 ((dj:Int)+1)]).run Tryz.prog W=.ok (.int .i64 ((max m (dj+1):Nat):Int)) W:=fun ts t' W=>by
       rw[run_max_int2];congr 2;split <;> omega
      have hjn:(j:Int)<(n:Int):=by omega
      have hdz:(dj:Int)≤5000:=by have:=deps_le e j _ hdj;omega
      have hdz0:(0:Int)≤(dj:Int):=by omega
      have HKR:=Lib.hid hkr
      clear hm hdj hlL hR hD hkr
      go_wp2_with fail
      go_region
      go_wp2_with fail
      go_roundw
      case rel =>
       refine⟨t+1,L.set k ((max m (dj+1):Nat):Int),by go_num,by omega,HR.out.set k _,?_,(below_set hB (Nat.le_refl _)).drew,HKR.out.other (by omega) _ _⟩
       rw[HS2.out,HDJ.out,show max (kidMax (deps e) k ((kids x).take t)) dj+1=max m (dj+1) by have:=HM.out;omega]
       exact HD.out.raise _
      case measure=>simp[intOf];omega
     ·have HS2:Hid (kidMax (deps e) k ((kids x).take (t+1))=kidMax (deps e) k ((kids x).take t)):=by show _=_;rw[HS.out,if_neg hyr]
      have HKR:=Lib.hid hkr
      have hor:¬ (0:Int)≤y∨((0:Int)≤y∧¬ y<(k:Int)):=by omega
      clear hyr hR hD hkr
      rcases hor with h1 | ⟨h1,h2⟩
      all_goals
       go_wp2_with fail
       go_roundw
       case rel=>exact⟨t+1,L,by go_num,by omega,HR.out,by rw[HS2.out];exact HD.out,hB,HKR.out⟩
       case measure=>simp[intOf];omega
    ·have hte:t=kn:=by omega
     subst hte
     have hlL:=hR.len
     have hfull:(kids x).take t=kids x:=List.take_of_length_le (by have:=HKN.out;omega)
     rw[hfull] at hD
     have HD2:=Lib.hid (hD.next (by omega) (deps_at HXX.out))
     have HR:=Lib.hid hR
     clear hR hD hfull hlL
     go_wp2_with fail
     go_roundw
     case rel=>exact⟨k+1,L,by go_num,by omega,HR.out,HD2.out,hB⟩
     case measure=>simp[intOf];omega
  ·have hke:k=n:=by omega
   subst hke
   have hlL:=hR.len
   have HL:Hid (L=(deps e).map Int.ofNat):=hD.done (by rw[deps_len];exact HN.out.symm) hlL
   have HR:=Lib.hid hR
   by_cases h0:k=0
   ·have HZ:Hid (depL e=0):=by
     show _=_
     have:e=[]:=List.eq_nil_of_length_eq_zero (by have:=HN.out;omega)
     rw[this];rfl
    subst h0
    clear hD hlL hR
    go_wp2_with fail
    go_ret
    exact⟨by rw[HZ.out];rfl,by rw[← HBX.out];exact hB⟩
   ·have e0:((k:Int)==0)=false:=by rw[beq_eq_false_iff_ne];omega
    have hn1:(0:Int)≤(k:Int) - 1:=by omega
    have ht:((k:Int) - 1).toNat=k - 1:=by omega
    have hl:(deps e)[k - 1]?=some (depL e):=by
     unfold depL
     have h1:(deps e).length=k:=by rw[deps_len,HN.out]
     rw[List.getLastD_eq_getLast?,List.getLast?_eq_getElem?,h1]
     obtain⟨y,hy⟩ : ∃ y,(deps e)[k - 1]?=some y:=⟨_,List.getElem?_eq_getElem (by omega)⟩
     rw[hy];rfl
    have cl:=hR.cell (j:=k - 1) (x:=(depL e:Int)) (by rw[HL.out,List.getElem?_map,hl];rfl)
    clear hD hlL hR hl h0
    go_wp2_with fail
    go_ret
    exact⟨rfl,by rw[← HBX.out];exact hB⟩
end Go.Proofs.YtmacepicoandkaaGreatDoor
namespace Go.Proofs.YtmacepicoandkaaGreatDoor
open Go.RowKit Go.Shelf Tx
def cntL (P:List Int) (n:Nat):List Int:=(List.range n).map fun j:Nat=>(P.count (j:Int):Int)
theorem cntL_len (P:List Int) (n:Nat):(cntL P n).length=n:=by simp[cntL]
theorem cntL_at {P:List Int} {n j:Nat} (hj:j<n):(cntL P n)[j]?=some (P.count (j:Int):Int):=by
 unfold cntL;rw[List.getElem?_map,List.getElem?_range hj];rfl
theorem cntL_nil (n:Nat):cntL [] n=List.replicate n 0:=by
 apply List.ext_getElem?
 intro j
 rcases Nat.lt_or_ge j n with h | h
 ·rw[cntL_at h,List.getElem?_replicate,if_pos h];rfl
 ·rw[List.getElem?_eq_none (by rw[cntL_len];exact h),List.getElem?_eq_none (by rw[List.length_replicate];exact h)]
theorem cntL_put (P:List Int) (n j:Nat):(cntL P n).set j ((P.count (j:Int):Int)+1)=cntL (P++[(j:Int)]) n:=by
 apply List.ext_getElem?
 intro i
 rw[List.getElem?_set,cntL_len]
 by_cases e:j=i
 ·subst e
  rw[if_pos rfl]
  by_cases h:j<n
  ·rw[if_pos h,cntL_at h];simp[List.count_append]
  ·rw[if_neg h,List.getElem?_eq_none (by rw[cntL_len];omega)]
 ·rw[if_neg e]
  by_cases h:i<n
  ·rw[cntL_at h,cntL_at h,List.count_append,List.count_singleton]
   have:((j:Int)==(i:Int))=false:=by rw[beq_eq_false_iff_ne];omega
   simp[this]
  ·rw[List.getElem?_eq_none (by rw[cntL_len];omega),List.getElem?_eq_none (by rw[cntL_len];omega)]
theorem allK_le (e:List Nd):(allK e).length≤3 * e.length:=by
 induction e using snoc_ind with
 | h0=>simp[allK]
 | h1 e x ih =>
  rw[allK_snoc,List.length_append,List.length_append,List.length_singleton]
  have:=kids_len x;omega
def NodeTo (e:List Nd) (k:Nat):Prop:=∀ j x,j<k→e[j]?=some x→nodeB x=true∧inR x j∧argsOk e x=true
theorem NodeTo.next {e:List Nd} {k:Nat} {x:Nd} (h:NodeTo e k) (hx:e[k]?=some x) (h1:nodeB x=true) (h2:inR x k) (h3:argsOk e x=true):NodeTo e (k+1):=fun j y hj hy=>by
 by_cases q:j=k
 ·subst q;rw[hx] at hy;cases hy;exact⟨h1,h2,h3⟩
 ·exact h j y (by omega) hy
theorem nodeB_parts (x:Nd):nodeB x=(decide (1≤x.op)&&decide (x.op≤28)&&bareB x&&plainB x.op x.n x.s):=rfl
set_option maxRecDepth 100000 in
set_option maxHeartbeats 8000000 in
theorem rMay_any (e:List Nd) (v:Value) (w:World) (he:e.length≤1000000000) (hv:IsE w v e) :
  Calls Tryz.prog 19 #[v] w fun r w'=>r=.returned (.bool (mayB e))∧Below w.heap.size w w':=by
 have HVV:=Lib.hid hv
 obtain⟨a,c,rfl,hc,hx⟩:=hv.form
 obtain⟨i0,hi,hz0,hz1,hz2⟩:=info_parts infoI
 obtain⟨n,hn⟩ : ∃ n,n=e.length:=⟨_,rfl⟩
 rw[← hn] at hc he HVV ⊢
 have HN:Hid (n=e.length):=hn
 have HX:Hid (∀ W,Below w.heap.size w W→∀ i x,e[i]?=some x→∃ b o,a=some ⟨b,o,none⟩∧∀ j u,(ndL x)[j]?=some u→W.cell? ⟨b,o+i * 6+j,none⟩=some u):=hx
 clear hn hx hv
 by_cases h0:n=0
 ·have HF:Hid (mayB e=false):=may_no fun h=>by have:=h.ne;have:=HN.out;omega
  subst h0
  go_enter Tryz.func19,Tryz.ntmps19
  go_wp2_with fail
  go_ret
  exact⟨by (rw[HF.out];first | done | rfl),Below.refl _ _⟩
 have e0:¬ (n:Int)<1:=by omega
 by_cases h5:5000<n
 ·have HF:Hid (mayB e=false):=may_no fun h=>by have:=h.len;have:=HN.out;omega
  have h5':(5000:Int)<(n:Int):=by omega
  go_enter Tryz.func19,Tryz.ntmps19
  go_wp2_with fail
  go_ret
  exact⟨by (rw[HF.out];first | done | rfl),Below.refl _ _⟩
 have h5':¬ (5000:Int)<(n:Int):=by omega
 have HARG:=fun (i:Nat) (x:Nd) (hx:e[i]?=some x) (hr:inR x i) (W:World) (hb:Below w.heap.size w W)=>args_any e i x hx hr _ W (by have:=HN.out;omega) (Sl.below HVV.out hb)
 have HDEP:=fun (W:World) (hb:Below w.heap.size w W)=>rDepth_any e _ W (by have:=HN.out;omega) (Sl.below HVV.out hb)
 have HARGH:=Lib.hid HARG
 have HDEPH:=Lib.hid HDEP
 clear HARG HDEP
 obtain⟨z,hz⟩ : ∃ z,e[n - 1]?=some z:=⟨_,List.getElem?_eq_getElem (by have:=HN.out;omega)⟩
 have HLAST:Hid (e.getLastD dft=z):=by show _=_;rw[List.getLastD_eq_getLast?,List.getLast?_eq_getElem?,← HN.out,hz];rfl
 have HZZ:=Lib.hid hz
 clear hz
 go_enter Tryz.func19,Tryz.ntmps19
 go_wp2_with (at_make;refine wpList_make_full _ rfl _ _ 83 rfl w.heap.size 3 i0 (.int .i64 0) 1 Tryz.underlying83 hi hz0 hz1 _ _ _ _ n rfl rfl rfl rfl ?_ ?_ ?_ ?_;rotate_right;intro w2 hown2 hgrow2)
 case refine_1=>first | omega | (rw[hz2];omega)
 case refine_2=>first | exact Nat.le_refl _ | (unfold maxLen;omega)
 have hB2:Below w.heap.size w w2:=(Below.refl _ _).grown hgrow2 (Nat.le_refl _) (by simp)
 have hR2:RowL vI 3 w.heap.size w2 w.heap.size n (cntL [] n):=by
  unfold RowL
  have:=hown2
  simp only[Value.cells,Nat.mul_one,toList_madeCells_one] at this
  rw[cntL_nil];simpa using this
 clear hown2 hgrow2 hi hz0 hz1 hz2
 obtain⟨bx,hbx⟩ : ∃ bx,bx=w.heap.size:=⟨_,rfl⟩
 rw[← hbx] at hB2 hR2 ⊢
 have HBX:Hid (bx=w.heap.size):=hbx
 clear hbx
 go_loopw [4] (fun i wr=>∃ k:Nat,i=.int .i64 k∧k≤n∧RowL vI 3 bx wr bx n (cntL (allK (e.take k)) n)∧NodeTo e k∧Below bx w wr) (fun i _=>n - (intOf i).toNat)
 case atStart=>exact⟨0,rfl,Nat.zero_le _,hR2,fun j x h=>by omega,hB2⟩
 case round =>
  obtain⟨k,rfl,hk,hR,hM,hB⟩:=hrel
  clear hB2 hR2
  by_cases hlt:k<n
  ·obtain⟨x,hx⟩ : ∃ x,e[k]?=some x:=⟨_,List.getElem?_eq_getElem (by have:=HN.out;omega)⟩
   obtain⟨b,o,hab,hcell⟩:=HX.out wr (by rw[← HBX.out];exact hB) k x hx
   cases hab
   obtain⟨c0,c1,c2,c3,c4,c5⟩:=nd_cells hcell
   have HXX:=Lib.hid hx
   have hkn:(k:Int)<(n:Int):=by omega
   have hk0:(0:Int)≤(k:Int):=by omega
   clear hx hcell
   have HM:=Lib.hid hM
   have HR:=Lib.hid hR
   have HB:=Lib.hid hB
   clear hM hR hB
   have HNO:Hid (nodeB x=false→mayB e=false):=fun q=>may_no fun h=>by have:=(h.node k x HXX.out).1;rw[q] at this;cases this
   by_cases o1:x.op<1
   ·have HF:Hid (mayB e=false):=HNO.out (by rw[nodeB_parts,decide_eq_false (by omega:¬ 1≤x.op)];rfl)
    go_wp2_with fail
    go_ret
    exact⟨by (rw[HF.out];first | done | rfl),by rw[← HBX.out];exact HB.out⟩
   by_cases o2:28<x.op
   ·have HF:Hid (mayB e=false):=HNO.out (by rw[nodeB_parts,decide_eq_false (by omega:¬ x.op≤28)];simp)
    go_wp2_with fail
    go_ret
    exact⟨by (rw[HF.out];first | done | rfl),by rw[← HBX.out];exact HB.out⟩
   have HO:Hid (nodeB x=(bareB x&&plainB x.op x.n x.s)):=by
    show _=_
    rw[nodeB_parts,decide_eq_true (by omega:1≤x.op),decide_eq_true (by omega:x.op≤28)];rfl
   go_wp2_with fail
   refine (bare_any x _).mono ?_
   rintro r w1 ⟨rfl,hb1⟩
   obtain⟨qb,hqb⟩ : ∃ qb,qb=bareB x:=⟨_,rfl⟩
   have HQB:=Lib.hid hqb
   rw[← hqb]
   clear hqb
   have hltb:=HR.out.lt.2
   have hR1:=HR.out.below hb1
   have hB1:Below bx w w1:=HB.out.trans (hb1.mono (Nat.le_of_lt hltb))
   clear hb1 c0 c1 c2 c3 c4 c5
   cases qb
   ·have HF:Hid (mayB e=false):=HNO.out (by rw[HO.out,← HQB.out];rfl)
    have HB1:=Lib.hid hB1
    clear hR1 hB1
    go_wp2_with fail
    go_ret
    exact⟨by (rw[HF.out];first | done | rfl),by rw[← HBX.out];exact HB1.out⟩
   obtain⟨b',o',hab,hcell⟩:=HX.out w1 (by rw[← HBX.out];exact hB1) k x HXX.out
   cases hab
   obtain⟨c0,c1,c2,c3,c4,c5⟩:=nd_cells hcell
   have HR1:=Lib.hid hR1
   have HB1:=Lib.hid hB1
   clear hcell hR1 hB1
   go_wp2_with fail
   refine (plain_any x _).mono ?_
   rintro r w2 ⟨rfl,hb2⟩
   obtain⟨qp,hqp⟩ : ∃ qp,qp=plainB x.op x.n x.s:=⟨_,rfl⟩
   have HQP:=Lib.hid hqp
   rw[← hqp]
   clear hqp
   have hR2:=HR1.out.below hb2
   have hB2:Below bx w w2:=HB1.out.trans (hb2.mono (Nat.le_of_lt HR1.out.lt.2))
   clear hb2 c0 c1 c2 c3 c4 c5
   cases qp
   ·have HF:Hid (mayB e=false):=HNO.out (by rw[HO.out,← HQP.out];simp)
    have HB2:=Lib.hid hB2
    clear hR2 hB2
    go_wp2_with fail
    go_ret
    exact⟨by (rw[HF.out];first | done | rfl),by rw[← HBX.out];exact HB2.out⟩
   have HNB:Hid (nodeB x=true):=by show _=_;rw[HO.out,← HQB.out,← HQP.out];rfl
   obtain⟨b',o',hab,hcell⟩:=HX.out w2 (by rw[← HBX.out];exact hB2) k x HXX.out
   cases hab
   obtain⟨c0,c1,c2,c3,c4,c5⟩:=nd_cells hcell
   have HR2:=Lib.hid hR2
   have HB2:=Lib.hid hB2
   clear hcell hR2 hB2 HNO HO HQB HQP
   go_wp2_with fail
   refine (rKids_any x _).mono ?_
   rintro r w3 ⟨kv,rfl,hkr0,hb3⟩
   have hR3:=HR2.out.below hb3
   have hB3:Below bx w w3:=HB2.out.trans (hb3.mono (Nat.le_of_lt HR2.out.lt.2))
   have hkr:=hkr0.mono (b2:=bx+1) HR2.out.lt.2
   obtain⟨ka,kc,hkv,hkc⟩:=hkr.form
   subst hkv
   obtain⟨kn,hkn2⟩ : ∃ kn,kn=(kids x).length:=⟨_,rfl⟩
   have h3:=kids_len x
   rw[← hkn2] at hkr hkc h3 ⊢
   have HKN:=Lib.hid hkn2
   clear hkn2 hkr0 hb3 c0 c1 c2 c3 c4 c5 hltb
   go_wp2_with fail
   obtain⟨wo,rfl⟩ : ∃ wo:World,wo=wr:=⟨_,rfl⟩
   go_loopw [6] (fun i wr=>∃ t:Nat,i=.int .i64 t∧t≤kn∧RowL vI 3 bx wr bx n (cntL (allK (e.take k)++(kids x).take t) n)∧Below bx w wr∧RowI (bx+1) wr (.slice ka kn kc) (kids x) ∧
     (∀ t' y,t'<t→(kids x)[t']?=some y→0≤y∧y<(k:Int))) (fun i _=>kn - (intOf i).toNat)
   case atStart=>exact⟨0,rfl,Nat.zero_le _,by rw[List.take_zero,List.append_nil];exact hR3,hB3,hkr,fun t' y h=>by omega⟩
   case round =>
    obtain⟨t,rfl,ht,hR,hB,hkr,hok⟩:=hrel
    clear hR3 hB3
    by_cases hlt2:t<kn
    ·obtain⟨y,hy⟩ : ∃ y,(kids x)[t]?=some y:=⟨_,List.getElem?_eq_getElem (by have:=HKN.out;omega)⟩
     obtain⟨g,rfl,hg1,hg2,cy,-⟩:=hkr.at hy
     have HY:=Lib.hid hy
     have htk:(t:Int)<(kn:Int):=by omega
     have ht0:(0:Int)≤(t:Int):=by omega
     clear hy
     by_cases hyr:0≤y∧y<(k:Int)
     ·obtain⟨hy0,hyk⟩:=hyr
      obtain⟨j,rfl⟩ : ∃ j:Nat,y=(j:Int):=⟨y.toNat,by omega⟩
      have cu:=hR.cell (cntL_at (P:=allK (e.take k)++(kids x).take t) (show j<n by omega))
      have fu:=hR.free j
      have hjn:(j:Int)<(n:Int):=by omega
      obtain⟨m,hm⟩ : ∃ m,m=(allK (e.take k)++(kids x).take t).count (j:Int):=⟨_,rfl⟩
      have hm1:m≤20000:=by
       have h1:=List.count_le_length (a:=(j:Int)) (l:=allK (e.take k)++(kids x).take t)
       rw[List.length_append,List.length_take] at h1
       have h2:=allK_le (e.take k)
       rw[List.length_take] at h2
       omega
      have hR2:=hR.set j ((m:Int)+1)
      rw[hm,cntL_put,List.append_assoc,← take_at HY.out,← hm] at hR2
      rw[← hm] at cu
      have HR2:=Lib.hid hR2
      have hkr2:=hkr.other (p:=bx) (by omega) j (.int .i64 ((m:Int)+1))
      have HKR2:=Lib.hid hkr2
      have hm2:(m:Int)≤20000:=by omega
      have hm3:(0:Int)≤(m:Int):=by omega
      have HOK:Hid (∀ t' y,t'<t+1→(kids x)[t']?=some y→0≤y∧y<(k:Int)):=fun t' y h1 h2=>by
       by_cases q:t'=t
       ·subst q
        have:=HY.out;rw[h2] at this;cases this
        exact⟨hy0,hyk⟩
       ·exact hok t' y (by omega) h2
      have HB:=Lib.hid hB
      have hng:g≠bx:=by omega
      clear hm hR hR2 hkr hkr2 hok hm1 hB
      go_wp2_with fail
      go_roundw
      case rel=>exact⟨t+1,by go_num,by omega,HR2.out,below_set HB.out (Nat.le_refl _),HKR2.out,HOK.out⟩
      case measure=>simp[intOf];omega
     ·have HF:Hid (mayB e=false):=may_no fun h=>hyr ((h.node k x HXX.out).2.1 y (List.mem_of_getElem? HY.out))
      have hor:y<(0:Int)∨(¬ y<(0:Int)∧(k:Int)≤y):=by omega
      have HB:=Lib.hid hB
      clear hyr hR hkr hok hB
      rcases hor with h1 | ⟨h1,h2⟩
      all_goals
       go_wp2_with fail
       go_ret
       exact⟨by (rw[HF.out];first | done | rfl),by rw[← HBX.out];exact HB.out⟩
    ·have hte:t=kn:=by omega
     subst hte
     have hfull:(kids x).take t=kids x:=List.take_of_length_le (by have:=HKN.out;omega)
     rw[hfull,← allK_snoc,← take_snoc' HXX.out] at hR
     have hin:inR x k:=fun y hy=>by
      obtain⟨t',ht'⟩:=List.getElem?_of_mem hy
      exact hok t' y (by have:=(List.getElem?_eq_some_iff.1 ht').1;have:=HKN.out;omega) ht'
     have HIN:=Lib.hid hin
     have HR:=Lib.hid hR
     have HB:=Lib.hid hB
     clear hfull hin hok hkr hR hB
     go_wp2_with fail
     refine (HARGH.out k x HXX.out HIN.out wr (by rw[← HBX.out];exact HB.out)).mono ?_
     rintro r w4 ⟨rfl,hb4⟩
     obtain⟨qa,hqa⟩ : ∃ qa,qa=argsOk e x:=⟨_,rfl⟩
     have HQA:=Lib.hid hqa
     rw[← hqa]
     clear hqa
     have HR4:=Lib.hid (HR.out.below hb4)
     have HB4:Hid (Below bx w w4):=HB.out.trans (hb4.mono (Nat.le_of_lt HR.out.lt.2))
     clear hb4
     cases qa
     ·have HF:Hid (mayB e=false):=may_no fun h=>by have:=(h.node k x HXX.out).2.2;rw[← HQA.out] at this;cases this
      go_wp2_with fail
      go_ret
      exact⟨by (rw[HF.out];first | done | rfl),by rw[← HBX.out];exact HB4.out⟩
     ·have HMN:=Lib.hid (HM.out.next HXX.out HNB.out HIN.out HQA.out.symm)
      go_wp2_with fail
      go_roundw
      case rel=>exact⟨k+1,by go_num,by omega,HR4.out,HMN.out,HB4.out⟩
      case measure=>simp[intOf];omega
  ·have hke:k=n:=by omega
   subst hke
   have htk:e.take k=e:=List.take_of_length_le (by have:=HN.out;omega)
   rw[htk] at hR
   have HNP:Hid (NodeP e):=fun j x hx=>hM j x (by have:=(List.getElem?_eq_some_iff.1 hx).1;have:=HN.out;omega) hx
   have HR:=Lib.hid hR
   have HB:=Lib.hid hB
   have hk1:(1:Int)≤(k:Int):=by omega
   clear hM hR hB htk
   go_wp2_with fail
   go_loop [7] (fun i=>∃ t:Nat,i=.int .i64 t∧t+1≤k∧∀ j,j<t→(allK e).count (j:Int)=1) (fun i=>k - (intOf i).toNat)
   case atStart=>exact⟨0,rfl,by omega,fun j h=>by omega⟩
   case round =>
    obtain⟨t,rfl,ht,hok⟩:=hrel
    have ht0:(0:Int)≤(t:Int):=by omega
    have htn:(t:Int)<(k:Int):=by omega
    by_cases hlt:t+1<k
    ·have hltI:(t:Int)<(k:Int) - 1:=by omega
     have cu:=HR.out.cell (cntL_at (P:=allK e) (show t<k by omega))
     obtain⟨m,hm⟩ : ∃ m,m=(allK e).count (t:Int):=⟨_,rfl⟩
     have HMM:=Lib.hid hm
     have HOK:=Lib.hid hok
     rw[← hm] at cu
     clear hm hok
     by_cases hm1:m=1
     ·subst hm1
      have HALL:Hid (∀ j,j<t+1→(allK e).count (j:Int)=1):=fun j hj=>by
       by_cases q:j=t
       ·subst q;exact HMM.out.symm
       ·exact HOK.out j (by omega)
      go_wp2_with fail
      go_round
      case rel=>exact⟨t+1,by go_num,by omega,HALL.out⟩
      case measure=>simp[intOf];omega
     ·have HF:Hid (mayB e=false):=may_no fun h=>hm1 (by rw[HMM.out];exact h.used t (by have:=HN.out;omega))
      have hmm:((m:Int) != 1)=true:=by rw[bne_iff_ne];omega
      clear hm1
      go_wp2_with fail
      go_ret
      exact⟨by (rw[HF.out];first | done | rfl),by rw[← HBX.out];exact HB.out⟩
    ·have hltI:¬ (t:Int)<(k:Int) - 1:=by omega
     have hk1':(0:Int)≤(k:Int) - 1:=by omega
     have ht1:((k:Int) - 1).toNat=k - 1:=by omega
     obtain⟨b,o,hab,hcell⟩:=HX.out wr (by rw[← HBX.out];exact HB.out) (k - 1) z HZZ.out
     cases hab
     have cz:=hcell 0 _ rfl
     simp only[Nat.add_zero] at cz
     have HFIN:Hid (mayB e=((z.op != 28)&&decide (depL e≤40))):=by
      show _=_
      rw[Bool.eq_iff_iff,mayB_iff]
      simp only[Bool.and_eq_true,bne_iff_ne,decide_eq_true_eq]
      constructor
      ·intro h;exact⟨by have:=h.last;rw[HLAST.out] at this;exact this,h.deep⟩
      ·rintro ⟨h1,h2⟩
       exact⟨by have:=HN.out;omega,by have:=HN.out;omega,by rw[HLAST.out];exact h1,HNP.out,fun j hj=>hok j (by have:=HN.out;omega),h2⟩
     clear hok hcell hlt
     by_cases h28:z.op=28
     ·have e28:(z.op != 28)=false:=by simp[h28]
      have HF:Hid (mayB e=false):=by show _=_;rw[HFIN.out,e28];rfl
      clear h28
      go_wp2_with fail
      go_ret
      exact⟨by (rw[HF.out];first | done | rfl),by rw[← HBX.out];exact HB.out⟩
     ·have e28:(z.op != 28)=true:=by simp[h28]
      have HF:Hid (mayB e=decide (depL e≤40)):=by show _=_;rw[HFIN.out,e28];rfl
      clear h28
      go_wp2_with fail
      refine (HDEPH.out wr (by rw[← HBX.out];exact HB.out)).mono ?_
      rintro r w4 ⟨rfl,hb4⟩
      have HB4:Hid (Below bx w w4):=HB.out.trans (hb4.mono (Nat.le_of_lt HR.out.lt.2))
      obtain⟨dd,hdd⟩ : ∃ dd,dd=depL e:=⟨_,rfl⟩
      rw[← hdd] at HF ⊢
      clear hdd hb4
      go_wp2_with fail
      go_ret
      exact⟨by rw[HF.out];simp;omega,by rw[← HBX.out];exact HB4.out⟩
end Go.Proofs.YtmacepicoandkaaGreatDoor
