/- The value of an expression over atoms, as the reference finds it: the walk (printed by gen/refvalue.py). -/
import Derived.Test.YtmacepicoandkaaGreatDoorJ30
import Derived.Test.YtmacepicoandkaaGreatDoorJ31
set_option linter.unusedVariables false
set_option linter.unusedSimpArgs false
namespace Go.Proofs.YtmacepicoandkaaGreatDoor
open Go.RowKit Go.Shelf Tx
theorem valA_yes {e:List Nd} {l:List Bool} (h:Ux.mayA e l.length=true):Ux.valA e l=(Ux.valL l e,0):=by unfold Ux.valA;rw[if_pos h]
theorem valA_no {e:List Nd} {l:List Bool} (h:Ux.mayA e l.length=false):Ux.valA e l=(false,1):=by unfold Ux.valA;rw[if_neg (by rw[h];decide)]
theorem mayA_parts {e:List Nd} {m:Nat} (h:Ux.mayA e m=true):mayB e=true∧∀ (j:Nat) (x:Nd),e[j]?=some x→Ux.nodeA m x=true:=by
 unfold Ux.mayA at h
 rw[Bool.and_eq_true] at h
 exact⟨h.1,fun j x hj=>List.all_eq_true.1 h.2 x (List.mem_of_getElem? hj)⟩
theorem nodeA_ops {m:Nat} {x:Nd} (h:Ux.nodeA m x=true):(x.op=3∧∃ k,k<m∧Ux.numOf x.s m=some k)∨Ux.isLogic x.op=true:=by
 unfold Ux.nodeA at h
 simp only[Bool.or_eq_true,Bool.and_eq_true,beq_iff_eq,Option.isSome_iff_exists] at h
 rcases h with h | ⟨h1,k,h2⟩
 ·exact Or.inr h
 ·exact Or.inl ⟨h1,k,(Ux.numOf_some.1 h2).1,h2⟩
set_option maxRecDepth 100000 in
set_option maxHeartbeats 8000000 in
theorem rVal21_any (e:List Nd) (v:Value) (l:List Bool) (lv:Value) (w:World) (he:e.length≤1000000000) (hl:l.length≤1000000) (hv:IsE w v e) (hb:SlBools w lv l) :
  Calls Tryz.prog 37 #[v,lv] w fun r w'=>r=.returned (.tuple #[.bool (Ux.valA e l).1,.int .i64 (Ux.valA e l).2])∧Below w.heap.size w w':=by
 have hmay:=rMayA_any e v l.length w he hl hv
 obtain⟨a,c,rfl,hcl,hx⟩:=hv.form
 obtain⟨la,lc,rfl,-⟩:=hb.form
 have hlb:∀ W,Below w.heap.size w W→∀ i,i<l.length→∃ b o,la=some ⟨b,o,none⟩∧W.cell? ⟨b,o+i,none⟩=some (.bool (l.getD i false)):=fun W h i hi=>by
  obtain⟨la',lc',e',hx'⟩:=(hb.below h).form
  cases e';exact hx' i hi
 obtain⟨i0,hi,hz0,hz1,hz2⟩:=info_parts infoB
 obtain⟨n,hn⟩ : ∃ n,n=e.length:=⟨_,rfl⟩
 rw[← hn] at hcl he hmay ⊢
 have HN:=Lib.hid hn
 have HX:=Lib.hid hx
 have HLB:=Lib.hid hlb
 obtain⟨nb,hnb⟩ : ∃ nb,nb=w.heap.size:=⟨_,rfl⟩
 have HNB:=Lib.hid hnb
 obtain⟨m,hm⟩ : ∃ m,m=l.length:=⟨_,rfl⟩
 have HM:=Lib.hid hm
 rw[← hm] at hl hmay ⊢
 clear hn hx hv hnb hlb hm hb
 cases hmy:Ux.mayA e m with
 | false =>
  have HF:Hid (Ux.valA e l=(false,1)):=valA_no (by rw[← HM.out];exact hmy)
  rw[hmy] at hmay
  clear hmy
  go_enter Tryz.func37,Tryz.ntmps37
  go_wp2_with fail
  refine hmay.mono ?_
  rintro r w1 ⟨rfl,hb1⟩
  clear hmay
  go_wp2_with fail
  go_ret2
  exact⟨by rw[HF.out];rfl,hb1⟩
 | true =>
  obtain⟨hm1,hm2⟩:=mayA_parts hmy
  have HMY:=Lib.hid hm1
  have HND:=Lib.hid hm2
  have HF:Hid (Ux.valA e l=(Ux.valL l e,0)):=valA_yes (by rw[← HM.out];exact hmy)
  have HNE:Hid (1≤n):=by have:=((mayB_iff e).1 hm1).ne;show 1≤n;rw[HN.out];exact this
  rw[hmy] at hmay
  clear hmy hm1 hm2
  go_enter Tryz.func37,Tryz.ntmps37
  go_wp2_with fail
  refine hmay.mono ?_
  rintro r w1 ⟨rfl,hb1⟩
  clear hmay
  have HB1:Hid (Below nb w w1):=by show Below _ _ _;rw[HNB.out];exact hb1
  clear hb1
  go_wp2_with (at_make;refine wpList_make_full _ rfl _ _ 27 rfl w1.heap.size 4 i0 (.bool false) 1 Tryz.underlying27 hi hz0 hz1 _ _ _ _ n rfl rfl rfl rfl ?_ ?_ ?_ ?_;rotate_right;intro w2 hown2 hgrow2)
  case refine_1=>first | omega | (rw[hz2];omega)
  case refine_2=>first | exact Nat.le_refl _ | (unfold maxLen;omega)
  case refine_3=>first | exact Nat.le_refl _ | (unfold maxLen;omega)
  have hB2:Below w1.heap.size w1 w2:=(Below.refl _ _).grown hgrow2 (Nat.le_refl _) (by simp)
  have hR2:RowL vB 4 w1.heap.size w2 w1.heap.size n (List.replicate n false):=by
   unfold RowL
   have:=hown2
   simp only[Value.cells,Nat.mul_one,toList_madeCells_one] at this
   rw[replicate_one];exact this
  obtain⟨bx,hbx⟩ : ∃ bx,bx=w1.heap.size:=⟨_,rfl⟩
  have hbx1:nb≤bx:=by rw[hbx];have:=HB1.out.size;rw[HNB.out];exact this
  rw[← hbx] at hR2 ⊢
  have HBX:=Lib.hid hbx1
  have hB3:Below nb w w2:=by rw[HNB.out];exact below_next (by rw[← HNB.out];exact HB1.out) hB2
  have hup:Ux.mid (Ux.valN l) (fun _=>false) e 0=List.replicate n false:=by rw[Ux.mid_zero,HN.out,List.map_const']
  rw[← hup] at hR2
  clear hown2 hgrow2 hi hz0 hz1 hz2 hB2 hbx hbx1 hup HB1
  go_wp2_with fail
  go_loopw [7] (fun iv wr=>∃ t:Nat,iv=.int .i64 t∧t≤n∧RowL vB 4 bx wr bx n (Ux.mid (Ux.valN l) (fun _=>false) e t)∧Below nb w wr) (fun iv _=>n - (intOf iv).toNat)
  case atStart=>exact⟨0,rfl,Nat.zero_le _,hR2,hB3⟩
  case round =>
   obtain⟨t,rfl,ht,hR,hB⟩:=hrel
   have HB:=Lib.hid hB
   have HBW:Hid (Below w.heap.size w wr):=by show Below _ _ _;rw[← HNB.out];exact hB
   clear hR2 hB3 hB
   by_cases hlt:t<n
   ·obtain⟨x,hx⟩ : ∃ x,e[t]?=some x:=⟨_,List.getElem?_eq_getElem (by have:=HN.out;omega)⟩
    obtain⟨b,o,rfl,hcell⟩:=HX.out wr HBW.out t x hx
    obtain⟨c0,c1,c2,c3,c4,c5⟩:=nd_cells hcell
    have HXX:=Lib.hid hx
    have htn:(t:Int)<(n:Int):=by omega
    have ht0:(0:Int)≤(t:Int):=by omega
    have hnode:=HND.out t x hx
    clear hx hcell
    have nbw:=(Below.refl wr.heap.size wr).alloc (Nat.le_refl _) (.cells (ndA x) 85)
    have kb:=Blk.new wr (ndA x) 85
    have hlb:=hR.lt.2
    obtain⟨vs,hvs⟩ : ∃ vs,vs=Ux.pre (Ux.valN l) (e.take t):=⟨_,rfl⟩
    have HUP:Hid (Ux.mid (Ux.valN l) (fun _=>false) e (t+1)=(Ux.mid (Ux.valN l) (fun _=>false) e t).set t (Ux.valN l vs x)):=by show _=_;rw[hvs];exact Ux.mid_next HXX.out
    have HAT3:Hid (∀ j,j<t→(Ux.mid (Ux.valN l) (fun _=>false) e t)[j]?=some (vs.getD j false)):=fun j hj=>by rw[hvs];exact Ux.mid_at hj (by have:=HN.out;omega) false
    have HSELF:Hid ((Ux.mid (Ux.valN l) (fun _=>false) e t)[t]?=some false):=Ux.mid_self HXX.out
    have hkd:=Ux.kids_ahead HMY.out HXX.out
    have hRL:=hR.len
    have HR:=Lib.hid hR
    have hR1:RowL vB 4 bx (wr.alloc (.cells #[.int .i64 x.op,.int .i64 x.a,.int .i64 x.b,.int .i64 x.c,.int .i64 x.n,.string x.s] 85)) bx n (Ux.mid (Ux.valN l) (fun _=>false) e t):=hR.below nbw
    have HR1:=Lib.hid hR1
    have HB1:Hid (Below w.heap.size w (wr.alloc (.cells #[.int .i64 x.op,.int .i64 x.a,.int .i64 x.b,.int .i64 x.c,.int .i64 x.n,.string x.s] 85))):=below_next HBW.out nbw
    have HSET:Hid (∀ (W:World) (y:Bool),Ux.valN l vs x=y→RowL vB 4 bx W bx n (Ux.mid (Ux.valN l) (fun _=>false) e t)→RowL vB 4 bx (W.setCell ⟨bx,t,none⟩ (.bool y)) bx n (Ux.mid (Ux.valN l) (fun _=>false) e (t+1))):=fun W y hy h=>by rw[HUP.out,hy];exact h.set t y
    have HBS:Hid (∀ (W:World) (y:Bool),Below w.heap.size w W→Below nb w (W.setCell ⟨bx,t,none⟩ (.bool y))):=fun W y h=>by rw[HNB.out];exact below_set h (by rw[← HNB.out];exact HBX.out)
    clear hvs hR hR1
    rcases nodeA_ops hnode with ⟨h3,k,hk,hnum⟩ | hlog
    ·as_aux_lemma =>
     have e3:(x.op==3)=true:=by rw[h3];rfl
     have e2:(x.op==2)=false:=by rw[h3];rfl
     have e4:(x.op==4)=false:=by rw[h3];rfl
     have e6:(x.op==6)=false:=by rw[h3];rfl
     have e7:(x.op==7)=false:=by rw[h3];rfl
     have e8:(x.op==8)=false:=by rw[h3];rfl
     have e9:(x.op==9)=false:=by rw[h3];rfl
     have HOP:Hid (x.op=3):=h3
     have HNU:Hid (numI x.s m=(k:Int)):=by show _=_;unfold numI;rw[hnum]
     have hcall:∀ W,Calls Tryz.prog 67 #[.string x.s,.int .i64 m] W fun r w'=>r=.returned (.int .i64 (k:Int))∧Below W.heap.size W w':=fun W=>by have:=Number_any x.s m hl W;rw[HNU.out] at this;exact this
     obtain⟨ab,ao,rfl,-⟩:=HLB.out wr HBW.out k (by rw[← HM.out];exact hk)
     have HV:Hid (Ux.valN l vs x=l.getD k false):=by
      show _=_
      unfold Ux.valN;rw[HOP.out,if_pos rfl,← HM.out,hnum];rfl
     have kI:(k:Int)<(m:Int):=by omega
     have kI0:(0:Int)≤(k:Int):=by omega
     clear h3 hkd hnode hnum
     go_wp2_with fail
     obtain⟨W1,hW1⟩ : ∃ W1,W1=wr.alloc (.cells #[.int .i64 x.op,.int .i64 x.a,.int .i64 x.b,.int .i64 x.c,.int .i64 x.n,.string x.s] 85):=⟨_,rfl⟩
     have hB1:Below w.heap.size w W1:=by rw[hW1];exact HB1.out
     have hR1:RowL vB 4 bx W1 bx n (Ux.mid (Ux.valN l) (fun _=>false) e t):=by rw[hW1];exact HR1.out
     obtain⟨nbk,hnbk⟩ : ∃ q,q=wr.heap.size:=⟨_,rfl⟩
     have kb1:Blk W1 nbk #[.int .i64 x.op,.int .i64 x.a,.int .i64 x.b,.int .i64 x.c,.int .i64 x.n,.string x.s] 85:=by rw[hW1,hnbk];exact kb
     have hnx:nbk≠bx:=by omega
     rw[← hW1,← hnbk]
     clear hW1 hnbk kb nbw c0 c1 c2 c3 c4 c5 HB1 HR1 HR
     obtain⟨c0,c1,c2,c3,c4,c5⟩:=six_cells kb1
     have HB1:=Lib.hid hB1
     have HR1:=Lib.hid hR1
     have cs:=HR1.out.cell HSELF.out
     have fs:=HR1.out.free t
     clear hB1 hR1 kb1 hlb
     refine (hcall _).mono ?_
     rintro r w3 ⟨rfl,hb3⟩
     have HR3:=Lib.hid (HR1.out.below hb3)
     have HB3:=Lib.hid (below_next HB1.out hb3)
     clear HR1 HB1 c0 c1 c2 c3 c4 c5 cs fs hcall hb3
     have HR1:=HR3
     have HB1:=HB3
     clear HR3 HB3
     have cs:=HR1.out.cell HSELF.out
     have fs:=HR1.out.free t
     have hat:w3.cell? ⟨ab,ao+k,none⟩=some (.bool (l.getD k false)):=by
      obtain⟨ab',ao',e',h'⟩:=HLB.out w3 HB1.out k (by rw[← HM.out];exact hk)
      cases e';exact h'
     obtain⟨Y,hY⟩ : ∃ Y,Y=l.getD k false:=⟨_,rfl⟩
     rw[← hY] at HV hat
     clear hY
     have HRS:Hid (RowL vB 4 bx (w3.setCell ⟨bx,t,none⟩ (.bool Y)) bx n (Ux.mid (Ux.valN l) (fun _=>false) e (t+1))):=HSET.out _ _ HV.out HR1.out
     have HBS2:Hid (Below nb w (w3.setCell ⟨bx,t,none⟩ (.bool Y))):=HBS.out _ _ HB1.out
     clear HR1 HB1
     go_wp2_with fail
     go_roundw
     case rel=>exact⟨t+1,by go_num,by omega,HRS.out,HBS2.out⟩
     case measure=>simp[intOf];omega
    ·have hlog2:=hlog
     rcases Ux.kids_logic hlog2 with ⟨hop,hkk⟩ | ⟨hop,hkk⟩ | ⟨hop,hkk⟩ | ⟨hop,hkk⟩
     ·as_aux_lemma =>
      clear hlog hlog2 hnode
      have h3:x.op=2:=hop
      have e3:(x.op==3)=false:=by rw[h3];rfl
      have e2:(x.op==2)=true:=by rw[h3];rfl
      have e4:(x.op==4)=false:=by rw[h3];rfl
      have e6:(x.op==6)=false:=by rw[h3];rfl
      have e7:(x.op==7)=false:=by rw[h3];rfl
      have e8:(x.op==8)=false:=by rw[h3];rfl
      have e9:(x.op==9)=false:=by rw[h3];rfl
      have HOP:Hid (x.op=2):=h3
      clear h3 hop
      have nbs:=fun (y:Bool)=>(Below.refl (wr.setCell ⟨bx,t,none⟩ (.bool y)).heap.size (wr.setCell ⟨bx,t,none⟩ (.bool y))).alloc (Nat.le_refl _) (.cells (ndA x) 85)
      have HRA:Hid (∀ y:Bool,Ux.valN l vs x=y→RowL vB 4 bx ((wr.setCell ⟨bx,t,none⟩ (.bool y)).alloc (.cells #[.int .i64 x.op,.int .i64 x.a,.int .i64 x.b,.int .i64 x.c,.int .i64 x.n,.string x.s] 85)) bx n (Ux.mid (Ux.valN l) (fun _=>false) e (t+1))):=fun y hy=>(HSET.out wr y hy HR.out).below (nbs y)
      have HBA:Hid (∀ y:Bool,Below nb w ((wr.setCell ⟨bx,t,none⟩ (.bool y)).alloc (.cells #[.int .i64 x.op,.int .i64 x.a,.int .i64 x.b,.int .i64 x.c,.int .i64 x.n,.string x.s] 85))):=fun y=>by
       have h1:=HBS.out wr y HBW.out
       rw[HNB.out] at h1 ⊢
       exact below_next h1 (nbs y)
      clear nbs
      clear hkd
      have HV:Hid (Ux.valN l vs x=(x.n==1)):=by
       show _=_
       unfold Ux.valN;rw[HOP.out];rfl
      have cs:=HR1.out.cell HSELF.out
      have fs:=HR1.out.free t
      clear HR1 HB1
      go_wp2_with fail
      go_roundw
      case rel=>exact⟨t+1,by go_num,by omega,HRA.out _ HV.out,HBA.out _⟩
      case measure=>simp[intOf];omega
     ·as_aux_lemma =>
      clear hlog hlog2 hnode
      have h3:x.op=4:=hop
      have e3:(x.op==3)=false:=by rw[h3];rfl
      have e2:(x.op==2)=false:=by rw[h3];rfl
      have e4:(x.op==4)=true:=by rw[h3];rfl
      have e6:(x.op==6)=false:=by rw[h3];rfl
      have e7:(x.op==7)=false:=by rw[h3];rfl
      have e8:(x.op==8)=false:=by rw[h3];rfl
      have e9:(x.op==9)=false:=by rw[h3];rfl
      have HOP:Hid (x.op=4):=h3
      clear h3 hop
      have nbs:=fun (y:Bool)=>(Below.refl (wr.setCell ⟨bx,t,none⟩ (.bool y)).heap.size (wr.setCell ⟨bx,t,none⟩ (.bool y))).alloc (Nat.le_refl _) (.cells (ndA x) 85)
      have HRA:Hid (∀ y:Bool,Ux.valN l vs x=y→RowL vB 4 bx ((wr.setCell ⟨bx,t,none⟩ (.bool y)).alloc (.cells #[.int .i64 x.op,.int .i64 x.a,.int .i64 x.b,.int .i64 x.c,.int .i64 x.n,.string x.s] 85)) bx n (Ux.mid (Ux.valN l) (fun _=>false) e (t+1))):=fun y hy=>(HSET.out wr y hy HR.out).below (nbs y)
      have HBA:Hid (∀ y:Bool,Below nb w ((wr.setCell ⟨bx,t,none⟩ (.bool y)).alloc (.cells #[.int .i64 x.op,.int .i64 x.a,.int .i64 x.b,.int .i64 x.c,.int .i64 x.n,.string x.s] 85))):=fun y=>by
       have h1:=HBS.out wr y HBW.out
       rw[HNB.out] at h1 ⊢
       exact below_next h1 (nbs y)
      clear nbs
      obtain⟨ja,hja,hla⟩:=hkd x.a (by rw[hkk];simp)
      have la':x.a.toNat<t:=by omega
      obtain⟨ya,hya⟩ : ∃ y,y=vs.getD x.a.toNat false:=⟨_,rfl⟩
      have va:=HR1.out.cell (HAT3.out x.a.toNat la')
      rw[← hya] at va
      have pa:(0:Int)≤x.a:=by omega
      have qa:x.a<(n:Int):=by omega
      have HOa:Hid (vs.getD x.a.toNat false=ya):=hya.symm
      clear hya hja hla la' ja
      clear hkd
      have cs:=HR1.out.cell HSELF.out
      have fs:=HR1.out.free t
      clear HR1 HB1
      have HV:Hid (Ux.valN l vs x = !ya):=by
       show _=_
       unfold Ux.valN;rw[HOP.out,HOa.out];rfl
      go_wp2_with fail
      go_roundw
      case rel=>exact⟨t+1,by go_num,by omega,HRA.out _ HV.out,HBA.out _⟩
      case measure=>simp[intOf];omega
     ·rcases hop with hop | hop | hop | hop
      ·as_aux_lemma =>
       clear hlog hlog2 hnode
       have h3:x.op=6:=hop
       have e3:(x.op==3)=false:=by rw[h3];rfl
       have e2:(x.op==2)=false:=by rw[h3];rfl
       have e4:(x.op==4)=false:=by rw[h3];rfl
       have e6:(x.op==6)=true:=by rw[h3];rfl
       have e7:(x.op==7)=false:=by rw[h3];rfl
       have e8:(x.op==8)=false:=by rw[h3];rfl
       have e9:(x.op==9)=false:=by rw[h3];rfl
       have HOP:Hid (x.op=6):=h3
       clear h3 hop
       have nbs:=fun (y:Bool)=>(Below.refl (wr.setCell ⟨bx,t,none⟩ (.bool y)).heap.size (wr.setCell ⟨bx,t,none⟩ (.bool y))).alloc (Nat.le_refl _) (.cells (ndA x) 85)
       have HRA:Hid (∀ y:Bool,Ux.valN l vs x=y→RowL vB 4 bx ((wr.setCell ⟨bx,t,none⟩ (.bool y)).alloc (.cells #[.int .i64 x.op,.int .i64 x.a,.int .i64 x.b,.int .i64 x.c,.int .i64 x.n,.string x.s] 85)) bx n (Ux.mid (Ux.valN l) (fun _=>false) e (t+1))):=fun y hy=>(HSET.out wr y hy HR.out).below (nbs y)
       have HBA:Hid (∀ y:Bool,Below nb w ((wr.setCell ⟨bx,t,none⟩ (.bool y)).alloc (.cells #[.int .i64 x.op,.int .i64 x.a,.int .i64 x.b,.int .i64 x.c,.int .i64 x.n,.string x.s] 85))):=fun y=>by
        have h1:=HBS.out wr y HBW.out
        rw[HNB.out] at h1 ⊢
        exact below_next h1 (nbs y)
       clear nbs
       obtain⟨ja,hja,hla⟩:=hkd x.a (by rw[hkk];simp)
       have la':x.a.toNat<t:=by omega
       obtain⟨ya,hya⟩ : ∃ y,y=vs.getD x.a.toNat false:=⟨_,rfl⟩
       have va:=HR1.out.cell (HAT3.out x.a.toNat la')
       rw[← hya] at va
       have pa:(0:Int)≤x.a:=by omega
       have qa:x.a<(n:Int):=by omega
       have HOa:Hid (vs.getD x.a.toNat false=ya):=hya.symm
       clear hya hja hla la' ja
       obtain⟨jb,hjb,hlb⟩:=hkd x.b (by rw[hkk];simp)
       have lb':x.b.toNat<t:=by omega
       obtain⟨yb,hyb⟩ : ∃ y,y=vs.getD x.b.toNat false:=⟨_,rfl⟩
       have vb:=HR1.out.cell (HAT3.out x.b.toNat lb')
       rw[← hyb] at vb
       have pb:(0:Int)≤x.b:=by omega
       have qb:x.b<(n:Int):=by omega
       have HOb:Hid (vs.getD x.b.toNat false=yb):=hyb.symm
       clear hyb hjb hlb lb' jb
       clear hkd
       have cs:=HR1.out.cell HSELF.out
       have fs:=HR1.out.free t
       clear HR1 HB1
       cases ya
       ·have HV:Hid (Ux.valN l vs x=false):=by
         show _=_
         unfold Ux.valN;rw[HOP.out,HOa.out,HOb.out];cases yb <;> rfl
        go_wp2_with fail
        go_roundw
        case rel=>exact⟨t+1,by go_num,by omega,HRA.out _ HV.out,HBA.out _⟩
        case measure=>simp[intOf];omega
       ·have HV:Hid (Ux.valN l vs x=yb):=by
         show _=_
         unfold Ux.valN;rw[HOP.out,HOa.out,HOb.out];cases yb <;> rfl
        go_wp2_with fail
        go_roundw
        case rel=>exact⟨t+1,by go_num,by omega,HRA.out _ HV.out,HBA.out _⟩
        case measure=>simp[intOf];omega
      ·as_aux_lemma =>
       clear hlog hlog2 hnode
       have h3:x.op=7:=hop
       have e3:(x.op==3)=false:=by rw[h3];rfl
       have e2:(x.op==2)=false:=by rw[h3];rfl
       have e4:(x.op==4)=false:=by rw[h3];rfl
       have e6:(x.op==6)=false:=by rw[h3];rfl
       have e7:(x.op==7)=true:=by rw[h3];rfl
       have e8:(x.op==8)=false:=by rw[h3];rfl
       have e9:(x.op==9)=false:=by rw[h3];rfl
       have HOP:Hid (x.op=7):=h3
       clear h3 hop
       have nbs:=fun (y:Bool)=>(Below.refl (wr.setCell ⟨bx,t,none⟩ (.bool y)).heap.size (wr.setCell ⟨bx,t,none⟩ (.bool y))).alloc (Nat.le_refl _) (.cells (ndA x) 85)
       have HRA:Hid (∀ y:Bool,Ux.valN l vs x=y→RowL vB 4 bx ((wr.setCell ⟨bx,t,none⟩ (.bool y)).alloc (.cells #[.int .i64 x.op,.int .i64 x.a,.int .i64 x.b,.int .i64 x.c,.int .i64 x.n,.string x.s] 85)) bx n (Ux.mid (Ux.valN l) (fun _=>false) e (t+1))):=fun y hy=>(HSET.out wr y hy HR.out).below (nbs y)
       have HBA:Hid (∀ y:Bool,Below nb w ((wr.setCell ⟨bx,t,none⟩ (.bool y)).alloc (.cells #[.int .i64 x.op,.int .i64 x.a,.int .i64 x.b,.int .i64 x.c,.int .i64 x.n,.string x.s] 85))):=fun y=>by
        have h1:=HBS.out wr y HBW.out
        rw[HNB.out] at h1 ⊢
        exact below_next h1 (nbs y)
       clear nbs
       obtain⟨ja,hja,hla⟩:=hkd x.a (by rw[hkk];simp)
       have la':x.a.toNat<t:=by omega
       obtain⟨ya,hya⟩ : ∃ y,y=vs.getD x.a.toNat false:=⟨_,rfl⟩
       have va:=HR1.out.cell (HAT3.out x.a.toNat la')
       rw[← hya] at va
       have pa:(0:Int)≤x.a:=by omega
       have qa:x.a<(n:Int):=by omega
       have HOa:Hid (vs.getD x.a.toNat false=ya):=hya.symm
       clear hya hja hla la' ja
       obtain⟨jb,hjb,hlb⟩:=hkd x.b (by rw[hkk];simp)
       have lb':x.b.toNat<t:=by omega
       obtain⟨yb,hyb⟩ : ∃ y,y=vs.getD x.b.toNat false:=⟨_,rfl⟩
       have vb:=HR1.out.cell (HAT3.out x.b.toNat lb')
       rw[← hyb] at vb
       have pb:(0:Int)≤x.b:=by omega
       have qb:x.b<(n:Int):=by omega
       have HOb:Hid (vs.getD x.b.toNat false=yb):=hyb.symm
       clear hyb hjb hlb lb' jb
       clear hkd
       have cs:=HR1.out.cell HSELF.out
       have fs:=HR1.out.free t
       clear HR1 HB1
       cases ya
       ·have HV:Hid (Ux.valN l vs x=yb):=by
         show _=_
         unfold Ux.valN;rw[HOP.out,HOa.out,HOb.out];cases yb <;> rfl
        go_wp2_with fail
        go_roundw
        case rel=>exact⟨t+1,by go_num,by omega,HRA.out _ HV.out,HBA.out _⟩
        case measure=>simp[intOf];omega
       ·have HV:Hid (Ux.valN l vs x=true):=by
         show _=_
         unfold Ux.valN;rw[HOP.out,HOa.out,HOb.out];cases yb <;> rfl
        go_wp2_with fail
        go_roundw
        case rel=>exact⟨t+1,by go_num,by omega,HRA.out _ HV.out,HBA.out _⟩
        case measure=>simp[intOf];omega
      ·as_aux_lemma =>
       clear hlog hlog2 hnode
       have h3:x.op=8:=hop
       have e3:(x.op==3)=false:=by rw[h3];rfl
       have e2:(x.op==2)=false:=by rw[h3];rfl
       have e4:(x.op==4)=false:=by rw[h3];rfl
       have e6:(x.op==6)=false:=by rw[h3];rfl
       have e7:(x.op==7)=false:=by rw[h3];rfl
       have e8:(x.op==8)=true:=by rw[h3];rfl
       have e9:(x.op==9)=false:=by rw[h3];rfl
       have HOP:Hid (x.op=8):=h3
       clear h3 hop
       go_wp2_with fail
       obtain⟨W1,hW1⟩ : ∃ W1,W1=wr.alloc (.cells #[.int .i64 x.op,.int .i64 x.a,.int .i64 x.b,.int .i64 x.c,.int .i64 x.n,.string x.s] 85):=⟨_,rfl⟩
       have hB1:Below w.heap.size w W1:=by rw[hW1];exact HB1.out
       have hR1:RowL vB 4 bx W1 bx n (Ux.mid (Ux.valN l) (fun _=>false) e t):=by rw[hW1];exact HR1.out
       obtain⟨nbk,hnbk⟩ : ∃ q,q=wr.heap.size:=⟨_,rfl⟩
       have kb1:Blk W1 nbk #[.int .i64 x.op,.int .i64 x.a,.int .i64 x.b,.int .i64 x.c,.int .i64 x.n,.string x.s] 85:=by rw[hW1,hnbk];exact kb
       have hnx:nbk≠bx:=by omega
       rw[← hW1,← hnbk]
       clear hW1 hnbk kb nbw c0 c1 c2 c3 c4 c5 HB1 HR1 HR
       obtain⟨c0,c1,c2,c3,c4,c5⟩:=six_cells kb1
       have HB1:=Lib.hid hB1
       have HR1:=Lib.hid hR1
       have cs:=HR1.out.cell HSELF.out
       have fs:=HR1.out.free t
       clear hB1 hR1 kb1 hlb
       obtain⟨ja,hja,hla⟩:=hkd x.a (by rw[hkk];simp)
       have la':x.a.toNat<t:=by omega
       obtain⟨ya,hya⟩ : ∃ y,y=vs.getD x.a.toNat false:=⟨_,rfl⟩
       have va:=HR1.out.cell (HAT3.out x.a.toNat la')
       rw[← hya] at va
       have pa:(0:Int)≤x.a:=by omega
       have qa:x.a<(n:Int):=by omega
       have HOa:Hid (vs.getD x.a.toNat false=ya):=hya.symm
       clear hya hja hla la' ja
       obtain⟨jb,hjb,hlb⟩:=hkd x.b (by rw[hkk];simp)
       have lb':x.b.toNat<t:=by omega
       obtain⟨yb,hyb⟩ : ∃ y,y=vs.getD x.b.toNat false:=⟨_,rfl⟩
       have vb:=HR1.out.cell (HAT3.out x.b.toNat lb')
       rw[← hyb] at vb
       have pb:(0:Int)≤x.b:=by omega
       have qb:x.b<(n:Int):=by omega
       have HOb:Hid (vs.getD x.b.toNat false=yb):=hyb.symm
       clear hyb hjb hlb lb' jb
       clear hkd
       have HV:Hid (Ux.valN l vs x=(ya != yb)):=by
        show _=_
        unfold Ux.valN;rw[HOP.out,HOa.out,HOb.out];rfl
       have HRS:Hid (∀ q,RowL vB 4 bx ((W1.setCell ⟨bx,t,none⟩ (.bool (ya != yb))).drewN q) bx n (Ux.mid (Ux.valN l) (fun _=>false) e (t+1))):=fun q=>(HSET.out _ _ HV.out HR1.out).drawn q
       have HBS2:Hid (∀ q,Below nb w ((W1.setCell ⟨bx,t,none⟩ (.bool (ya != yb))).drewN q)):=fun q=>below_drawn (HBS.out _ _ HB1.out) q
       go_still_tail 14,(by kernel_rfl)
       all_goals go_wp2_with fail
       go_roundw
       case rel=>exact⟨t+1,by go_num,by omega,HRS.out _,HBS2.out _⟩
       case measure=>simp[intOf];omega
      ·as_aux_lemma =>
       clear hlog hlog2 hnode
       have h3:x.op=9:=hop
       have e3:(x.op==3)=false:=by rw[h3];rfl
       have e2:(x.op==2)=false:=by rw[h3];rfl
       have e4:(x.op==4)=false:=by rw[h3];rfl
       have e6:(x.op==6)=false:=by rw[h3];rfl
       have e7:(x.op==7)=false:=by rw[h3];rfl
       have e8:(x.op==8)=false:=by rw[h3];rfl
       have e9:(x.op==9)=true:=by rw[h3];rfl
       have HOP:Hid (x.op=9):=h3
       clear h3 hop
       have nbs:=fun (y:Bool)=>(Below.refl (wr.setCell ⟨bx,t,none⟩ (.bool y)).heap.size (wr.setCell ⟨bx,t,none⟩ (.bool y))).alloc (Nat.le_refl _) (.cells (ndA x) 85)
       have HRA:Hid (∀ y:Bool,Ux.valN l vs x=y→RowL vB 4 bx ((wr.setCell ⟨bx,t,none⟩ (.bool y)).alloc (.cells #[.int .i64 x.op,.int .i64 x.a,.int .i64 x.b,.int .i64 x.c,.int .i64 x.n,.string x.s] 85)) bx n (Ux.mid (Ux.valN l) (fun _=>false) e (t+1))):=fun y hy=>(HSET.out wr y hy HR.out).below (nbs y)
       have HBA:Hid (∀ y:Bool,Below nb w ((wr.setCell ⟨bx,t,none⟩ (.bool y)).alloc (.cells #[.int .i64 x.op,.int .i64 x.a,.int .i64 x.b,.int .i64 x.c,.int .i64 x.n,.string x.s] 85))):=fun y=>by
        have h1:=HBS.out wr y HBW.out
        rw[HNB.out] at h1 ⊢
        exact below_next h1 (nbs y)
       clear nbs
       obtain⟨ja,hja,hla⟩:=hkd x.a (by rw[hkk];simp)
       have la':x.a.toNat<t:=by omega
       obtain⟨ya,hya⟩ : ∃ y,y=vs.getD x.a.toNat false:=⟨_,rfl⟩
       have va:=HR1.out.cell (HAT3.out x.a.toNat la')
       rw[← hya] at va
       have pa:(0:Int)≤x.a:=by omega
       have qa:x.a<(n:Int):=by omega
       have HOa:Hid (vs.getD x.a.toNat false=ya):=hya.symm
       clear hya hja hla la' ja
       obtain⟨jb,hjb,hlb⟩:=hkd x.b (by rw[hkk];simp)
       have lb':x.b.toNat<t:=by omega
       obtain⟨yb,hyb⟩ : ∃ y,y=vs.getD x.b.toNat false:=⟨_,rfl⟩
       have vb:=HR1.out.cell (HAT3.out x.b.toNat lb')
       rw[← hyb] at vb
       have pb:(0:Int)≤x.b:=by omega
       have qb:x.b<(n:Int):=by omega
       have HOb:Hid (vs.getD x.b.toNat false=yb):=hyb.symm
       clear hyb hjb hlb lb' jb
       clear hkd
       have cs:=HR1.out.cell HSELF.out
       have fs:=HR1.out.free t
       clear HR1 HB1
       cases ya
       ·have HV:Hid (Ux.valN l vs x=true):=by
         show _=_
         unfold Ux.valN;rw[HOP.out,HOa.out,HOb.out];cases yb <;> rfl
        go_wp2_with fail
        go_roundw
        case rel=>exact⟨t+1,by go_num,by omega,HRA.out _ HV.out,HBA.out _⟩
        case measure=>simp[intOf];omega
       ·have HV:Hid (Ux.valN l vs x=yb):=by
         show _=_
         unfold Ux.valN;rw[HOP.out,HOa.out,HOb.out];cases yb <;> rfl
        go_wp2_with fail
        go_roundw
        case rel=>exact⟨t+1,by go_num,by omega,HRA.out _ HV.out,HBA.out _⟩
        case measure=>simp[intOf];omega
     ·as_aux_lemma =>
      clear hlog hlog2 hnode
      have h3:x.op=26:=hop
      have e3:(x.op==3)=false:=by rw[h3];rfl
      have e2:(x.op==2)=false:=by rw[h3];rfl
      have e4:(x.op==4)=false:=by rw[h3];rfl
      have e6:(x.op==6)=false:=by rw[h3];rfl
      have e7:(x.op==7)=false:=by rw[h3];rfl
      have e8:(x.op==8)=false:=by rw[h3];rfl
      have e9:(x.op==9)=false:=by rw[h3];rfl
      have HOP:Hid (x.op=26):=h3
      clear h3 hop
      have nbs:=fun (y:Bool)=>(Below.refl (wr.setCell ⟨bx,t,none⟩ (.bool y)).heap.size (wr.setCell ⟨bx,t,none⟩ (.bool y))).alloc (Nat.le_refl _) (.cells (ndA x) 85)
      have HRA:Hid (∀ y:Bool,Ux.valN l vs x=y→RowL vB 4 bx ((wr.setCell ⟨bx,t,none⟩ (.bool y)).alloc (.cells #[.int .i64 x.op,.int .i64 x.a,.int .i64 x.b,.int .i64 x.c,.int .i64 x.n,.string x.s] 85)) bx n (Ux.mid (Ux.valN l) (fun _=>false) e (t+1))):=fun y hy=>(HSET.out wr y hy HR.out).below (nbs y)
      have HBA:Hid (∀ y:Bool,Below nb w ((wr.setCell ⟨bx,t,none⟩ (.bool y)).alloc (.cells #[.int .i64 x.op,.int .i64 x.a,.int .i64 x.b,.int .i64 x.c,.int .i64 x.n,.string x.s] 85))):=fun y=>by
       have h1:=HBS.out wr y HBW.out
       rw[HNB.out] at h1 ⊢
       exact below_next h1 (nbs y)
      clear nbs
      obtain⟨ja,hja,hla⟩:=hkd x.a (by rw[hkk];simp)
      have la':x.a.toNat<t:=by omega
      obtain⟨ya,hya⟩ : ∃ y,y=vs.getD x.a.toNat false:=⟨_,rfl⟩
      have va:=HR1.out.cell (HAT3.out x.a.toNat la')
      rw[← hya] at va
      have pa:(0:Int)≤x.a:=by omega
      have qa:x.a<(n:Int):=by omega
      have HOa:Hid (vs.getD x.a.toNat false=ya):=hya.symm
      clear hya hja hla la' ja
      obtain⟨jb,hjb,hlb⟩:=hkd x.b (by rw[hkk];simp)
      have lb':x.b.toNat<t:=by omega
      obtain⟨yb,hyb⟩ : ∃ y,y=vs.getD x.b.toNat false:=⟨_,rfl⟩
      have vb:=HR1.out.cell (HAT3.out x.b.toNat lb')
      rw[← hyb] at vb
      have pb:(0:Int)≤x.b:=by omega
      have qb:x.b<(n:Int):=by omega
      have HOb:Hid (vs.getD x.b.toNat false=yb):=hyb.symm
      clear hyb hjb hlb lb' jb
      obtain⟨jc,hjc,hlc⟩:=hkd x.c (by rw[hkk];simp)
      have lc':x.c.toNat<t:=by omega
      obtain⟨yc,hyc⟩ : ∃ y,y=vs.getD x.c.toNat false:=⟨_,rfl⟩
      have vc:=HR1.out.cell (HAT3.out x.c.toNat lc')
      rw[← hyc] at vc
      have pc:(0:Int)≤x.c:=by omega
      have qc:x.c<(n:Int):=by omega
      have HOc:Hid (vs.getD x.c.toNat false=yc):=hyc.symm
      clear hyc hjc hlc lc' jc
      clear hkd
      have cs:=HR1.out.cell HSELF.out
      have fs:=HR1.out.free t
      clear HR1 HB1
      cases ya
      ·have HV:Hid (Ux.valN l vs x=yc):=by
        show _=_
        unfold Ux.valN;rw[HOP.out,HOa.out,HOb.out,HOc.out];cases yb <;> cases yc <;> rfl
       go_wp2_with fail
       go_roundw
       case rel=>exact⟨t+1,by go_num,by omega,HRA.out _ HV.out,HBA.out _⟩
       case measure=>simp[intOf];omega
      ·cases yb
       ·have HV:Hid (Ux.valN l vs x=false):=by
         show _=_
         unfold Ux.valN;rw[HOP.out,HOa.out,HOb.out,HOc.out];cases yc <;> rfl
        go_wp2_with fail
        go_roundw
        case rel=>exact⟨t+1,by go_num,by omega,HRA.out _ HV.out,HBA.out _⟩
        case measure=>simp[intOf];omega
       ·have HV:Hid (Ux.valN l vs x=true):=by
         show _=_
         unfold Ux.valN;rw[HOP.out,HOa.out,HOb.out,HOc.out];cases yc <;> rfl
        go_wp2_with fail
        go_roundw
        case rel=>exact⟨t+1,by go_num,by omega,HRA.out _ HV.out,HBA.out _⟩
        case measure=>simp[intOf];omega
   ·have hte:t=n:=by omega
    subst hte
    have hmf:Ux.mid (Ux.valN l) (fun _=>false) e t=Ux.pre (Ux.valN l) e:=by rw[HN.out];exact Ux.mid_full
    rw[hmf] at hR
    have hne:=HNE.out
    have cl:=hR.cell (Ux.valL_at HN.out hne)
    have hlen:=hR.len
    have HBW2:=HBW
    have h1:(1:Int)≤(t:Int):=by omega
    clear hR hmf
    go_wp2_with fail
    go_ret2
    exact⟨by rw[HF.out];rfl,HBW2.out⟩
end Go.Proofs.YtmacepicoandkaaGreatDoor
