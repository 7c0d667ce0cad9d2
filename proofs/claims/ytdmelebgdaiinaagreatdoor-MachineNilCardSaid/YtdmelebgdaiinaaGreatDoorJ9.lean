/- The evaluator: writes. The evaluator: the builtins append, copy, delete, len, cap, max and min; the next letter of a string. -/
import Derived.Laws.Append
import Derived.Test.YtdmelebgdaiinaaGreatDoorJ8
set_option linter.unusedVariables false
set_option linter.unusedSimpArgs false
set_option linter.unusedVariables false
set_option linter.unusedSimpArgs false
namespace Go.Proofs.YtdmelebgdaiinaaGreatDoor.Ev
section
variable {P : Program} {r : Rho} {n : Nat} {tm : Tr AV} {a : Act} {w : World} {o : Oper} {hp : Hp} {nx : Nat}
theorem killAll_get (l:List Nat):∀ (hp:Hp) (b:Nat),getB (killAll l hp) b=if b∈l then none else getB hp b:=by
 induction l with
 | nil=>intro hp b;simp[killAll]
 | cons c l ih =>
  intro hp b
  show getB (killAll l (setB none c hp)) b=_
  rw[ih,getB_setB]
  by_cases h1:b∈l
  ·simp[h1]
  ·by_cases h2:b=c <;> simp[h1,h2]
theorem lone_ok {b:AV} (h:lone b=true) {u:Value} (hr:Rel r b u):u.oneCell'=true:=by
 cases b with
 | agg _=>exact absurd (show false=true from h) (by decide)
 | tuple _=>exact absurd (show false=true from h) (by decide)
 | bool _=>have:=rel_bool.1 hr;subst this;rfl
 | int _ _=>have:=rel_int.1 hr;subst this;rfl
 | str _=>obtain⟨x,rfl,_⟩:=rel_str.1 hr;rfl
 | ptr _ _=>obtain⟨x,_,rfl⟩:=rel_ptr.1 hr;rfl
 | nilPtr=>have:=rel_nilPtr.1 hr;subst this;rfl
 | slice _ _ _ _ _=>obtain⟨x,y,_,rfl,_⟩:=rel_slice.1 hr;rfl
 | nilSlice=>have:=rel_nilSlice.1 hr;subst this;rfl
 | map _=>obtain⟨x,_,rfl⟩:=rel_map.1 hr;rfl
 | nilMap=>have:=rel_nilMap.1 hr;subst this;rfl
 | func _ _ _=>obtain⟨x,y,rfl,_⟩:=rel_func.1 hr;rfl
 | nilFunc=>have:=rel_nilFunc.1 hr;subst this;rfl
 | iface _ _=>obtain⟨x,rfl,_⟩:=rel_iface.1 hr;rfl
 | nilIface=>have:=rel_nilIface.1 hr;subst this;rfl
theorem lones_ok:∀ {l:List AV},lones l=true→∀ {u:List Value},Rels r l u→∀ v∈u,v.oneCell'=true:=by
 intro l
 induction l with
 | nil=>intro h u hr v hv;rw[Rels_nil.1 hr] at hv;exact absurd hv (by simp)
 | cons b l ih =>
  intro h u hr v hv
  obtain⟨x,xs,rfl,h1,h2⟩:=Rels_cons.1 hr
  have h':sel (lone b) (lones l) false=true:=h
  cases hb:lone b with
  | false=>rw[hb] at h';exact absurd (show false=true from h') (by decide)
  | true =>
   rw[hb] at h'
   rcases List.mem_cons.1 hv with rfl | hv
   ·exact lone_ok hb h1
   ·exact ih h' h2 v hv
theorem storeB_ok (g:Gam (getB hp) r w) {b off:Nat} {vs:List AV} {hp':Hp} (h:storeB hp b off vs=some hp') {us:List Value} (hu:Rels r vs us) :
  ∃ x,r b=some x∧(∀ (P:Program),(storeCells ⟨x.blk,x.sh+off,none⟩ us).run P w=.ok () (w.setCells x.blk (x.sh+off) us)) ∧
   Gam (getB hp') r (w.setCells x.blk (x.sh+off) us)∧Fr r w (w.setCells x.blk (x.sh+off) us):=by
 obtain⟨q,h1,h2⟩:=bnd_some h
 obtain⟨cs',h3,h4⟩:=bnd_some h2
 obtain⟨h5,h6⟩:=sel_none h4
 injection h6 with h6;subst h6
 obtain⟨k,h7,h8⟩:=bnd_some h1
 have hk:k=.cells q.1 q.2.1 true q.2.2:=by
  cases k with
  | cells cs sz own sh=>cases own with
   | false=>exact absurd h8 (by simp[ownB])
   | true=>injection h8 with h8;subst h8;rfl
  | map _ _=>exact absurd h8 (by simp[ownB])
  | iter _ _=>exact absurd h8 (by simp[ownB])
  | dfr=>exact absurd h8 (by simp[ownB])
 subst hk
 obtain⟨x,h9,c,e,f,h10,h11,h12,h13⟩:=g.blk b _ h7
 obtain⟨hro,hfz⟩:=h13 rfl
 obtain⟨h14,_⟩:=setAt_some _ h3
 have hul:=hu.length
 have hsz:x.sh+off+us.length≤c.size:=by
  have h11':x.sh+q.1.length+x.xt * q.2.1≤c.size:=h11
  have:off+us.length≤q.1.length:=by omega
  have h0:0≤x.xt * q.2.1:=Nat.zero_le _
  omega
 obtain⟨⟨c',w1,w2,w3⟩,w4,w5,w6,w7,w8⟩:=heap_setCells x.blk us (x.sh+off) w c e f h10 hsz
 refine⟨x,h9,fun P=>?_,?_,Fr.turn h9 hro w6 w7 w8 w4 (by rw[w5];exact Nat.le_refl _)⟩
 ·have:=run_storeCells_cells (P:=P) x.blk (x.sh+off) us 0 w (fun j hj=>by
    rw[cell_of_heap h10];simp;omega) (fun j hj=>by
    have:=hfz (x.sh+off+0+j) (by omega);exact this) (lones_ok h5 hu)
  simpa using this
 ·refine g.turn (n:=b) h7 rfl h9 (k':=.cells cs' q.2.1 true []) (by rw[getB_setB,if_pos rfl]) (fun b' j hb hj=>?_) ?_ w4 (by rw[w5];exact Nat.le_refl _)
  ·rw[getB_setB,if_neg hb,killAll_get] at hj
   split at hj
   ·exact absurd hj (by simp)
   ·rename_i hn;exact⟨hj,hn⟩
  ·refine⟨c',e,f,w1,?_,fun i d hd=>?_,fun _=>⟨hro,fun i hi=>?_⟩⟩
   ·rw[w2,setAt_length h3];exact h11
   ·rw[setAt_get h3] at hd
    rw[w3]
    by_cases hi:off≤i∧i<off+vs.length
    ·rw[if_pos hi] at hd
     obtain⟨u,e1,e2⟩:=hu.get hd
     refine⟨u,?_,e2⟩
     rw[if_pos (by omega),← e1];congr 1;omega
    ·rw[if_neg hi] at hd
     obtain⟨u,e1,e2⟩:=h12 i d hd
     exact⟨u,by rw[if_neg (by omega)];exact e1,e2⟩
   ·have:=hfz i (by rw[w2] at hi;exact hi)
    simp only[World.frozen?,h10] at this
    simp only[World.frozen?,w1]
    exact this
theorem okR_ok {v:AV} {e:Option Hp} (hf:Fresh nx r) (h:∀ hp',e=some hp'→∃ x w',((execOp a.eval o).run P w=.ok (.value x) w'∨((execOp a.eval o).run P w=.ok .skip w'∧x=undef))∧Rel r v x∧Fr r w w'∧Gam (getB hp') r w') :
  ResOk P o a r w (okR v nx e):=by
 cases e with
 | none=>exact trivial
 | some hp' =>
  obtain⟨x,w',h1,h2,h3,h4⟩:=h hp' rfl
  exact⟨x,w',r,h1,h2,Ext.refl _ _,h3,h4,hf⟩
theorem store_ok (ht:TmOk r n tm a) (hg:Glob P r) (g:Gam (getB hp) r w) (hf:Fresh nx r) {t:TypeId} {x v:Operand} (ho:o.op=.store t x v) :
  ResOk P o a r w (okR (.tuple []) nx (bnd (sizeOf? P t) fun s=>bnd (bnd (opnd P x tm) asPtr) fun p=>bnd (opnd P v tm) fun v=>sel (Nat.beq (lenL v.cells) s) (storeB hp p.1 p.2 v.cells) none)):=by
 refine okR_ok hf fun hp' h=>?_
 obtain⟨s,h1,h2⟩:=bnd_some h
 obtain⟨p,h3,h4⟩:=bnd_some h2
 obtain⟨q,h5,h6⟩:=bnd_some h4
 obtain⟨h7,h8⟩:=sel_none h6
 obtain⟨b,h9,h10⟩:=bnd_some h3
 have:=asPtr_some h10;subst this
 obtain⟨y,e1,e2⟩:=rel_ptr.1 (opnd_ok ht hg h9)
 have hq:=opnd_ok ht hg h5
 obtain⟨i,i1,i2⟩:=sizeOf_ok h1
 obtain⟨y',f1,f2,f3,f4⟩:=storeB_ok g h8 (cells_ok hq)
 rw[e1] at f1;injection f1 with f1;subst f1
 have hl:=beq_eq h7
 rw[lenL_eq] at hl
 have hsz:(a.eval v).cells.size=i.size:=by
  have:=(cells_ok hq).length;simp at this;omega
 refine⟨undef,_,.inr ⟨?_,rfl⟩,rel_undef,f4,f3⟩
 simp[execOp,ho,e2,Instr.storeAt,Instr.sureAddr,storeVar,run_size i1,hsz,f2 P]
theorem run_setObj_map {b:Nat} {m:Array MapEntry} {k:Nat} (h:w.heap[b]?=some (.map m k)) (o:Obj):(setObj b o).run P w=.ok () (setObjW w b o):=by
 simp[setObj,Sem.run,h,setObjW]
theorem find_at {kk:KK} {d:TypeDesc} (hd:match kk with | .int=>∃ j,d=.int j | .str=>d=.string | .bool=>d=.bool) {k v:AV} {u:Value} (hk:Rel r k u) :
  ∀ {es es':List (AV×AV)} {l:List MapEntry} (i:Nat),Ents r es l→updK kk k v es=some es' →
   (Instr.findNow d u l i=some none∧es'=es++[(k,v)])∨∃ p x m,l[p]?=some m∧Instr.findNow d u l i=some (some (i+p,x))∧es'=es.set p (k,v)∧Instr.sameNow d u m.key=some true:=by
 intro es
 induction es with
 | nil =>
  intro es' l i he h
  injection (show some [(k,v)]=some es' from h) with h;subst h
  have:l=[]:=List.eq_nil_of_length_eq_zero he.1
  subst this;exact .inl ⟨rfl,rfl⟩
 | cons e es ih =>
  intro es' l i he h
  obtain⟨m,ms,rfl,h1,h2,h3⟩:=Ents_cons he
  obtain⟨t,h4,h5⟩:=bnd_some (show bnd (keyEq kk k e.1) (fun t=>sel t (some ((k,v) :: es)) (bnd (updK kk k v es) fun l=>some (e :: l)))=some es' from h)
  have h6:=keyEq_ok hd h4 hk h1
  cases t with
  | true =>
   injection (show some ((k,v) :: es)=some es' from h5) with h5;subst h5
   exact .inr ⟨0,m.val,m,rfl,by unfold Instr.findNow;rw[h6];rfl,rfl,h6⟩
  | false =>
   obtain⟨l',h7,h8⟩:=bnd_some (show bnd (updK kk k v es) (fun l=>some (e :: l))=some es' from h5)
   injection h8 with h8;subst h8
   rcases ih (i+1) h3 h7 with ⟨g1,g2⟩ | ⟨p,x,m',g0,g1,g2,g3⟩
   ·exact .inl ⟨by unfold Instr.findNow;rw[h6];exact g1,by rw[g2];rfl⟩
   ·exact .inr ⟨p+1,x,m',by simpa using g0,by unfold Instr.findNow;rw[h6,show i+(p+1)=i+1+p by omega];exact g1,by rw[g2];rfl,g3⟩
theorem sameNow_same {kk:KK} {d:TypeDesc} (hd:match kk with | .int=>∃ j,d=.int j | .str=>d=.string | .bool=>d=.bool) {u z:Value} (h:Instr.sameNow d u z=some true):u=z:=by
 cases kk with
 | int =>
  obtain⟨j,rfl⟩:=hd
  cases u <;> cases z <;> simp[Instr.sameNow] at h
  obtain⟨rfl,rfl⟩:=h;rfl
 | str =>
  subst hd
  cases u <;> cases z <;> simp only[Instr.sameNow] at h <;> first | (cases h;done) | skip
  rename_i x y
  injection h with h
  rw[beq_toListBytes,ba_toList,ba_toList] at h
  have:=eq_of_beq h
  obtain⟨⟨x⟩⟩:=x;obtain⟨⟨y⟩⟩:=y
  simp only at this
  rw[this]
 | bool =>
  subst hd
  cases u <;> cases z <;> simp[Instr.sameNow] at h
  subst h;rfl
theorem keyThatStays_same {kk:KK} {d:TypeDesc} (hd:match kk with | .int=>∃ j,d=.int j | .str=>d=.string | .bool=>d=.bool) {u z:Value} (h:Instr.sameNow d u z=some true) (w:World):(Instr.keyThatStays z u).run P w=.ok u w:=by
 have:=sameNow_same hd h;subst this
 have hs:Instr.sameBits 10000 u u=true:=by
  cases kk with
  | int=>obtain⟨j,rfl⟩:=hd;cases u <;> simp[Instr.sameNow] at h;simp[Instr.sameBits]
  | str=>subst hd;cases u <;> simp[Instr.sameNow] at h;simpa [Instr.sameBits] using h
  | bool=>subst hd;cases u <;> simp[Instr.sameNow] at h;simp[Instr.sameBits]
 simp[Instr.keyThatStays,hs]
theorem ownMap_ok {h:H} (g:Gam h r w) {b:Nat} {es:List (AV×AV)} (hb:bnd (h b) ownMap=some es):∃ x m k,h b=some (.map es true)∧r b=some x∧w.heap[x.blk]?=some (.map m k)∧Ents r es m.toList∧x.ro=false:=by
 obtain⟨k,h1,h2⟩:=bnd_some hb
 cases k with
 | cells _ _ _ _=>exact absurd h2 (by simp[ownMap])
 | map es' own =>
  cases own with
  | false=>exact absurd h2 (by simp[ownMap])
  | true =>
   injection h2 with h2;subst h2
   obtain⟨x,h3,m,k,h4,h5,h6⟩:=g.blk b _ h1
   exact⟨x,m,k,h1,h3,h4,h5,h6 rfl⟩
 | iter _ _=>exact absurd h2 (by simp[ownMap])
 | dfr=>exact absurd h2 (by simp[ownMap])
theorem map_turn (g:Gam (getB hp) r w) {b:Nat} {es es':List (AV×AV)} {x:BI} (h1:getB hp b=some (.map es true)) (h2:r b=some x) (h3:x.ro=false) (m:Array MapEntry) (k:Nat) (h4:Ents r es' m.toList) :
  Gam (getB (setB (some (.map es' true)) b hp)) r (setObjW w x.blk (.map m k))∧Fr r w (setObjW w x.blk (.map m k)):=by
 have hlt:=g.real _ _ h2
 refine⟨g.turn (n:=b) h1 rfl h2 (k':=.map es' true) (by rw[getB_setB,if_pos rfl]) (fun b' j hb hj=>?_) ?_ (fun i hi=>heap_setObj_other _ _ hi) (by simp[setObjW]),
  Fr.turn h2 h3 rfl rfl rfl (fun i hi=>heap_setObj_other _ _ hi) (by simp[setObjW])⟩
 ·rw[getB_setB,if_neg hb] at hj;exact⟨hj,by simp[Blk.shares]⟩
 ·exact⟨m,k,heap_setObj_same _ hlt,h4,fun _=>h3⟩
theorem update_ok (ht:TmOk r n tm a) (hg:Glob P r) (g:Gam (getB hp) r w) (hf:Fresh nx r) {t:TypeId} {m k v:Operand} (ho:o.op=.mapUpdate t m k v∨o.op=.insert t m k v) :
  ResOk P o a r w (okR (.tuple []) nx (bnd (mapKind P t) fun z=>bnd (bnd (opnd P m tm) asMap) fun b=>bnd (opnd P k tm) fun k=>bnd (opnd P v tm) fun v=>bnd (bnd (getB hp b) ownMap) fun es =>
   bnd (keyEq z.1 k k) fun _=>bnd (updK z.1 k v es) fun es=>some (setB (some (.map es true)) b hp))):=by
 refine okR_ok hf fun hp' h=>?_
 obtain⟨z,h1,h2⟩:=bnd_some h
 obtain⟨b,h3,h4⟩:=bnd_some h2
 obtain⟨kk,h5,h6⟩:=bnd_some h4
 obtain⟨vv,h7,h8⟩:=bnd_some h6
 obtain⟨es,h9,h10⟩:=bnd_some h8
 obtain⟨q,h11,h12⟩:=bnd_some h10
 obtain⟨es',h13,h14⟩:=bnd_some h12
 injection h14 with h14;subst h14
 obtain⟨M⟩:=mapKind_ok h1
 obtain⟨b',h15,h16⟩:=bnd_some h3
 have:=asMap_some h16;subst this
 obtain⟨y,e1,e2⟩:=rel_map.1 (opnd_ok ht hg h15)
 have hk:=opnd_ok ht hg h5
 have hv:=opnd_ok ht hg h7
 obtain⟨x,mm,c,f0,f1,f2,f3,f4⟩:=ownMap_ok g h9
 rw[e1] at f1;injection f1 with f1;subst f1
 have hexec:∀ {w'},(Instr.mapUpdate t (.map (some y.blk)) (a.eval k) (a.eval v)).run P w=.ok () w'→(execOp a.eval o).run P w=.ok .skip w':=by
  intro w' hr
  rcases ho with ho | ho <;> simp[execOp,ho,e2,hr]
 rcases find_at M.hd hk 0 f3 h13 with ⟨g1,g2⟩ | ⟨p,u,m',g0,g1,g2,g3⟩
 ·obtain⟨k1,k2⟩:=map_turn g (es':=es') f0 e1 f4 (mm.push { key:=a.eval k,val:=a.eval v,born:=c }) (c+1) (by
   rw[g2,Array.toList_push]
   refine⟨by simp[f3.1],fun i e he=>?_⟩
   by_cases hi:i<es.length
   ·rw[List.getElem?_append_left hi] at he
    rw[List.getElem?_append_left (by rw[f3.1];exact hi)]
    exact f3.2 i e he
   ·rw[List.getElem?_append_right (by omega)] at he
    have hi0:i - es.length=0:=by
     have:=(List.getElem?_eq_some_iff.1 he).1;simp at this;omega
    rw[hi0] at he
    simp at he;subst he
    exact⟨_,by rw[List.getElem?_append_right (by rw[f3.1];omega),f3.1,hi0];rfl,hk,hv⟩)
  refine⟨undef,_,.inr ⟨hexec ?_,rfl⟩,rel_undef,k2,k1⟩
  simp only[Instr.mapUpdate,Sem.run_bind,run_underlying M.hu,Result.andThen_ok,run_getObj_map f2,run_checkKey M.hd M.hk _ 9999,Instr.findKey,run_underlying M.hk,g1,Sem.run_pure,run_setObj_map f2]
 ·simp only[Nat.zero_add] at g1
  have hp1:mm[p]?=some m':=by rw[← g0];simp
  have hpl:p<mm.toList.length:=(List.getElem?_eq_some_iff.1 g0).1
  obtain⟨k1,k2⟩:=map_turn g (es':=es') f0 e1 f4 (mm.modify p fun e=>{ e with key:=a.eval k,val:=a.eval v }) c (by
   rw[g2]
   refine⟨by simp[f3.1],fun i e he=>?_⟩
   rw[Array.getElem?_toList,Array.getElem?_modify]
   by_cases hi:p=i
   ·subst hi
    rw[List.getElem?_set_self (by rw[← f3.1];exact hpl)] at he
    injection he with he;subst he
    rw[if_pos rfl,hp1]
    exact⟨_,rfl,hk,hv⟩
   ·rw[List.getElem?_set_ne hi] at he
    rw[if_neg hi]
    obtain⟨q',q1,q2⟩:=f3.2 i e he
    exact⟨q',by simpa using q1,q2⟩)
  refine⟨undef,_,.inr ⟨hexec ?_,rfl⟩,rel_undef,k2,k1⟩
  simp only[Instr.mapUpdate,Sem.run_bind,run_underlying M.hu,Result.andThen_ok,run_getObj_map f2,run_checkKey M.hd M.hk _ 9999,Instr.findKey,run_underlying M.hk,g1,Sem.run_pure,hp1,Option.map_some,Option.getD_some,
   keyThatStays_same M.hd g3,run_setObj_map f2]
end
end Go.Proofs.YtdmelebgdaiinaaGreatDoor.Ev
set_option linter.unusedVariables false
set_option linter.unusedSimpArgs false
namespace Go.Proofs.YtdmelebgdaiinaaGreatDoor.Ev
section
variable {P : Program} {r : Rho} {n : Nat} {tm : Tr AV} {a : Act} {w : World} {o : Oper} {hp : Hp} {nx : Nat}
theorem runR_ok {α:Type} {e:Option α} {f:α→R} (h:∀ x,e=some x→ResOk P o a r w (f x)):ResOk P o a r w (runR e f):=by
 cases e with
 | none=>exact trivial
 | some x=>exact h x rfl
theorem sel_R {c:Bool} {x y:R} (h1:c=true→ResOk P o a r w x) (h2:c=false→ResOk P o a r w y):ResOk P o a r w (sel c x y):=by
 cases c with
 | true=>exact h1 rfl
 | false=>exact h2 rfl
theorem iterB_ok {h:H} (g:Gam h r w) {b:Nat} {q:List Nat×Nat} (hb:bnd (h b) iterB=some q):∃ x s,h b=some (.iter q.1 q.2)∧r b=some x∧w.heap[x.blk]?=some (.stringIter s q.2)∧s.data.toList.map UInt8.toNat=q.1∧x.ro=false∧x.sh=0:=by
 obtain⟨k,h1,h2⟩:=bnd_some hb
 cases k with
 | cells _ _ _ _=>exact absurd h2 (by simp[iterB])
 | map _ _=>exact absurd h2 (by simp[iterB])
 | dfr=>exact absurd h2 (by simp[iterB])
 | iter s p =>
  injection h2 with h2;subst h2
  obtain⟨x,h3,s,h4,h5,h6,h7⟩:=g.blk b _ h1
  exact⟨x,s,h1,h3,h4,h5,h6,h7⟩
theorem next_ok (ht:TmOk r n tm a) (hg:Glob P r) (g:Gam (getB hp) r w) (hf:Fresh nx r) {x:Operand} {is:Bool} (ho:o.op=.next x is) :
  ResOk P o a r w (runR (bnd (opnd P x tm) asPtr) fun p=>runR (bnd (getB hp p.1) iterB) fun q=>sel (and is (Nat.beq p.2 0)) (nextB hp nx p.1 q.1 q.2) .no):=by
 refine runR_ok fun p h1=>runR_ok fun q h2=>sel_R (fun h3=>?_) fun _=>trivial
 obtain⟨b,h4,h5⟩:=bnd_some h1
 have:=asPtr_some h5;subst this
 obtain⟨his,h6⟩:=and2 h3
 have h0:=beq_eq h6
 obtain⟨y,s,g0,g1,g2,g3,g4,g5⟩:=iterB_ok g h2
 obtain⟨y',e1,e2⟩:=rel_ptr.1 (opnd_ok ht hg h4)
 rw[g1] at e1;injection e1 with e1;subst e1
 subst his
 rw[g5,h0] at e2
 have hobj:(getObj y.blk).run P w=.ok (.stringIter s q.2) w:=by simp[getObj,Sem.run,g2]
 unfold nextB
 rw[nth_eq,← g3,List.getElem?_map]
 cases hc:s.data.toList[q.2]? with
 | none =>
  refine⟨.tuple #[.bool false],w,r,.inl ?_,rel_tuple.2 ⟨_,rfl,Rels_cons.2 ⟨_,_,rfl,rel_bool.2 rfl,Rels_nil.2 rfl⟩⟩,Ext.refl _ _,Fr.refl _ _,g,hf⟩
  have hlt:¬ q.2<s.size:=by
   have:=List.getElem?_eq_none_iff.1 hc
   rw[Array.length_toList] at this
   show ¬ q.2<s.data.size
   omega
  have:(Instr.next (.pointer (some ⟨y.blk,0,none⟩)) true o.type).run P w=.ok (.tuple #[.bool false]) w:=by
   simp only[Instr.next,Sem.run_bind,hobj,Result.andThen_ok,if_neg hlt];rfl
  simp[execOp,ho,e2,this]
 | some c =>
  simp only[Option.map_some]
  refine sel_R (fun h7=>?_) fun _=>trivial
  have h7:=blt_lt h7
  have hlt:q.2<s.size:=by
   have:=(List.getElem?_eq_some_iff.1 hc).1
   rw[Array.length_toList] at this
   exact this
  have hcc : s[q.2]'hlt = c := by
   have:=(List.getElem?_eq_some_iff.1 hc).2
   rw[← this]
   simp only[Array.getElem_toList]
   rfl
  have hdec:=decode_ascii s q.2 hlt (by rw[hcc];exact h7)
  rw[hcc] at hdec
  have hrun:(Instr.next (.pointer (some ⟨y.blk,0,none⟩)) true o.type).run P w=.ok (.tuple #[.bool true,.int .i64 (q.2:Int),.int .i32 (c.toNat:Int)]) (setObjW w y.blk (.stringIter s (q.2+1))):=by
   have hset:(setObj y.blk (.stringIter s (q.2+1))).run P w=.ok () (setObjW w y.blk (.stringIter s (q.2+1))):=by simp[setObj,Sem.run,g2,setObjW]
   simp only[Instr.next,Sem.run_bind,hobj,Result.andThen_ok,if_pos hlt,hdec,hset];rfl
  refine⟨.tuple #[.bool true,.int .i64 (q.2:Int),.int .i32 (c.toNat:Int)],setObjW w y.blk (.stringIter s (q.2+1)),r,.inl (by simp[execOp,ho,e2,hrun]),rel_tuple.2 ⟨_,rfl,Rels_cons.2 ⟨_,_,rfl,rel_bool.2 rfl,Rels_cons.2 ⟨_,_,rfl,rel_int.2 rfl,Rels_cons.2 ⟨_,_,rfl,rel_int.2 rfl,Rels_nil.2 rfl⟩⟩⟩⟩,
   Ext.refl _ _,Fr.turn g1 g4 rfl rfl rfl (fun i hi=>heap_setObj_other _ _ hi) (by simp[setObjW]),?_,hf⟩
  refine g.turn (n:=p.1) g0 rfl g1 (k':=.iter (s.data.toList.map UInt8.toNat) (Nat.succ q.2)) (by rw[getB_setB,if_pos rfl]) (fun b' j hb hj=>?_) ?_ (fun i hi=>heap_setObj_other _ _ hi) (by simp[setObjW])
  ·rw[getB_setB,if_neg hb] at hj;exact⟨hj,by simp[Blk.shares]⟩
  ·exact⟨s,heap_setObj_same _ (g.real _ _ g1),rfl,g4,g5⟩
theorem exec_builtin {b:Builtin} {xs:Array Operand} {ts:Array TypeId} (ho:o.op=.call ⟨.builtin b,xs,ts⟩) :
  (execOp a.eval o).run P w=(builtin b ts o.type (xs.map fun | .const _=>true | _=>false) (xs.map a.eval)).run P w:=by
 simp only[execOp,ho,resolve,Sem.run_bind,Sem.run_pure,Result.andThen_ok,invoke]
 rfl
theorem headT_ok {ts:Array TypeId} {t:TypeId} (h:headT ts=some t):ts[0]?=some t:=by
 unfold headT at h
 split at h
 ·injection h with h;subst h;rfl
 ·exact absurd h (by simp)
theorem args2 (ht:TmOk r n tm a) (hg:Glob P r) {xs:Array Operand} {u v:AV} (h:opnds P tm xs.toList=some [u,v]):∃ x y,xs.map a.eval=#[x,y]∧Rel r u x∧Rel r v y:=by
 have:=opnds_ok ht hg h
 obtain⟨x,l,e1,e2,e3⟩:=Rels_cons.1 this
 obtain⟨y,l',e4,e5,e6⟩:=Rels_cons.1 e3
 have:=Rels_nil.1 e6
 subst this;subst e4
 refine⟨x,y,?_,e2,e5⟩
 rw[← Array.toList_inj,Array.toList_map,e1]
theorem args1 (ht:TmOk r n tm a) (hg:Glob P r) {xs:Array Operand} {u:AV} (h:opnds P tm xs.toList=some [u]):∃ x,xs.map a.eval=#[x]∧Rel r u x:=by
 have:=opnds_ok ht hg h
 obtain⟨x,l,e1,e2,e3⟩:=Rels_cons.1 this
 have:=Rels_nil.1 e3
 subst this
 refine⟨x,?_,e2⟩
 rw[← Array.toList_inj,Array.toList_map,e1]
theorem arg2_ok {f:AV→AV→R} {vs:List AV} (h:∀ x y,vs=[x,y]→ResOk P o a r w (f x y)):ResOk P o a r w (arg2 f vs):=by
 unfold arg2;split
 ·exact h _ _ rfl
 ·exact trivial
theorem arg1_ok {f:AV→R} {vs:List AV} (h:∀ x,vs=[x]→ResOk P o a r w (f x)):ResOk P o a r w (arg1 f vs):=by
 unfold arg1;split
 ·exact h _ rfl
 ·exact trivial
theorem lenOf_ok {v:AV} {m:Nat} (h:lenOf v=some m) {u:Value} (hu:Rel r v u):∃ A c,u=.slice A m c∧(A=none→m=0∧c=0):=by
 cases v with
 | slice b off len cap ex=>injection (show some len=some m from h) with h;subst h;obtain⟨x,p,_,e,_⟩:=rel_slice.1 hu;exact⟨_,_,e,fun h=>absurd h (by simp)⟩
 | nilSlice=>injection (show some 0=some m from h) with h;subst h;exact⟨none,0,rel_nilSlice.1 hu,fun _=>⟨rfl,rfl⟩⟩
 | _=>exact absurd h (by simp[lenOf])
theorem len_ok (ht:TmOk r n tm a) (hg:Glob P r) (g:Gam (getB hp) r w) {xs:Array Operand} {ts:Array TypeId} (ho:o.op=.call ⟨.builtin .len,xs,ts⟩) {k:LK} (hk:lenKind P ts=some k)
  {x v:AV} (hx:opnds P tm xs.toList=some [x]) (h:bnd (lenP k x hp) (fun m=>some (.int .i64 (Int.ofNat m)))=some v):Owes P o a r w v:=by
 obtain⟨m,h1,h2⟩:=bnd_some h
 injection h2 with h2;subst h2
 obtain⟨u,e1,e2⟩:=args1 ht hg hx
 obtain⟨t,h3,h4⟩:=bnd_some hk
 have ht0:=headT_ok h3
 refine⟨.int .i64 (m:Int),?_,rel_int.2 rfl⟩
 rw[exec_builtin ho,e1]
 have key:(Builtin.len_ ts o.type #[u]).run P w=.ok (.int .i64 (m:Int)) w→(builtin .len ts o.type (xs.map fun | .const _=>true | _=>false) #[u]).run P w=.ok (.value (.int .i64 (m:Int))) w:=fun h=>by
  simp only[builtin,Sem.run_bind,h,Result.andThen_ok,Sem.run_pure]
 refine key ?_
 split at h4
 ·rename_i hu;injection h4 with h4;subst h4
  obtain⟨s,h5,h6⟩:=bnd_some (show bnd (asStr x) _=some m from h1)
  injection h6 with h6;subst h6
  have:=asStr_some h5;subst this
  obtain⟨y,e3,e4⟩:=rel_str.1 e2
  subst e4;subst e3
  have:lenL (y.data.toList.map UInt8.toNat)=y.size:=by rw[lenL_eq,List.length_map,Array.length_toList];rfl
  simp[Builtin.len_,ht0,run_underlying hu,goInt,this]
 ·rename_i e hu;injection h4 with h4;subst h4
  obtain⟨A,c,e3,_⟩:=lenOf_ok (show lenOf x=some m from h1) e2
  subst e3
  simp[Builtin.len_,ht0,run_underlying hu,goInt]
 ·rename_i k e hu;injection h4 with h4;subst h4
  obtain⟨es,h5,h6⟩:=bnd_some (show bnd (entries hp x) _=some m from h1)
  injection h6 with h6;subst h6
  rcases entries_ok g h5 e2 with ⟨e3,e4⟩ | ⟨y,mm,c,e3,e4,e5⟩
  ·subst e3;subst e4;simp[Builtin.len_,ht0,run_underlying hu,goInt,lenL]
  ·subst e3
   have:lenL es=mm.size:=by rw[lenL_eq,← e5.1];simp
   simp[Builtin.len_,ht0,run_underlying hu,goInt,run_getObj_map e4,this]
 ·exact absurd h4 (by simp)
theorem cap_ok (ht:TmOk r n tm a) (hg:Glob P r) {xs:Array Operand} {ts:Array TypeId} (ho:o.op=.call ⟨.builtin .cap,xs,ts⟩) {e:Nat×List AV} (hk:bnd (headT ts) (elemZero P)=some e)
  {x v:AV} (hx:opnds P tm xs.toList=some [x]) (h:bnd (capP x) (fun m=>some (.int .i64 (Int.ofNat m)))=some v):Owes P o a r w v:=by
 obtain⟨m,h1,h2⟩:=bnd_some h
 injection h2 with h2;subst h2
 obtain⟨u,e1,e2⟩:=args1 ht hg hx
 obtain⟨t,h3,h4⟩:=bnd_some hk
 have ht0:=headT_ok h3
 obtain⟨el,i,_,_,hu,_⟩:=elemZero_ok h4
 refine⟨.int .i64 (m:Int),?_,rel_int.2 rfl⟩
 rw[exec_builtin ho,e1]
 have:(Builtin.cap_ ts o.type #[u]).run P w=.ok (.int .i64 (m:Int)) w:=by
  cases x with
  | nilSlice=>injection (show some 0=some m from h1) with h1;subst h1;have:=rel_nilSlice.1 e2;subst this;simp[Builtin.cap_,ht0,run_underlying hu,goInt]
  | slice b off len cap ex =>
   cases ex with
   | false=>exact absurd h1 (by simp[capP])
   | true =>
    injection (show some cap=some m from h1) with h1;subst h1
    obtain⟨y,p,_,e3,_⟩:=rel_slice.1 e2
    subst e3
    simp[Builtin.cap_,ht0,run_underlying hu,goInt]
  | _=>exact absurd h1 (by simp[capP])
 simp only[builtin,Sem.run_bind,this,Result.andThen_ok,Sem.run_pure]
theorem max_ok (ht:TmOk r n tm a) (hg:Glob P r) {xs:Array Operand} {ts:Array TypeId} (ho:o.op=.call ⟨.builtin .max,xs,ts⟩) {x y v:AV} (hx:opnds P tm xs.toList=some [x,y]) (h:maxP x y=some v):Owes P o a r w v:=by
 obtain⟨p,h1,h2⟩:=bnd_some h
 obtain⟨q,h3,h4⟩:=bnd_some h2
 injection h4 with h4;subst h4
 obtain⟨u,z,e1,e2,e3⟩:=args2 ht hg hx
 have:=asInt_some h1;subst this
 have:=asInt_some h3;subst this
 have e4:=rel_int.1 e2;have e5:=rel_int.1 e3
 subst e4;subst e5
 refine⟨.int p.1 (if p.2<q.2 then q.2 else p.2),?_,rel_int.2 ?_⟩
 ·rw[exec_builtin ho,e1]
  simp[builtin,Builtin.max_,Builtin.max2]
 ·rw[iLe_eq]
  by_cases hlt:p.2<q.2
  ·rw[if_pos hlt,show decide (q.2≤p.2)=false by simp;omega];rfl
  ·rw[if_neg hlt,show decide (q.2≤p.2)=true by simp;omega];rfl
theorem min_ok (ht:TmOk r n tm a) (hg:Glob P r) {xs:Array Operand} {ts:Array TypeId} (ho:o.op=.call ⟨.builtin .min,xs,ts⟩) {x y v:AV} (hx:opnds P tm xs.toList=some [x,y]) (h:minP x y=some v):Owes P o a r w v:=by
 obtain⟨p,h1,h2⟩:=bnd_some h
 obtain⟨q,h3,h4⟩:=bnd_some h2
 injection h4 with h4;subst h4
 obtain⟨u,z,e1,e2,e3⟩:=args2 ht hg hx
 have:=asInt_some h1;subst this
 have:=asInt_some h3;subst this
 have e4:=rel_int.1 e2;have e5:=rel_int.1 e3
 subst e4;subst e5
 refine⟨.int p.1 (if q.2<p.2 then q.2 else p.2),?_,rel_int.2 ?_⟩
 ·rw[exec_builtin ho,e1]
  simp[builtin,Builtin.min_,Builtin.min2]
 ·rw[iLe_eq]
  by_cases hlt:q.2<p.2
  ·rw[if_pos hlt,show decide (p.2≤q.2)=false by simp;omega];rfl
  ·rw[if_neg hlt,show decide (p.2≤q.2)=true by simp;omega];rfl
theorem del_at {kk:KK} {d:TypeDesc} (hd:match kk with | .int=>∃ j,d=.int j | .str=>d=.string | .bool=>d=.bool) {k:AV} {u:Value} (hk:Rel r k u) :
  ∀ {es es':List (AV×AV)} {l:List MapEntry} (i:Nat),Ents r es l→delK kk k es=some es' →
   (Instr.findNow d u l i=some none∧es'=es)∨∃ p x,p<l.length∧Instr.findNow d u l i=some (some (i+p,x))∧es'=es.eraseIdx p:=by
 intro es
 induction es with
 | nil =>
  intro es' l i he h
  injection (show some []=some es' from h) with h;subst h
  have:l=[]:=List.eq_nil_of_length_eq_zero he.1
  subst this;exact .inl ⟨rfl,rfl⟩
 | cons e es ih =>
  intro es' l i he h
  obtain⟨m,ms,rfl,h1,h2,h3⟩:=Ents_cons he
  obtain⟨t,h4,h5⟩:=bnd_some (show bnd (keyEq kk k e.1) (fun t=>sel t (some es) (bnd (delK kk k es) fun l=>some (e :: l)))=some es' from h)
  have h6:=keyEq_ok hd h4 hk h1
  cases t with
  | true =>
   injection (show some es=some es' from h5) with h5;subst h5
   exact .inr ⟨0,m.val,by simp,by unfold Instr.findNow;rw[h6];rfl,rfl⟩
  | false =>
   obtain⟨l',h7,h8⟩:=bnd_some (show bnd (delK kk k es) (fun l=>some (e :: l))=some es' from h5)
   injection h8 with h8;subst h8
   rcases ih (i+1) h3 h7 with ⟨g1,g2⟩ | ⟨p,x,g0,g1,g2⟩
   ·exact .inl ⟨by unfold Instr.findNow;rw[h6];exact g1,by rw[g2]⟩
   ·exact .inr ⟨p+1,x,by simpa using g0,by unfold Instr.findNow;rw[h6,show i+(p+1)=i+1+p by omega];exact g1,by rw[g2];rfl⟩
theorem delete_ok (ht:TmOk r n tm a) (hg:Glob P r) (g:Gam (getB hp) r w) (hf:Fresh nx r) {xs:Array Operand} {ts:Array TypeId} (ho:o.op=.call ⟨.builtin .delete,xs,ts⟩) {vs:List AV} (hx:opnds P tm xs.toList=some vs) :
  ResOk P o a r w (xbDelete P ts vs hp nx):=by
 refine runR_ok fun z h1=>arg2_ok fun m k hv=>runR_ok fun b h2=>runR_ok fun es h3=>runR_ok fun q h4=>runR_ok fun es' h5=>?_
 subst hv
 obtain⟨t,h6,h7⟩:=bnd_some h1
 have ht0:=headT_ok h6
 obtain⟨M⟩:=mapKind_ok h7
 obtain⟨u,uk,e1,e2,e3⟩:=args2 ht hg hx
 have:=asMap_some h2;subst this
 obtain⟨y,f1,f2⟩:=rel_map.1 e2
 obtain⟨x,mm,c,d0,d1,d2,d3,d4⟩:=ownMap_ok g h3
 rw[f1] at d1;injection d1 with d1;subst d1
 subst f2
 have key:∀ {w'},(Builtin.delete_ ts o.type #[.map (some y.blk),uk]).run P w=.ok (.tuple #[]) w'→(execOp a.eval o).run P w=.ok (.value (.tuple #[])) w':=fun h=>by
  rw[exec_builtin ho,e1]
  simp only[builtin,Sem.run_bind,h,Result.andThen_ok,Sem.run_pure]
 rcases del_at M.hd e3 0 d3 h5 with ⟨g1,g2⟩ | ⟨p,uu,g0,g1,g2⟩
 ·subst g2
  obtain⟨k1,k2⟩:=map_turn g (es':=es') d0 f1 d4 mm c d3
  refine⟨_,_,r,.inl (key ?_),rel_undef,Ext.refl _ _,k2,k1,hf⟩
  simp only[Builtin.delete_,ht0,List.getElem?_toArray,List.getElem?_cons_zero,List.getElem?_cons_succ,Sem.run_bind,run_underlying M.hu,Result.andThen_ok,run_getObj_map d2,run_checkKey M.hd M.hk _ 9999,Instr.findKey,
   run_underlying M.hk,g1,Sem.run_pure,run_setObj_map d2]
 ·simp only[Nat.zero_add] at g1
  obtain⟨k1,k2⟩:=map_turn g (es':=es') d0 f1 d4 (mm.eraseIdxIfInBounds p) c (by
   have hps:p<mm.size:=by simpa using g0
   have hel:(mm.eraseIdxIfInBounds p).toList=mm.toList.eraseIdx p:=by
    simp[Array.eraseIdxIfInBounds,hps]
   rw[g2,hel]
   refine⟨by rw[List.length_eraseIdx,List.length_eraseIdx,d3.1],fun i e he=>?_⟩
   rw[List.getElem?_eraseIdx] at he ⊢
   split at he
   ·rename_i hi;rw[if_pos hi];exact d3.2 _ _ he
   ·rename_i hi;rw[if_neg hi];exact d3.2 _ _ he)
  refine⟨_,_,r,.inl (key ?_),rel_undef,Ext.refl _ _,k2,k1,hf⟩
  simp only[Builtin.delete_,ht0,List.getElem?_toArray,List.getElem?_cons_zero,List.getElem?_cons_succ,Sem.run_bind,run_underlying M.hu,Result.andThen_ok,run_getObj_map d2,run_checkKey M.hd M.hk _ 9999,Instr.findKey,
   run_underlying M.hk,g1,Sem.run_pure,run_setObj_map d2]
end
end Go.Proofs.YtdmelebgdaiinaaGreatDoor.Ev
