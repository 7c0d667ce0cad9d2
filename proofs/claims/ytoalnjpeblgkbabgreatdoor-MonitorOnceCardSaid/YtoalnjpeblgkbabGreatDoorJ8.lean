/- The evaluator: the builtins append, copy, delete, len, cap, max and min; the next letter of a string. -/
import Derived.Test.YtoalnjpeblgkbabGreatDoorJ7
set_option linter.unusedVariables false
set_option linter.unusedSimpArgs false
set_option linter.unusedVariables false
set_option linter.unusedSimpArgs false
namespace Go.Proofs.YtoalnjpeblgkbabGreatDoor.Ev
section
variable {P : Program} {r : Rho} {n : Nat} {tm : Tr AV} {a : Act} {w : World} {o : Oper} {hp : Hp} {nx : Nat}
theorem runR_ok {α:Type} {e:Option α} {f:α→R} (h:∀ x,e=some x→ResOk P o a r w (f x)):ResOk P o a r w (runR e f):=by
 cases e with
 | none=>exact trivial
 | some x=>exact h x rfl
theorem sel_R {c:Bool} {x y:R} (h1:c=true→ResOk P o a r w x) (h2:c=false→ResOk P o a r w y):ResOk P o a r w (sel c x y):=by
 cases c with
 | true=>exact h1 rfl
 | false=>exact h2 rfl
theorem iterB_ok {h:H} (g:Gam h r w) {b:Nat} {q:List Nat×Nat} (hb:bnd (h b) iterB=some q):∃ x s,h b=some (.iter q.1 q.2)∧r b=some x∧w.heap[x.blk]?=some (.stringIter s q.2)∧s.data.toList.map UInt8.toNat=q.1∧x.ro=false∧x.sh=0:=by
 obtain⟨k,h1,h2⟩:=bnd_some hb
 cases k with
 | cells _ _ _ _=>exact absurd h2 (by simp[iterB])
 | map _ _=>exact absurd h2 (by simp[iterB])
 | iter s p =>
  injection h2 with h2;subst h2
  obtain⟨x,h3,s,h4,h5,h6,h7⟩:=g.blk b _ h1
  exact⟨x,s,h1,h3,h4,h5,h6,h7⟩
theorem next_ok (ht:TmOk r n tm a) (hg:Glob P r) (g:Gam (getB hp) r w) (hf:Fresh nx r) {x:Operand} {is:Bool} (ho:o.op=.next x is) :
  ResOk P o a r w (runR (bnd (opnd P x tm) asPtr) fun p=>runR (bnd (getB hp p.1) iterB) fun q=>sel (and is (Nat.beq p.2 0)) (nextB hp nx p.1 q.1 q.2) .no):=by
 refine runR_ok fun p h1=>runR_ok fun q h2=>sel_R (fun h3=>?_) fun _=>trivial
 obtain⟨b,h4,h5⟩:=bnd_some h1
 have:=asPtr_some h5;subst this
 obtain⟨his,h6⟩:=and2 h3
 have h0:=beq_eq h6
 obtain⟨y,s,g0,g1,g2,g3,g4,g5⟩:=iterB_ok g h2
 obtain⟨y',e1,e2⟩:=rel_ptr.1 (opnd_ok ht hg h4)
 rw[g1] at e1;injection e1 with e1;subst e1
 subst his
 rw[g5,h0] at e2
 have hobj:(getObj y.blk).run P w=.ok (.stringIter s q.2) w:=by simp[getObj,Sem.run,g2]
 unfold nextB
 rw[nth_eq,← g3,List.getElem?_map]
 cases hc:s.data.toList[q.2]? with
 | none =>
  refine⟨.tuple #[.bool false],w,r,.inl ?_,rel_tuple.2 ⟨_,rfl,Rels_cons.2 ⟨_,_,rfl,rel_bool.2 rfl,Rels_nil.2 rfl⟩⟩,Ext.refl _ _,Fr.refl _ _,g,hf⟩
  have hlt:¬ q.2<s.size:=by
   have:=List.getElem?_eq_none_iff.1 hc
   rw[Array.length_toList] at this
   show ¬ q.2<s.data.size
   omega
  have:(Instr.next (.pointer (some ⟨y.blk,0,none⟩)) true o.type).run P w=.ok (.tuple #[.bool false]) w:=by
   simp only[Instr.next,Sem.run_bind,hobj,Result.andThen_ok,if_neg hlt];rfl
  simp[execOp,ho,e2,this]
 | some c =>
  simp only[Option.map_some]
  refine sel_R (fun h7=>?_) fun _=>trivial
  have h7:=blt_lt h7
  have hlt:q.2<s.size:=by
   have:=(List.getElem?_eq_some_iff.1 hc).1
   rw[Array.length_toList] at this
   exact this
  have hcc : s[q.2]'hlt = c := by
   have:=(List.getElem?_eq_some_iff.1 hc).2
   rw[← this]
   simp only[Array.getElem_toList]
   rfl
  have hdec:=decode_ascii s q.2 hlt (by rw[hcc];exact h7)
  rw[hcc] at hdec
  have hrun:(Instr.next (.pointer (some ⟨y.blk,0,none⟩)) true o.type).run P w=.ok (.tuple #[.bool true,.int .i64 (q.2:Int),.int .i32 (c.toNat:Int)]) (setObjW w y.blk (.stringIter s (q.2+1))):=by
   have hset:(setObj y.blk (.stringIter s (q.2+1))).run P w=.ok () (setObjW w y.blk (.stringIter s (q.2+1))):=by simp[setObj,Sem.run,g2,setObjW]
   simp only[Instr.next,Sem.run_bind,hobj,Result.andThen_ok,if_pos hlt,hdec,hset];rfl
  refine⟨.tuple #[.bool true,.int .i64 (q.2:Int),.int .i32 (c.toNat:Int)],setObjW w y.blk (.stringIter s (q.2+1)),r,.inl (by simp[execOp,ho,e2,hrun]),rel_tuple.2 ⟨_,rfl,Rels_cons.2 ⟨_,_,rfl,rel_bool.2 rfl,Rels_cons.2 ⟨_,_,rfl,rel_int.2 rfl,Rels_cons.2 ⟨_,_,rfl,rel_int.2 rfl,Rels_nil.2 rfl⟩⟩⟩⟩,
   Ext.refl _ _,Fr.turn g1 g4 rfl rfl rfl (fun i hi=>heap_setObj_other _ _ hi) (by simp[setObjW]),?_,hf⟩
  refine g.turn (n:=p.1) g0 rfl g1 (k':=.iter (s.data.toList.map UInt8.toNat) (Nat.succ q.2)) (by rw[getB_setB,if_pos rfl]) (fun b' j hb hj=>?_) ?_ (fun i hi=>heap_setObj_other _ _ hi) (by simp[setObjW])
  ·rw[getB_setB,if_neg hb] at hj;exact⟨hj,by simp[Blk.shares]⟩
  ·exact⟨s,heap_setObj_same _ (g.real _ _ g1),rfl,g4,g5⟩
theorem exec_builtin {b:Builtin} {xs:Array Operand} {ts:Array TypeId} (ho:o.op=.call ⟨.builtin b,xs,ts⟩) :
  (execOp a.eval o).run P w=(builtin b ts o.type (xs.map fun | .const _=>true | _=>false) (xs.map a.eval)).run P w:=by
 simp only[execOp,ho,resolve,Sem.run_bind,Sem.run_pure,Result.andThen_ok,invoke]
 rfl
theorem headT_ok {ts:Array TypeId} {t:TypeId} (h:headT ts=some t):ts[0]?=some t:=by
 unfold headT at h
 split at h
 ·injection h with h;subst h;rfl
 ·exact absurd h (by simp)
theorem args2 (ht:TmOk r n tm a) (hg:Glob P r) {xs:Array Operand} {u v:AV} (h:opnds P tm xs.toList=some [u,v]):∃ x y,xs.map a.eval=#[x,y]∧Rel r u x∧Rel r v y:=by
 have:=opnds_ok ht hg h
 obtain⟨x,l,e1,e2,e3⟩:=Rels_cons.1 this
 obtain⟨y,l',e4,e5,e6⟩:=Rels_cons.1 e3
 have:=Rels_nil.1 e6
 subst this;subst e4
 refine⟨x,y,?_,e2,e5⟩
 rw[← Array.toList_inj,Array.toList_map,e1]
theorem args1 (ht:TmOk r n tm a) (hg:Glob P r) {xs:Array Operand} {u:AV} (h:opnds P tm xs.toList=some [u]):∃ x,xs.map a.eval=#[x]∧Rel r u x:=by
 have:=opnds_ok ht hg h
 obtain⟨x,l,e1,e2,e3⟩:=Rels_cons.1 this
 have:=Rels_nil.1 e3
 subst this
 refine⟨x,?_,e2⟩
 rw[← Array.toList_inj,Array.toList_map,e1]
theorem arg2_ok {f:AV→AV→R} {vs:List AV} (h:∀ x y,vs=[x,y]→ResOk P o a r w (f x y)):ResOk P o a r w (arg2 f vs):=by
 unfold arg2;split
 ·exact h _ _ rfl
 ·exact trivial
theorem arg1_ok {f:AV→R} {vs:List AV} (h:∀ x,vs=[x]→ResOk P o a r w (f x)):ResOk P o a r w (arg1 f vs):=by
 unfold arg1;split
 ·exact h _ rfl
 ·exact trivial
theorem lenOf_ok {v:AV} {m:Nat} (h:lenOf v=some m) {u:Value} (hu:Rel r v u):∃ A c,u=.slice A m c∧(A=none→m=0∧c=0):=by
 cases v with
 | slice b off len cap ex=>injection (show some len=some m from h) with h;subst h;obtain⟨x,p,_,e,_⟩:=rel_slice.1 hu;exact⟨_,_,e,fun h=>absurd h (by simp)⟩
 | nilSlice=>injection (show some 0=some m from h) with h;subst h;exact⟨none,0,rel_nilSlice.1 hu,fun _=>⟨rfl,rfl⟩⟩
 | _=>exact absurd h (by simp[lenOf])
theorem len_ok (ht:TmOk r n tm a) (hg:Glob P r) (g:Gam (getB hp) r w) {xs:Array Operand} {ts:Array TypeId} (ho:o.op=.call ⟨.builtin .len,xs,ts⟩) {k:LK} (hk:lenKind P ts=some k)
  {x v:AV} (hx:opnds P tm xs.toList=some [x]) (h:bnd (lenP k x hp) (fun m=>some (.int .i64 (Int.ofNat m)))=some v):Owes P o a r w v:=by
 obtain⟨m,h1,h2⟩:=bnd_some h
 injection h2 with h2;subst h2
 obtain⟨u,e1,e2⟩:=args1 ht hg hx
 obtain⟨t,h3,h4⟩:=bnd_some hk
 have ht0:=headT_ok h3
 refine⟨.int .i64 (m:Int),?_,rel_int.2 rfl⟩
 rw[exec_builtin ho,e1]
 have key:(Builtin.len_ ts o.type #[u]).run P w=.ok (.int .i64 (m:Int)) w→(builtin .len ts o.type (xs.map fun | .const _=>true | _=>false) #[u]).run P w=.ok (.value (.int .i64 (m:Int))) w:=fun h=>by
  simp only[builtin,Sem.run_bind,h,Result.andThen_ok,Sem.run_pure]
 refine key ?_
 split at h4
 ·rename_i hu;injection h4 with h4;subst h4
  obtain⟨s,h5,h6⟩:=bnd_some (show bnd (asStr x) _=some m from h1)
  injection h6 with h6;subst h6
  have:=asStr_some h5;subst this
  obtain⟨y,e3,e4⟩:=rel_str.1 e2
  subst e4;subst e3
  have:lenL (y.data.toList.map UInt8.toNat)=y.size:=by rw[lenL_eq,List.length_map,Array.length_toList];rfl
  simp[Builtin.len_,ht0,run_underlying hu,goInt,this]
 ·rename_i e hu;injection h4 with h4;subst h4
  obtain⟨A,c,e3,_⟩:=lenOf_ok (show lenOf x=some m from h1) e2
  subst e3
  simp[Builtin.len_,ht0,run_underlying hu,goInt]
 ·rename_i k e hu;injection h4 with h4;subst h4
  obtain⟨es,h5,h6⟩:=bnd_some (show bnd (entries hp x) _=some m from h1)
  injection h6 with h6;subst h6
  rcases entries_ok g h5 e2 with ⟨e3,e4⟩ | ⟨y,mm,c,e3,e4,e5⟩
  ·subst e3;subst e4;simp[Builtin.len_,ht0,run_underlying hu,goInt,lenL]
  ·subst e3
   have:lenL es=mm.size:=by rw[lenL_eq,← e5.1];simp
   simp[Builtin.len_,ht0,run_underlying hu,goInt,run_getObj_map e4,this]
 ·exact absurd h4 (by simp)
theorem cap_ok (ht:TmOk r n tm a) (hg:Glob P r) {xs:Array Operand} {ts:Array TypeId} (ho:o.op=.call ⟨.builtin .cap,xs,ts⟩) {e:Nat×List AV} (hk:bnd (headT ts) (elemZero P)=some e)
  {x v:AV} (hx:opnds P tm xs.toList=some [x]) (h:bnd (capP x) (fun m=>some (.int .i64 (Int.ofNat m)))=some v):Owes P o a r w v:=by
 obtain⟨m,h1,h2⟩:=bnd_some h
 injection h2 with h2;subst h2
 obtain⟨u,e1,e2⟩:=args1 ht hg hx
 obtain⟨t,h3,h4⟩:=bnd_some hk
 have ht0:=headT_ok h3
 obtain⟨el,i,_,_,hu,_⟩:=elemZero_ok h4
 refine⟨.int .i64 (m:Int),?_,rel_int.2 rfl⟩
 rw[exec_builtin ho,e1]
 have:(Builtin.cap_ ts o.type #[u]).run P w=.ok (.int .i64 (m:Int)) w:=by
  cases x with
  | nilSlice=>injection (show some 0=some m from h1) with h1;subst h1;have:=rel_nilSlice.1 e2;subst this;simp[Builtin.cap_,ht0,run_underlying hu,goInt]
  | slice b off len cap ex =>
   cases ex with
   | false=>exact absurd h1 (by simp[capP])
   | true =>
    injection (show some cap=some m from h1) with h1;subst h1
    obtain⟨y,p,_,e3,_⟩:=rel_slice.1 e2
    subst e3
    simp[Builtin.cap_,ht0,run_underlying hu,goInt]
  | _=>exact absurd h1 (by simp[capP])
 simp only[builtin,Sem.run_bind,this,Result.andThen_ok,Sem.run_pure]
theorem max_ok (ht:TmOk r n tm a) (hg:Glob P r) {xs:Array Operand} {ts:Array TypeId} (ho:o.op=.call ⟨.builtin .max,xs,ts⟩) {x y v:AV} (hx:opnds P tm xs.toList=some [x,y]) (h:maxP x y=some v):Owes P o a r w v:=by
 obtain⟨p,h1,h2⟩:=bnd_some h
 obtain⟨q,h3,h4⟩:=bnd_some h2
 injection h4 with h4;subst h4
 obtain⟨u,z,e1,e2,e3⟩:=args2 ht hg hx
 have:=asInt_some h1;subst this
 have:=asInt_some h3;subst this
 have e4:=rel_int.1 e2;have e5:=rel_int.1 e3
 subst e4;subst e5
 refine⟨.int p.1 (if p.2<q.2 then q.2 else p.2),?_,rel_int.2 ?_⟩
 ·rw[exec_builtin ho,e1]
  simp[builtin,Builtin.max_,Builtin.max2]
 ·rw[iLe_eq]
  by_cases hlt:p.2<q.2
  ·rw[if_pos hlt,show decide (q.2≤p.2)=false by simp;omega];rfl
  ·rw[if_neg hlt,show decide (q.2≤p.2)=true by simp;omega];rfl
theorem min_ok (ht:TmOk r n tm a) (hg:Glob P r) {xs:Array Operand} {ts:Array TypeId} (ho:o.op=.call ⟨.builtin .min,xs,ts⟩) {x y v:AV} (hx:opnds P tm xs.toList=some [x,y]) (h:minP x y=some v):Owes P o a r w v:=by
 obtain⟨p,h1,h2⟩:=bnd_some h
 obtain⟨q,h3,h4⟩:=bnd_some h2
 injection h4 with h4;subst h4
 obtain⟨u,z,e1,e2,e3⟩:=args2 ht hg hx
 have:=asInt_some h1;subst this
 have:=asInt_some h3;subst this
 have e4:=rel_int.1 e2;have e5:=rel_int.1 e3
 subst e4;subst e5
 refine⟨.int p.1 (if q.2<p.2 then q.2 else p.2),?_,rel_int.2 ?_⟩
 ·rw[exec_builtin ho,e1]
  simp[builtin,Builtin.min_,Builtin.min2]
 ·rw[iLe_eq]
  by_cases hlt:q.2<p.2
  ·rw[if_pos hlt,show decide (p.2≤q.2)=false by simp;omega];rfl
  ·rw[if_neg hlt,show decide (p.2≤q.2)=true by simp;omega];rfl
theorem del_at {kk:KK} {d:TypeDesc} (hd:match kk with | .int=>∃ j,d=.int j | .str=>d=.string | .bool=>d=.bool) {k:AV} {u:Value} (hk:Rel r k u) :
  ∀ {es es':List (AV×AV)} {l:List MapEntry} (i:Nat),Ents r es l→delK kk k es=some es' →
   (Instr.findNow d u l i=some none∧es'=es)∨∃ p x,p<l.length∧Instr.findNow d u l i=some (some (i+p,x))∧es'=es.eraseIdx p:=by
 intro es
 induction es with
 | nil =>
  intro es' l i he h
  injection (show some []=some es' from h) with h;subst h
  have:l=[]:=List.eq_nil_of_length_eq_zero he.1
  subst this;exact .inl ⟨rfl,rfl⟩
 | cons e es ih =>
  intro es' l i he h
  obtain⟨m,ms,rfl,h1,h2,h3⟩:=Ents_cons he
  obtain⟨t,h4,h5⟩:=bnd_some (show bnd (keyEq kk k e.1) (fun t=>sel t (some es) (bnd (delK kk k es) fun l=>some (e :: l)))=some es' from h)
  have h6:=keyEq_ok hd h4 hk h1
  cases t with
  | true =>
   injection (show some es=some es' from h5) with h5;subst h5
   exact .inr ⟨0,m.val,by simp,by unfold Instr.findNow;rw[h6];rfl,rfl⟩
  | false =>
   obtain⟨l',h7,h8⟩:=bnd_some (show bnd (delK kk k es) (fun l=>some (e :: l))=some es' from h5)
   injection h8 with h8;subst h8
   rcases ih (i+1) h3 h7 with ⟨g1,g2⟩ | ⟨p,x,g0,g1,g2⟩
   ·exact .inl ⟨by unfold Instr.findNow;rw[h6];exact g1,by rw[g2]⟩
   ·exact .inr ⟨p+1,x,by simpa using g0,by unfold Instr.findNow;rw[h6,show i+(p+1)=i+1+p by omega];exact g1,by rw[g2];rfl⟩
theorem delete_ok (ht:TmOk r n tm a) (hg:Glob P r) (g:Gam (getB hp) r w) (hf:Fresh nx r) {xs:Array Operand} {ts:Array TypeId} (ho:o.op=.call ⟨.builtin .delete,xs,ts⟩) {vs:List AV} (hx:opnds P tm xs.toList=some vs) :
  ResOk P o a r w (xbDelete P ts vs hp nx):=by
 refine runR_ok fun z h1=>arg2_ok fun m k hv=>runR_ok fun b h2=>runR_ok fun es h3=>runR_ok fun q h4=>runR_ok fun es' h5=>?_
 subst hv
 obtain⟨t,h6,h7⟩:=bnd_some h1
 have ht0:=headT_ok h6
 obtain⟨M⟩:=mapKind_ok h7
 obtain⟨u,uk,e1,e2,e3⟩:=args2 ht hg hx
 have:=asMap_some h2;subst this
 obtain⟨y,f1,f2⟩:=rel_map.1 e2
 obtain⟨x,mm,c,d0,d1,d2,d3,d4⟩:=ownMap_ok g h3
 rw[f1] at d1;injection d1 with d1;subst d1
 subst f2
 have key:∀ {w'},(Builtin.delete_ ts o.type #[.map (some y.blk),uk]).run P w=.ok (.tuple #[]) w'→(execOp a.eval o).run P w=.ok (.value (.tuple #[])) w':=fun h=>by
  rw[exec_builtin ho,e1]
  simp only[builtin,Sem.run_bind,h,Result.andThen_ok,Sem.run_pure]
 rcases del_at M.hd e3 0 d3 h5 with ⟨g1,g2⟩ | ⟨p,uu,g0,g1,g2⟩
 ·subst g2
  obtain⟨k1,k2⟩:=map_turn g (es':=es') d0 f1 d4 mm c d3
  refine⟨_,_,r,.inl (key ?_),rel_undef,Ext.refl _ _,k2,k1,hf⟩
  simp only[Builtin.delete_,ht0,List.getElem?_toArray,List.getElem?_cons_zero,List.getElem?_cons_succ,Sem.run_bind,run_underlying M.hu,Result.andThen_ok,run_getObj_map d2,run_checkKey M.hd M.hk _ 9999,Instr.findKey,
   run_underlying M.hk,g1,Sem.run_pure,run_setObj_map d2]
 ·simp only[Nat.zero_add] at g1
  obtain⟨k1,k2⟩:=map_turn g (es':=es') d0 f1 d4 (mm.eraseIdxIfInBounds p) c (by
   have hps:p<mm.size:=by simpa using g0
   have hel:(mm.eraseIdxIfInBounds p).toList=mm.toList.eraseIdx p:=by
    simp[Array.eraseIdxIfInBounds,hps]
   rw[g2,hel]
   refine⟨by rw[List.length_eraseIdx,List.length_eraseIdx,d3.1],fun i e he=>?_⟩
   rw[List.getElem?_eraseIdx] at he ⊢
   split at he
   ·rename_i hi;rw[if_pos hi];exact d3.2 _ _ he
   ·rename_i hi;rw[if_neg hi];exact d3.2 _ _ he)
  refine⟨_,_,r,.inl (key ?_),rel_undef,Ext.refl _ _,k2,k1,hf⟩
  simp only[Builtin.delete_,ht0,List.getElem?_toArray,List.getElem?_cons_zero,List.getElem?_cons_succ,Sem.run_bind,run_underlying M.hu,Result.andThen_ok,run_getObj_map d2,run_checkKey M.hd M.hk _ 9999,Instr.findKey,
   run_underlying M.hk,g1,Sem.run_pure,run_setObj_map d2]
end
end Go.Proofs.YtoalnjpeblgkbabGreatDoor.Ev
