/- The evaluator: operations that look at no memory, the third part. -/
import Derived.Test.YtdmelebgdaiinaaGreatDoorJ5
set_option linter.unusedVariables false
set_option linter.unusedSimpArgs false
set_option linter.unusedVariables false
set_option linter.unusedSimpArgs false
namespace Go.Proofs.YtdmelebgdaiinaaGreatDoor.Ev
section
variable {P : Program} {r : Rho} {n : Nat} {tm : Tr AV} {a : Act} {w : World} {o : Oper} {v : AV}
theorem sizeOf_ok {t:TypeId} {s:Nat} (h:sizeOf? P t=some s):∃ i,P.info? t=some i∧i.size=s:=by
 unfold sizeOf? at h
 split at h
 ·rename_i i hi;injection h with h;exact⟨i,hi,h⟩
 ·exact absurd h (by simp)
theorem zero_ok {t:TypeId} {z:AV} (h:zero? P t=some z):∃ i u,P.info? t=some i∧i.zero=some u∧avOf u=some z:=by
 unfold zero? at h
 split at h
 ·rename_i i hi
  split at h
  ·rename_i u hu;exact⟨i,u,hi,hu,h⟩
  ·exact absurd h (by simp)
 ·exact absurd h (by simp)
theorem run_size {t:TypeId} {i:TypeInfo} (h:P.info? t=some i) (w:World):(sizeOf t).run P w=.ok i.size w:=by simp[sizeOf,typeInfo,h]
theorem run_zero {t:TypeId} {i:TypeInfo} {u:Value} (h:P.info? t=some i) (hu:i.zero=some u) (w:World):(zeroValue t).run P w=.ok u w:=by simp[zeroValue,typeInfo,h,hu]
theorem aggSize_ok {t:TypeId} {s:Option Nat} (h:aggSize P t=some s) :
  (∃ m i,s=some m∧(∀ w,(isAgg t).run P w=.ok true w)∧P.info? t=some i∧i.size=m)∨(s=none∧∀ w,(isAgg t).run P w=.ok false w):=by
 unfold aggSize at h
 have key:∀ b,isAgg? P t=some b→∀ w,(isAgg t).run P w=.ok b w:=by
  intro b hb w
  unfold isAgg? at hb
  split at hb <;> first | (injection hb with hb;subst hb;rename_i hu;simp[isAgg,run_underlying hu]) | (injection hb with hb;subst hb;rename_i d hu1 hu2 hu;simp only[isAgg,Sem.run_bind,run_underlying hu,Result.andThen_ok];split <;> simp_all) | exact absurd hb (by simp)
 split at h
 ·rename_i hb
  split at h
  ·rename_i m hm;injection h with h;subst h
   obtain⟨i,h1,h2⟩:=sizeOf_ok hm
   exact .inl ⟨m,i,rfl,key _ hb,h1,h2⟩
  ·exact absurd h (by simp)
 ·rename_i hb;injection h with h;subst h;exact .inr ⟨rfl,key _ hb⟩
 ·exact absurd h (by simp)
theorem part_ok {t:TypeId} {s:Option Nat} (h:aggSize P t=some s) {cs:List AV} {off:Nat} {v:AV} (hv:rowOf cs off s=some v) {c:Array Value} (hc:Rels r cs c.toList) (w:World) :
  ∃ x,(part t c off).run P w=.ok x w∧Rel r v x:=by
 rcases aggSize_ok h with ⟨m,i,rfl,h1,h2,h3⟩ | ⟨rfl,h1⟩
 ·obtain⟨l,h4,h5⟩:=bnd_some (show bnd (takeN m (dropN cs off)) (fun l=>some (AV.agg l))=some v from hv)
  injection h5 with h5;subst h5
  obtain⟨h6,h7⟩:=takeN_some h4
  rw[dropN_eq] at h6 h7
  refine⟨.agg (c.extract off (off+m)),by simp[part,h1,run_size h2,h3],rel_agg.2 ⟨_,rfl,?_⟩⟩
  subst h7
  have:(c.extract off (off+m)).toList=(c.toList.drop off).take m:=by simp[Array.toList_extract,List.extract_eq_take_drop]
  rw[this]
  exact (hc.drop off).take m
 ·have h2:cs[off]?=some v:=by rw[← nth_eq];exact hv
  obtain⟨u,h3,h4⟩:=hc.get h2
  refine⟨u,?_,h4⟩
  have:c[off]?=some u:=by rw[← h3];simp
  simp[part,h1,this]
theorem un_ok (ht:TmOk r n tm a) (hg:Glob P r) {op:UnOp} {t:TypeId} {x:Operand} (ho:o.op=.unOp op t x) (h:bnd (opnd P x tm) (unP op)=some v):Owes P o a r w v:=by
 obtain⟨b,h1,h2⟩:=bnd_some h
 have hb:=opnd_ok ht hg h1
 cases b with
 | bool q =>
  cases op <;> simp[unP] at h2
  subst h2
  have:=rel_bool.1 hb
  exact⟨.bool (!q),by simp[execOp,ho,this,Op.unary],rel_bool.2 rfl⟩
 | int k i =>
  obtain⟨z,h3,h4⟩:=valOf_ok (show valOf (Op.unary op (.int k i))=some v from h2) P w
  have:=rel_int.1 hb
  exact⟨z,by simp[execOp,ho,this,h3],h4 r⟩
 | _=>exact absurd h2 (by simp[unP])
theorem convKind_ok {s d:TypeId} {k:CK} (h:convKind P s d=some k) :
  match k with
  | .int k=>(∃ j,P.underlying s=some (.int j))∧P.underlying d=some (.int k)
  | .same=>P.underlying s=some .string∧P.underlying d=some .string
  | .chr=>(∃ j,P.underlying s=some (.int j))∧P.underlying d=some .string:=by
 unfold convKind at h
 split at h <;> first | (injection h with h;subst h;rename_i h1 h2;first | exact⟨⟨_,h1⟩,h2⟩ | exact⟨h1,h2⟩) | exact absurd h (by simp)
theorem conv_ok (ht:TmOk r n tm a) (hg:Glob P r) {s d:TypeId} {x:Operand} (ho:o.op=.convert s d x) (h:bnd (convKind P s d) (fun k=>bnd (opnd P x tm) fun v=>convP k v)=some v):Owes P o a r w v:=by
 obtain⟨k,h1,h2⟩:=bnd_some h
 obtain⟨b,h3,h4⟩:=bnd_some h2
 have hb:=opnd_ok ht hg h3
 have hk:=convKind_ok h1
 cases k with
 | int k =>
  obtain⟨⟨j,hs⟩,hd⟩:=hk
  obtain⟨p,h5,h6⟩:=bnd_some (show bnd (asInt b) (fun p=>some (AV.int k (k.wrap p.2)))=some v from h4)
  injection h6 with h6;subst h6
  have:=asInt_some h5;subst this
  have e:=rel_int.1 hb
  exact⟨.int k (k.wrap p.2),by simp[execOp,ho,e,convert,run_underlying hs,run_underlying hd,Conv.intToInt],rel_int.2 rfl⟩
 | same =>
  obtain⟨hs,hd⟩:=hk
  obtain⟨p,h5,h6⟩:=bnd_some (show bnd (asStr b) (fun p=>some (AV.str p))=some v from h4)
  injection h6 with h6;subst h6
  have:=asStr_some h5;subst this
  obtain⟨y,e1,e2⟩:=rel_str.1 hb
  exact⟨.string y,by simp[execOp,ho,e1,convert,run_underlying hs,run_underlying hd],rel_str.2 ⟨y,rfl,e2⟩⟩
 | chr =>
  obtain⟨⟨j,hs⟩,hd⟩:=hk
  obtain⟨p,h5,h6⟩:=bnd_some (show bnd (asInt b) (fun p=>valOf (Conv.intToString p.2))=some v from h4)
  have:=asInt_some h5;subst this
  have e:=rel_int.1 hb
  obtain⟨z,h7,h8⟩:=valOf_ok h6 P w
  exact⟨z,by simp[execOp,ho,e,convert,run_underlying hs,run_underlying hd,h7],h8 r⟩
theorem ifaceOk_ok {t:TypeId} (h:ifaceOk P t=true):∃ d,P.underlying t=some d∧∀ m,d≠.interface m:=by
 unfold ifaceOk at h
 split at h
 ·exact absurd h (by decide)
 ·rename_i d hn hd;exact⟨d,hd,fun m e=>hn m e⟩
 ·exact absurd h (by decide)
theorem iface_ok (ht:TmOk r n tm a) (hg:Glob P r) {t:TypeId} {x:Operand} (ho:o.op=.makeInterface t x) (h:sel (ifaceOk P t) (bnd (opnd P x tm) fun v=>some (.iface t v)) none=some v):Owes P o a r w v:=by
 obtain⟨h1,h2⟩:=sel_none h
 obtain⟨b,h3,h4⟩:=bnd_some h2
 injection h4 with h4;subst h4
 obtain⟨d,hd,hn⟩:=ifaceOk_ok h1
 refine⟨.iface t (a.eval x),?_,rel_iface.2 ⟨_,rfl,opnd_ok ht hg h3⟩⟩
 have:(Instr.makeInterface t (a.eval x)).run P w=.ok (.iface t (a.eval x)) w:=by
  simp only[Instr.makeInterface,Sem.run_bind,run_underlying hd,Result.andThen_ok]
  cases d <;> first | exact absurd rfl (hn _) | rfl
 simp[execOp,ho,this]
theorem func_ok (ht:TmOk r n tm a) (hg:Glob P r) {f:FuncId} {x y:Array Operand} (ho:o.op=.makeFunc (.func f) x y)
  (h:bnd (opnds P tm x.toList) (fun a=>bnd (opnds P tm y.toList) fun b=>some (AV.func f a b))=some v):Owes P o a r w v:=by
 obtain⟨p,h1,h2⟩:=bnd_some h
 obtain⟨q,h3,h4⟩:=bnd_some h2
 injection h4 with h4;subst h4
 refine⟨.func (.func f) (x.map a.eval) (y.map a.eval),by simp[execOp,ho,Instr.makeFunc],rel_func.2 ⟨_,_,rfl,?_,?_⟩⟩
 ·rw[Array.toList_map];exact opnds_ok ht hg h1
 ·rw[Array.toList_map];exact opnds_ok ht hg h3
theorem structOf_ok {t:TypeId} {fs:Array Field} (h:structOf P t=some fs):P.underlying t=some (.struct fs):=by
 unfold structOf at h
 split at h
 ·rename_i q hq;injection h with h;subst h;exact hq
 ·exact absurd h (by simp)
theorem fieldAddr_ok (ht:TmOk r n tm a) (hg:Glob P r) {s:TypeId} {x:Operand} {f:Nat} (ho:o.op=.fieldAddr s x f)
  (h:bnd (fieldOff P s f) (fun d=>bnd (bnd (opnd P x tm) asPtr) fun p=>some (.ptr p.1 (p.2+d)))=some v):Owes P o a r w v:=by
 obtain⟨d,h1,h2⟩:=bnd_some h
 obtain⟨p,h3,h4⟩:=bnd_some h2
 injection h4 with h4;subst h4
 obtain⟨b,h5,h6⟩:=bnd_some h3
 have:=asPtr_some h6;subst this
 obtain⟨fs,h7,h8⟩:=bnd_some h1
 obtain⟨g,h9,h10⟩:=bnd_some h8
 obtain⟨sz,h11,h12⟩:=bnd_some h10
 obtain⟨h13,h14⟩:=sel_none' h12
 injection h14 with h14;subst h14
 obtain⟨i,h15,h16⟩:=sizeOf_ok h11
 obtain⟨y,e1,e2⟩:=rel_ptr.1 (opnd_ok ht hg h5)
 have hz:i.size≠0:=fun e=>by rw[h16] at e;subst e;exact absurd h13 (by decide)
 refine⟨.pointer (some ⟨y.blk,y.sh+(p.2+g.offset),none⟩),?_,rel_ptr.2 ⟨y,e1,rfl⟩⟩
 have hadd:(⟨y.blk,y.sh+p.2,none⟩ : Addr).add g.offset=⟨y.blk,y.sh+(p.2+g.offset),none⟩:=by
  unfold Addr.add;split
  ·rename_i h0;simp[h0]
  ·simp[Nat.add_assoc]
 simp[execOp,ho,e2,Instr.fieldAt,run_underlying (structOf_ok h7),h9,Instr.sureAddr,fieldPlace,run_size h15,hz,hadd]
theorem field_ok (ht:TmOk r n tm a) (hg:Glob P r) {s:TypeId} {x:Operand} {f:Nat} (ho:o.op=.field s x f)
  (h:bnd (fieldPart P s f) (fun d=>bnd (bnd (opnd P x tm) asAgg) fun l=>rowOf l d.1 d.2)=some v):Owes P o a r w v:=by
 obtain⟨d,h1,h2⟩:=bnd_some h
 obtain⟨l,h3,h4⟩:=bnd_some h2
 obtain⟨b,h5,h6⟩:=bnd_some h3
 have:=asAgg_some h6;subst this
 obtain⟨fs,h7,h8⟩:=bnd_some h1
 obtain⟨g,h9,h10⟩:=bnd_some h8
 obtain⟨sz,h11,h12⟩:=bnd_some h10
 injection h12 with h12;subst h12
 obtain⟨c,e1,e2⟩:=rel_agg.1 (opnd_ok ht hg h5)
 obtain⟨z,h13,h14⟩:=part_ok h11 h4 e2 w
 exact⟨z,by simp[execOp,ho,e1,Instr.field,run_underlying (structOf_ok h7),h9,Go.asAgg,h13],h14⟩
theorem extract_ok (ht:TmOk r n tm a) (hg:Glob P r) {x:Operand} {i:Nat} (ho:o.op=.extract x i) (h:bnd (bnd (opnd P x tm) asTuple) (fun l=>nth l i)=some v):Owes P o a r w v:=by
 obtain⟨l,h1,h2⟩:=bnd_some h
 obtain⟨b,h3,h4⟩:=bnd_some h1
 have:=asTuple_some h4;subst this
 rw[nth_eq] at h2
 obtain⟨c,e1,e2⟩:=rel_tuple.1 (opnd_ok ht hg h3)
 obtain⟨u,h5,h6⟩:=e2.get h2
 have:c[i]?=some u:=by rw[← h5];simp
 exact⟨u,by simp[execOp,ho,e1,Instr.extract,this],h6⟩
theorem assert_ok (ht:TmOk r n tm a) (hg:Glob P r) {x:Operand} {t' t:TypeId} {ok:Bool} (ho:o.op=.typeAssert x t' t ok) (h:sel (ifaceOk P t) (bnd (opnd P x tm) (assertP P t ok)) none=some v):Owes P o a r w v:=by
 obtain⟨h1,h2⟩:=sel_none h
 obtain⟨b,h3,h4⟩:=bnd_some h2
 obtain⟨d,hd,hn⟩:=ifaceOk_ok h1
 have hb:=opnd_ok ht hg h3
 have fails:∀ {v:AV},sel ok (bnd (zero? P t) fun z=>some (.tuple [z,.bool false])) none=some v→∃ z,zero? P t=some z∧ok=true∧v=.tuple [z,.bool false]:=by
  intro v h
  obtain⟨h5,h6⟩:=sel_none h
  obtain⟨z,h7,h8⟩:=bnd_some h6
  injection h8 with h8
  exact⟨z,h7,h5,h8.symm⟩
 cases b with
 | iface u q =>
  obtain⟨y,e1,e2⟩:=rel_iface.1 hb
  simp only[assertP] at h4
  cases hu:Nat.beq u t with
  | true =>
   have:=beq_eq hu;subst this
   rw[hu] at h4
   cases ok with
   | true =>
    injection (show some _=some v from h4) with h4;subst h4
    refine⟨.tuple #[y,.bool true],?_,rel_tuple.2 ⟨_,rfl,Rels_cons.2 ⟨_,_,rfl,e2,Rels_cons.2 ⟨_,_,rfl,rel_bool.2 rfl,Rels_nil.2 rfl⟩⟩⟩⟩
    have:(Instr.typeAssert (.iface u y) t' u true).run P w=.ok (.tuple #[y,.bool true]) w:=by
     simp only[Instr.typeAssert,Sem.run_bind,run_underlying hd,Result.andThen_ok]
     cases d <;> first | exact absurd rfl (hn _) | simp
    simp[execOp,ho,e1,this]
   | false =>
    injection (show some _=some v from h4) with h4;subst h4
    refine⟨y,?_,e2⟩
    have:(Instr.typeAssert (.iface u y) t' u false).run P w=.ok y w:=by
     simp only[Instr.typeAssert,Sem.run_bind,run_underlying hd,Result.andThen_ok]
     cases d <;> first | exact absurd rfl (hn _) | simp
    simp[execOp,ho,e1,this]
  | false =>
   rw[hu] at h4
   obtain⟨z,h5,rfl,rfl⟩:=fails h4
   obtain⟨i,q',h7,h8,h9⟩:=zero_ok h5
   have hne:¬ u=t:=fun e=>by subst e;rw[Nat.beq_refl] at hu;exact absurd hu (by decide)
   refine⟨.tuple #[q',.bool false],?_,rel_tuple.2 ⟨_,rfl,Rels_cons.2 ⟨_,_,rfl,rel_avOf _ _ h9,Rels_cons.2 ⟨_,_,rfl,rel_bool.2 rfl,Rels_nil.2 rfl⟩⟩⟩⟩
   have:(Instr.typeAssert (.iface u y) t' t true).run P w=.ok (.tuple #[q',.bool false]) w:=by
    simp only[Instr.typeAssert,Sem.run_bind,run_underlying hd,Result.andThen_ok]
    cases d <;> first | exact absurd rfl (hn _) | simp[hne,run_zero h7 h8]
   simp[execOp,ho,e1,this]
 | nilIface =>
  have e1:=rel_nilIface.1 hb
  obtain⟨z,h5,rfl,rfl⟩:=fails h4
  obtain⟨i,q',h7,h8,h9⟩:=zero_ok h5
  refine⟨.tuple #[q',.bool false],?_,rel_tuple.2 ⟨_,rfl,Rels_cons.2 ⟨_,_,rfl,rel_avOf _ _ h9,Rels_cons.2 ⟨_,_,rfl,rel_bool.2 rfl,Rels_nil.2 rfl⟩⟩⟩⟩
  have:(Instr.typeAssert .nilIface t' t true).run P w=.ok (.tuple #[q',.bool false]) w:=by
   simp only[Instr.typeAssert,Sem.run_bind,run_underlying hd,Result.andThen_ok]
   cases d <;> first | exact absurd rfl (hn _) | simp[run_zero h7 h8]
  simp[execOp,ho,e1,this]
 | _=>exact absurd h4 (by simp[assertP])
end
end Go.Proofs.YtdmelebgdaiinaaGreatDoor.Ev
