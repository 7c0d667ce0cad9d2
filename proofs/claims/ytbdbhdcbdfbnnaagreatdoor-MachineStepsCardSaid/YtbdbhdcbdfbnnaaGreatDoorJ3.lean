/- The evaluator: operations that look at no memory, the third part. The evaluator: operations that look at no memory, the last part: slices of slices, places of elements, structs. The evaluator: places of elements, structs that are built; reads. -/
import Derived.Test.YtbdbhdcbdfbnnaaGreatDoorJ2
set_option linter.unusedVariables false
set_option linter.unusedSimpArgs false
set_option linter.unusedVariables false
set_option linter.unusedSimpArgs false
namespace Go.Proofs.YtbdbhdcbdfbnnaaGreatDoor.Ev
section
variable {P : Program} {r : Rho} {n : Nat} {tm : Tr AV} {a : Act} {w : World} {o : Oper} {v : AV}
theorem sizeOf_ok {t:TypeId} {s:Nat} (h:sizeOf? P t=some s):∃ i,P.info? t=some i∧i.size=s:=by
 unfold sizeOf? at h
 split at h
 ·rename_i i hi;injection h with h;exact⟨i,hi,h⟩
 ·exact absurd h (by simp)
theorem zero_ok {t:TypeId} {z:AV} (h:zero? P t=some z):∃ i u,P.info? t=some i∧i.zero=some u∧avOf u=some z:=by
 unfold zero? at h
 split at h
 ·rename_i i hi
  split at h
  ·rename_i u hu;exact⟨i,u,hi,hu,h⟩
  ·exact absurd h (by simp)
 ·exact absurd h (by simp)
theorem run_size {t:TypeId} {i:TypeInfo} (h:P.info? t=some i) (w:World):(sizeOf t).run P w=.ok i.size w:=by simp[sizeOf,typeInfo,h]
theorem run_zero {t:TypeId} {i:TypeInfo} {u:Value} (h:P.info? t=some i) (hu:i.zero=some u) (w:World):(zeroValue t).run P w=.ok u w:=by simp[zeroValue,typeInfo,h,hu]
theorem aggSize_ok {t:TypeId} {s:Option Nat} (h:aggSize P t=some s) :
  (∃ m i,s=some m∧(∀ w,(isAgg t).run P w=.ok true w)∧P.info? t=some i∧i.size=m)∨(s=none∧∀ w,(isAgg t).run P w=.ok false w):=by
 unfold aggSize at h
 have key:∀ b,isAgg? P t=some b→∀ w,(isAgg t).run P w=.ok b w:=by
  intro b hb w
  unfold isAgg? at hb
  split at hb <;> first | (injection hb with hb;subst hb;rename_i hu;simp[isAgg,run_underlying hu]) | (injection hb with hb;subst hb;rename_i d hu1 hu2 hu;simp only[isAgg,Sem.run_bind,run_underlying hu,Result.andThen_ok];split <;> simp_all) | exact absurd hb (by simp)
 split at h
 ·rename_i hb
  split at h
  ·rename_i m hm;injection h with h;subst h
   obtain⟨i,h1,h2⟩:=sizeOf_ok hm
   exact .inl ⟨m,i,rfl,key _ hb,h1,h2⟩
  ·exact absurd h (by simp)
 ·rename_i hb;injection h with h;subst h;exact .inr ⟨rfl,key _ hb⟩
 ·exact absurd h (by simp)
theorem part_ok {t:TypeId} {s:Option Nat} (h:aggSize P t=some s) {cs:List AV} {off:Nat} {v:AV} (hv:rowOf cs off s=some v) {c:Array Value} (hc:Rels r cs c.toList) (w:World) :
  ∃ x,(part t c off).run P w=.ok x w∧Rel r v x:=by
 rcases aggSize_ok h with ⟨m,i,rfl,h1,h2,h3⟩ | ⟨rfl,h1⟩
 ·obtain⟨l,h4,h5⟩:=bnd_some (show bnd (takeN m (dropN cs off)) (fun l=>some (AV.agg l))=some v from hv)
  injection h5 with h5;subst h5
  obtain⟨h6,h7⟩:=takeN_some h4
  rw[dropN_eq] at h6 h7
  refine⟨.agg (c.extract off (off+m)),by simp[part,h1,run_size h2,h3],rel_agg.2 ⟨_,rfl,?_⟩⟩
  subst h7
  have:(c.extract off (off+m)).toList=(c.toList.drop off).take m:=by simp[Array.toList_extract,List.extract_eq_take_drop]
  rw[this]
  exact (hc.drop off).take m
 ·have h2:cs[off]?=some v:=by rw[← nth_eq];exact hv
  obtain⟨u,h3,h4⟩:=hc.get h2
  refine⟨u,?_,h4⟩
  have:c[off]?=some u:=by rw[← h3];simp
  simp[part,h1,this]
theorem un_ok (ht:TmOk r n tm a) (hg:Glob P r) {op:UnOp} {t:TypeId} {x:Operand} (ho:o.op=.unOp op t x) (h:bnd (opnd P x tm) (unP op)=some v):Owes P o a r w v:=by
 obtain⟨b,h1,h2⟩:=bnd_some h
 have hb:=opnd_ok ht hg h1
 cases b with
 | bool q =>
  cases op <;> simp[unP] at h2
  subst h2
  have:=rel_bool.1 hb
  exact⟨.bool (!q),by simp[execOp,ho,this,Op.unary],rel_bool.2 rfl⟩
 | int k i =>
  obtain⟨z,h3,h4⟩:=valOf_ok (show valOf (Op.unary op (.int k i))=some v from h2) P w
  have:=rel_int.1 hb
  exact⟨z,by simp[execOp,ho,this,h3],h4 r⟩
 | _=>exact absurd h2 (by simp[unP])
theorem convKind_ok {s d:TypeId} {k:CK} (h:convKind P s d=some k) :
  match k with
  | .int k=>(∃ j,P.underlying s=some (.int j))∧P.underlying d=some (.int k)
  | .same=>P.underlying s=some .string∧P.underlying d=some .string
  | .chr=>(∃ j,P.underlying s=some (.int j))∧P.underlying d=some .string:=by
 unfold convKind at h
 split at h <;> first | (injection h with h;subst h;rename_i h1 h2;first | exact⟨⟨_,h1⟩,h2⟩ | exact⟨h1,h2⟩) | exact absurd h (by simp)
theorem conv_ok (ht:TmOk r n tm a) (hg:Glob P r) {s d:TypeId} {x:Operand} (ho:o.op=.convert s d x) (h:bnd (convKind P s d) (fun k=>bnd (opnd P x tm) fun v=>convP k v)=some v):Owes P o a r w v:=by
 obtain⟨k,h1,h2⟩:=bnd_some h
 obtain⟨b,h3,h4⟩:=bnd_some h2
 have hb:=opnd_ok ht hg h3
 have hk:=convKind_ok h1
 cases k with
 | int k =>
  obtain⟨⟨j,hs⟩,hd⟩:=hk
  obtain⟨p,h5,h6⟩:=bnd_some (show bnd (asInt b) (fun p=>some (AV.int k (k.wrap p.2)))=some v from h4)
  injection h6 with h6;subst h6
  have:=asInt_some h5;subst this
  have e:=rel_int.1 hb
  exact⟨.int k (k.wrap p.2),by simp[execOp,ho,e,convert,run_underlying hs,run_underlying hd,Conv.intToInt],rel_int.2 rfl⟩
 | same =>
  obtain⟨hs,hd⟩:=hk
  obtain⟨p,h5,h6⟩:=bnd_some (show bnd (asStr b) (fun p=>some (AV.str p))=some v from h4)
  injection h6 with h6;subst h6
  have:=asStr_some h5;subst this
  obtain⟨y,e1,e2⟩:=rel_str.1 hb
  exact⟨.string y,by simp[execOp,ho,e1,convert,run_underlying hs,run_underlying hd],rel_str.2 ⟨y,rfl,e2⟩⟩
 | chr =>
  obtain⟨⟨j,hs⟩,hd⟩:=hk
  obtain⟨p,h5,h6⟩:=bnd_some (show bnd (asInt b) (fun p=>valOf (Conv.intToString p.2))=some v from h4)
  have:=asInt_some h5;subst this
  have e:=rel_int.1 hb
  obtain⟨z,h7,h8⟩:=valOf_ok h6 P w
  exact⟨z,by simp[execOp,ho,e,convert,run_underlying hs,run_underlying hd,h7],h8 r⟩
theorem ifaceOk_ok {t:TypeId} (h:ifaceOk P t=true):∃ d,P.underlying t=some d∧∀ m,d≠.interface m:=by
 unfold ifaceOk at h
 split at h
 ·exact absurd h (by decide)
 ·rename_i d hn hd;exact⟨d,hd,fun m e=>hn m e⟩
 ·exact absurd h (by decide)
theorem iface_ok (ht:TmOk r n tm a) (hg:Glob P r) {t:TypeId} {x:Operand} (ho:o.op=.makeInterface t x) (h:sel (ifaceOk P t) (bnd (opnd P x tm) fun v=>some (.iface t v)) none=some v):Owes P o a r w v:=by
 obtain⟨h1,h2⟩:=sel_none h
 obtain⟨b,h3,h4⟩:=bnd_some h2
 injection h4 with h4;subst h4
 obtain⟨d,hd,hn⟩:=ifaceOk_ok h1
 refine⟨.iface t (a.eval x),?_,rel_iface.2 ⟨_,rfl,opnd_ok ht hg h3⟩⟩
 have:(Instr.makeInterface t (a.eval x)).run P w=.ok (.iface t (a.eval x)) w:=by
  simp only[Instr.makeInterface,Sem.run_bind,run_underlying hd,Result.andThen_ok]
  cases d <;> first | exact absurd rfl (hn _) | rfl
 simp[execOp,ho,this]
theorem func_ok (ht:TmOk r n tm a) (hg:Glob P r) {f:FuncId} {x y:Array Operand} (ho:o.op=.makeFunc (.func f) x y)
  (h:bnd (opnds P tm x.toList) (fun a=>bnd (opnds P tm y.toList) fun b=>some (AV.func f a b))=some v):Owes P o a r w v:=by
 obtain⟨p,h1,h2⟩:=bnd_some h
 obtain⟨q,h3,h4⟩:=bnd_some h2
 injection h4 with h4;subst h4
 refine⟨.func (.func f) (x.map a.eval) (y.map a.eval),by simp[execOp,ho,Instr.makeFunc],rel_func.2 ⟨_,_,rfl,?_,?_⟩⟩
 ·rw[Array.toList_map];exact opnds_ok ht hg h1
 ·rw[Array.toList_map];exact opnds_ok ht hg h3
theorem structOf_ok {t:TypeId} {fs:Array Field} (h:structOf P t=some fs):P.underlying t=some (.struct fs):=by
 unfold structOf at h
 split at h
 ·rename_i q hq;injection h with h;subst h;exact hq
 ·exact absurd h (by simp)
theorem fieldAddr_ok (ht:TmOk r n tm a) (hg:Glob P r) {s:TypeId} {x:Operand} {f:Nat} (ho:o.op=.fieldAddr s x f)
  (h:bnd (fieldOff P s f) (fun d=>bnd (bnd (opnd P x tm) asPtr) fun p=>some (.ptr p.1 (p.2+d)))=some v):Owes P o a r w v:=by
 obtain⟨d,h1,h2⟩:=bnd_some h
 obtain⟨p,h3,h4⟩:=bnd_some h2
 injection h4 with h4;subst h4
 obtain⟨b,h5,h6⟩:=bnd_some h3
 have:=asPtr_some h6;subst this
 obtain⟨fs,h7,h8⟩:=bnd_some h1
 obtain⟨g,h9,h10⟩:=bnd_some h8
 obtain⟨sz,h11,h12⟩:=bnd_some h10
 obtain⟨h13,h14⟩:=sel_none' h12
 injection h14 with h14;subst h14
 obtain⟨i,h15,h16⟩:=sizeOf_ok h11
 obtain⟨y,e1,e2⟩:=rel_ptr.1 (opnd_ok ht hg h5)
 have hz:i.size≠0:=fun e=>by rw[h16] at e;subst e;exact absurd h13 (by decide)
 refine⟨.pointer (some ⟨y.blk,y.sh+(p.2+g.offset),none⟩),?_,rel_ptr.2 ⟨y,e1,rfl⟩⟩
 have hadd:(⟨y.blk,y.sh+p.2,none⟩ : Addr).add g.offset=⟨y.blk,y.sh+(p.2+g.offset),none⟩:=by
  unfold Addr.add;split
  ·rename_i h0;simp[h0]
  ·simp[Nat.add_assoc]
 simp[execOp,ho,e2,Instr.fieldAt,run_underlying (structOf_ok h7),h9,Instr.sureAddr,fieldPlace,run_size h15,hz,hadd]
theorem field_ok (ht:TmOk r n tm a) (hg:Glob P r) {s:TypeId} {x:Operand} {f:Nat} (ho:o.op=.field s x f)
  (h:bnd (fieldPart P s f) (fun d=>bnd (bnd (opnd P x tm) asAgg) fun l=>rowOf l d.1 d.2)=some v):Owes P o a r w v:=by
 obtain⟨d,h1,h2⟩:=bnd_some h
 obtain⟨l,h3,h4⟩:=bnd_some h2
 obtain⟨b,h5,h6⟩:=bnd_some h3
 have:=asAgg_some h6;subst this
 obtain⟨fs,h7,h8⟩:=bnd_some h1
 obtain⟨g,h9,h10⟩:=bnd_some h8
 obtain⟨sz,h11,h12⟩:=bnd_some h10
 injection h12 with h12;subst h12
 obtain⟨c,e1,e2⟩:=rel_agg.1 (opnd_ok ht hg h5)
 obtain⟨z,h13,h14⟩:=part_ok h11 h4 e2 w
 exact⟨z,by simp[execOp,ho,e1,Instr.field,run_underlying (structOf_ok h7),h9,Go.asAgg,h13],h14⟩
theorem extract_ok (ht:TmOk r n tm a) (hg:Glob P r) {x:Operand} {i:Nat} (ho:o.op=.extract x i) (h:bnd (bnd (opnd P x tm) asTuple) (fun l=>nth l i)=some v):Owes P o a r w v:=by
 obtain⟨l,h1,h2⟩:=bnd_some h
 obtain⟨b,h3,h4⟩:=bnd_some h1
 have:=asTuple_some h4;subst this
 rw[nth_eq] at h2
 obtain⟨c,e1,e2⟩:=rel_tuple.1 (opnd_ok ht hg h3)
 obtain⟨u,h5,h6⟩:=e2.get h2
 have:c[i]?=some u:=by rw[← h5];simp
 exact⟨u,by simp[execOp,ho,e1,Instr.extract,this],h6⟩
theorem assert_ok (ht:TmOk r n tm a) (hg:Glob P r) {x:Operand} {t' t:TypeId} {ok:Bool} (ho:o.op=.typeAssert x t' t ok) (h:sel (ifaceOk P t) (bnd (opnd P x tm) (assertP P t ok)) none=some v):Owes P o a r w v:=by
 obtain⟨h1,h2⟩:=sel_none h
 obtain⟨b,h3,h4⟩:=bnd_some h2
 obtain⟨d,hd,hn⟩:=ifaceOk_ok h1
 have hb:=opnd_ok ht hg h3
 have fails:∀ {v:AV},sel ok (bnd (zero? P t) fun z=>some (.tuple [z,.bool false])) none=some v→∃ z,zero? P t=some z∧ok=true∧v=.tuple [z,.bool false]:=by
  intro v h
  obtain⟨h5,h6⟩:=sel_none h
  obtain⟨z,h7,h8⟩:=bnd_some h6
  injection h8 with h8
  exact⟨z,h7,h5,h8.symm⟩
 cases b with
 | iface u q =>
  obtain⟨y,e1,e2⟩:=rel_iface.1 hb
  simp only[assertP] at h4
  cases hu:Nat.beq u t with
  | true =>
   have:=beq_eq hu;subst this
   rw[hu] at h4
   cases ok with
   | true =>
    injection (show some _=some v from h4) with h4;subst h4
    refine⟨.tuple #[y,.bool true],?_,rel_tuple.2 ⟨_,rfl,Rels_cons.2 ⟨_,_,rfl,e2,Rels_cons.2 ⟨_,_,rfl,rel_bool.2 rfl,Rels_nil.2 rfl⟩⟩⟩⟩
    have:(Instr.typeAssert (.iface u y) t' u true).run P w=.ok (.tuple #[y,.bool true]) w:=by
     simp only[Instr.typeAssert,Sem.run_bind,run_underlying hd,Result.andThen_ok]
     cases d <;> first | exact absurd rfl (hn _) | simp
    simp[execOp,ho,e1,this]
   | false =>
    injection (show some _=some v from h4) with h4;subst h4
    refine⟨y,?_,e2⟩
    have:(Instr.typeAssert (.iface u y) t' u false).run P w=.ok y w:=by
     simp only[Instr.typeAssert,Sem.run_bind,run_underlying hd,Result.andThen_ok]
     cases d <;> first | exact absurd rfl (hn _) | simp
    simp[execOp,ho,e1,this]
  | false =>
   rw[hu] at h4
   obtain⟨z,h5,rfl,rfl⟩:=fails h4
   obtain⟨i,q',h7,h8,h9⟩:=zero_ok h5
   have hne:¬ u=t:=fun e=>by subst e;rw[Nat.beq_refl] at hu;exact absurd hu (by decide)
   refine⟨.tuple #[q',.bool false],?_,rel_tuple.2 ⟨_,rfl,Rels_cons.2 ⟨_,_,rfl,rel_avOf _ _ h9,Rels_cons.2 ⟨_,_,rfl,rel_bool.2 rfl,Rels_nil.2 rfl⟩⟩⟩⟩
   have:(Instr.typeAssert (.iface u y) t' t true).run P w=.ok (.tuple #[q',.bool false]) w:=by
    simp only[Instr.typeAssert,Sem.run_bind,run_underlying hd,Result.andThen_ok]
    cases d <;> first | exact absurd rfl (hn _) | simp[hne,run_zero h7 h8]
   simp[execOp,ho,e1,this]
 | nilIface =>
  have e1:=rel_nilIface.1 hb
  obtain⟨z,h5,rfl,rfl⟩:=fails h4
  obtain⟨i,q',h7,h8,h9⟩:=zero_ok h5
  refine⟨.tuple #[q',.bool false],?_,rel_tuple.2 ⟨_,rfl,Rels_cons.2 ⟨_,_,rfl,rel_avOf _ _ h9,Rels_cons.2 ⟨_,_,rfl,rel_bool.2 rfl,Rels_nil.2 rfl⟩⟩⟩⟩
  have:(Instr.typeAssert .nilIface t' t true).run P w=.ok (.tuple #[q',.bool false]) w:=by
   simp only[Instr.typeAssert,Sem.run_bind,run_underlying hd,Result.andThen_ok]
   cases d <;> first | exact absurd rfl (hn _) | simp[run_zero h7 h8]
  simp[execOp,ho,e1,this]
 | _=>exact absurd h4 (by simp[assertP])
end
end Go.Proofs.YtbdbhdcbdfbnnaaGreatDoor.Ev
set_option linter.unusedVariables false
set_option linter.unusedSimpArgs false
namespace Go.Proofs.YtbdbhdcbdfbnnaaGreatDoor.Ev
section
variable {P : Program} {r : Rho} {n : Nat} {tm : Tr AV} {a : Act} {w : World} {o : Oper} {v : AV}
def OptRel (r:Rho):Option AV→Option Value→Prop
 | none,none=>True
 | some a,some x=>Rel r a x
 | _,_=>False
theorem optOp_ok (ht:TmOk r n tm a) (hg:Glob P r) {x:Option Operand} {q:Option AV} (h:optOp P x tm=some q):OptRel r q (x.map a.eval):=by
 cases x with
 | none=>injection (show some none=some q from h) with h;subst h;exact trivial
 | some x =>
  obtain⟨b,h1,h2⟩:=bnd_some (show bnd (opnd P x tm) (fun a=>some (some a))=some q from h)
  injection h2 with h2;subst h2
  exact opnd_ok ht hg h1
theorem run_sliceBound (k:IntKind) (i y:Nat) (c:BoundsCode) (h:i≤y) (w:World):(Instr.sliceBound (.int k (i:Int)) y c).run P w=.ok i w:=by
 have:(0:Int)≤(i:Int)∧(i:Int)≤(y:Int):=by omega
 simp[Instr.sliceBound,asIntOf,this]
theorem bounds_ok {len cap e:Nat} {lo hi mx:Option AV} {l h m:Nat} (hb:bounds len cap lo hi mx=some (l,h,m)) {vl vh vm:Option Value}
  (hl:OptRel r lo vl) (hh:OptRel r hi vh) (hm:OptRel r mx vm) (is:Bool) (w:World) :
  l≤h∧h≤m∧m≤cap∧(Instr.sliceBounds is len (cap+e) vl vh vm).run P w=.ok (l,h,if mx.isSome then m else m+e) w:=by
 obtain⟨m',h1,h2⟩:=bnd_some hb
 obtain⟨h',h3,h4⟩:=bnd_some h2
 obtain⟨l',h5,h6⟩:=bnd_some h4
 obtain⟨h7,h8⟩:=sel_none h6
 simp only[Option.some.injEq,Prod.mk.injEq] at h8
 obtain⟨rfl,rfl,rfl⟩:=h8
 obtain⟨h8,h7⟩:=and2 h7
 obtain⟨h9,h10⟩:=and2 h7
 obtain⟨h11,h12⟩:=and2 h10
 have q1:=ble_le h9;have q2:=ble_le h11;have q3:=ble_le h12
 refine⟨q3,q2,q1,?_⟩
 have nat:∀ {x:AV} {i:Nat} {u:Value},asNat x=some i→Rel r x u→∃ k,u=.int k (i:Int):=by
  intro x i u hx hr
  obtain⟨k,hk⟩:=asNat_some hx
  subst hk
  exact⟨k,rel_int.1 hr⟩
 cases mx with
 | none =>
  cases vm with
  | some _=>exact hm.elim
  | none =>
   injection (show some cap=some m' from h1) with h1;subst h1
   cases hi with
   | none=>cases vh with
    | some _=>exact hh.elim
    | none =>
     injection (show some len=some h' from h3) with h3;subst h3
     cases lo with
     | none=>cases vl with
      | some _=>exact hl.elim
      | none=>injection (show some 0=some l' from h5) with h5;subst h5;rfl
     | some x=>cases vl with
      | none=>exact hl.elim
      | some u =>
       obtain⟨k,rfl⟩:=nat (x:=x) h5 hl
       simp[Instr.sliceBounds,run_sliceBound k l' _ _ q3]
   | some x=>cases vh with
    | none=>exact hh.elim
    | some u =>
     obtain⟨k,rfl⟩:=nat (x:=x) h3 hh
     cases lo with
     | none=>cases vl with
      | some _=>exact hl.elim
      | none=>injection (show some 0=some l' from h5) with h5;subst h5;simp[Instr.sliceBounds,run_sliceBound k h' (cap+e) _ (by omega)]
     | some x=>cases vl with
      | none=>exact hl.elim
      | some u =>
       obtain⟨j,rfl⟩:=nat (x:=x) h5 hl
       simp[Instr.sliceBounds,run_sliceBound j l' _ _ q3,run_sliceBound k h' (cap+e) _ (by omega)]
 | some y =>
  cases vm with
  | none=>exact hm.elim
  | some q =>
   obtain⟨i,rfl⟩:=nat (x:=y) h1 hm
   cases hi with
   | none=>exact absurd h8 (by simp)
   | some x=>cases vh with
    | none=>exact hh.elim
    | some u =>
     obtain⟨k,rfl⟩:=nat (x:=x) h3 hh
     cases lo with
     | none=>cases vl with
      | some _=>exact hl.elim
      | none =>
       injection (show some 0=some l' from h5) with h5;subst h5
       simp[Instr.sliceBounds,run_sliceBound k h' m' _ q2,run_sliceBound i m' (cap+e) _ (by omega)]
     | some x=>cases vl with
      | none=>exact hl.elim
      | some u =>
       obtain⟨j,rfl⟩:=nat (x:=x) h5 hl
       simp[Instr.sliceBounds,run_sliceBound j l' _ _ q3,run_sliceBound k h' m' _ q2,run_sliceBound i m' (cap+e) _ (by omega)]
theorem sliceKind_ok {t:TypeId} {k:SK} (h:sliceKind P t=some k) :
  match k with
  | .str=>P.underlying t=some .string
  | .sl sz=>∃ e i,P.underlying t=some (.slice e)∧P.info? e=some i∧i.size=sz
  | .arr m sz=>∃ e i,P.underlying t=some (.array m e)∧P.info? e=some i∧i.size=sz:=by
 unfold sliceKind at h
 split at h
 ·rename_i hu;injection h with h;subst h;exact hu
 ·rename_i e hu
  split at h
  ·rename_i s hs;injection h with h;subst h;obtain⟨i,h1,h2⟩:=sizeOf_ok hs;exact⟨e,i,hu,h1,h2⟩
  ·exact absurd h (by simp)
 ·rename_i m e hu
  split at h
  ·rename_i s hs;injection h with h;subst h;obtain⟨i,h1,h2⟩:=sizeOf_ok hs;exact⟨e,i,hu,h1,h2⟩
  ·exact absurd h (by simp)
 ·exact absurd h (by simp)
theorem add_place (b s k:Nat):(⟨b,s,none⟩ : Addr).add k=⟨b,s+k,none⟩:=by
 unfold Addr.add;split
 ·rename_i h;simp[h]
 ·rfl
theorem run_sliceAt_sl {t e:TypeId} {i:TypeInfo} (hu:P.underlying t=some (.slice e)) (hi:P.info? e=some i) (A:Option Addr) (len cap:Nat) (lo hi' mx:Option Value) (l h m:Nat)
  (q:(Instr.sliceBounds true len cap lo hi' mx).run P w=.ok (l,h,m) w):(Instr.sliceAt t (.slice A len cap) lo hi' mx).run P w=.ok (.slice (if m=l then A else A.map (·.add (l * i.size))) (h - l) (m - l)) w:=by
 simp only[Instr.sliceAt,Sem.run_bind,run_underlying hu,Result.andThen_ok,Instr.slice,q,run_size hi,Sem.run_pure]
theorem run_sliceAt_arr {t e:TypeId} {i:TypeInfo} {m0:Nat} (hu:P.underlying t=some (.array m0 e)) (hi:P.info? e=some i) (A:Addr) (lo hi' mx:Option Value) (l h m:Nat)
  (q:(Instr.sliceBounds false m0 m0 lo hi' mx).run P w=.ok (l,h,m) w):(Instr.sliceAt t (.pointer (some A)) lo hi' mx).run P w=.ok (.slice (some (if m=l then A else A.add (l * i.size))) (h - l) (m - l)) w:=by
 simp only[Instr.sliceAt,Sem.run_bind,run_underlying hu,Result.andThen_ok,Instr.sureAddr,q,run_size hi,Sem.run_pure]
theorem slice_ok (ht:TmOk r n tm a) (hg:Glob P r) {t:TypeId} {x:Operand} {lo hi mx:Option Operand} (ho:o.op=.slice t x lo hi mx)
  (h:bnd (sliceKind P t) (fun k=>bnd (opnd P x tm) fun x=>bnd (optOp P lo tm) fun lo=>bnd (optOp P hi tm) fun hi=>bnd (optOp P mx tm) fun mx=>sliceP k x lo hi mx)=some v):Owes P o a r w v:=by
 obtain⟨k,h1,h2⟩:=bnd_some h
 obtain⟨b,h3,h4⟩:=bnd_some h2
 obtain⟨lo',h5,h6⟩:=bnd_some h4
 obtain⟨hi',h7,h8⟩:=bnd_some h6
 obtain⟨mx',h9,h10⟩:=bnd_some h8
 have hb:=opnd_ok ht hg h3
 have hl:=optOp_ok ht hg h5
 have hh:=optOp_ok ht hg h7
 have hm:=optOp_ok ht hg h9
 have hk:=sliceKind_ok h1
 cases k with
 | str =>
  obtain⟨s,h11,h12⟩:=bnd_some (show bnd (asStr b) _=some v from h10)
  obtain⟨⟨l,h',m⟩,h13,h14⟩:=bnd_some h12
  obtain⟨q,h15,h16⟩:=bnd_some h14
  obtain⟨hn,h17⟩:=sel_none' h16
  injection h17 with h17;subst h17
  have:=asStr_some h11;subst this
  obtain⟨y,e1,e2⟩:=rel_str.1 hb
  subst e2
  obtain⟨h18,h19⟩:=takeN_some h15
  rw[dropN_eq] at h18 h19
  rw[lenL_eq,List.length_map] at h13
  have hnone:mx'=none:=by cases mx' with | none=>rfl | some _=>exact absurd hn (by simp)
  subst hnone
  have hmx:mx.map a.eval=none:=by cases hq:mx.map a.eval with | none=>rfl | some _=>rw[hq] at hm;exact hm.elim
  have hmx':mx=none:=by cases mx with | none=>rfl | some _=>simp at hmx
  obtain⟨q1,q2,q3,q4⟩:=bounds_ok (P:=P) (e:=0) h13 hl hh (by trivial:OptRel r none none) false w
  have hsz:y.data.toList.length=y.size:=by rw[Array.length_toList];rfl
  rw[hsz] at q3 q4 h13
  refine⟨.string (y.extract l h'),?_,rel_str.2 ⟨_,rfl,?_⟩⟩
  ·have:(Instr.sliceAt t (.string y) (lo.map a.eval) (hi.map a.eval) none).run P w=.ok (.string (y.extract l h')) w:=by
    simp only[Instr.sliceAt,Sem.run_bind,run_underlying hk,Result.andThen_ok,Instr.slice]
    simp only[Nat.add_zero] at q4
    simp[q4]
   simp[execOp,ho,e1,hmx',this]
  ·subst h19
   simp only[ByteArray.data_extract,Array.toList_extract,List.extract_eq_take_drop,List.map_take,List.map_drop]
 | sl sz =>
  obtain⟨e,i,hu,hi1,hi2⟩:=hk
  cases b with
  | slice b off len cap ex =>
   obtain⟨⟨l,h',m⟩,h13,h14⟩:=bnd_some (show bnd (bounds len cap lo' hi' mx') _=some v from h10)
   injection h14 with h14;subst h14
   obtain⟨y,p,e1,e2,e3⟩:=rel_slice.1 hb
   obtain⟨q1,q2,q3,q4⟩:=bounds_ok (P:=P) (e:=if ex then 0 else y.xt) h13 hl hh hm true w
   refine⟨.slice (if (if mx'.isSome then m else m+(if ex then 0 else y.xt))=l then some p else (some p).map (·.add (l * sz))) (h' - l) ((if mx'.isSome then m else m+(if ex then 0 else y.xt)) - l),?_,rel_slice.2 ?_⟩
   ·have:=run_sliceAt_sl hu hi1 (some p) _ _ _ _ _ _ _ _ q4
    rw[hi2] at this
    simp[execOp,ho,e2,this]
   ·have hcap:(m - l)+(if (or ex mx'.isSome) then 0 else y.xt)=(if mx'.isSome then m else m+(if ex then 0 else y.xt)) - l:=by
     cases ex <;> cases mx' <;> simp <;> omega
    by_cases hml:(if mx'.isSome then m else m+(if ex then 0 else y.xt))=l
    ·refine⟨y,p,e1,?_,fun hne=>?_⟩
     ·rw[if_pos hml];show Value.slice _ _ _=_;rw[hcap]
     ·rw[hcap,hml] at hne;omega
    ·refine⟨y,p.add (l * sz),e1,?_,fun hne=>?_⟩
     ·rw[if_neg hml];show Value.slice _ _ _=_;rw[hcap];rfl
     ·rw[e3 (by cases ex <;> cases mx' <;> simp at hml hne ⊢ <;> omega),add_place]
      show (⟨y.blk,y.sh+off+l * sz,none⟩ : Addr)=⟨y.blk,y.sh+(off+l * sz),none⟩
      rw[Nat.add_assoc]
  | nilSlice =>
   obtain⟨⟨l,h',m⟩,h13,h14⟩:=bnd_some (show bnd (bounds 0 0 lo' hi' mx') _=some v from h10)
   injection h14 with h14;subst h14
   have e1:=rel_nilSlice.1 hb
   obtain⟨q1,q2,q3,q4⟩:=bounds_ok (P:=P) (e:=0) h13 hl hh hm true w
   have hm0:m=0:=by omega
   have hl0:l=0:=by omega
   have hh0:h'=0:=by omega
   subst hm0;subst hl0;subst hh0
   refine⟨.slice none 0 0,?_,rel_nilSlice.2 rfl⟩
   have:=run_sliceAt_sl hu hi1 none 0 0 _ _ _ 0 0 0 (by cases mx' <;> exact q4)
   simp[execOp,ho,e1,this]
  | _=>exact absurd h10 (by simp[sliceP])
 | arr m0 sz =>
  obtain⟨e,i,hu,hi1,hi2⟩:=hk
  obtain⟨p,h11,h12⟩:=bnd_some (show bnd (asPtr b) _=some v from h10)
  obtain⟨⟨l,h',m⟩,h13,h14⟩:=bnd_some h12
  injection h14 with h14;subst h14
  have:=asPtr_some h11;subst this
  obtain⟨y,e1,e2⟩:=rel_ptr.1 hb
  obtain⟨q1,q2,q3,q4⟩:=bounds_ok (P:=P) (e:=0) h13 hl hh hm false w
  have q5:(if mx'.isSome then m else m+0)=m:=by cases mx' <;> rfl
  rw[q5,Nat.add_zero] at q4
  refine⟨.slice (some (if m=l then ⟨y.blk,y.sh+p.2,none⟩ else (⟨y.blk,y.sh+p.2,none⟩ : Addr).add (l * sz))) (h' - l) (m - l),?_,rel_slice.2 ?_⟩
  ·have:=run_sliceAt_arr hu hi1 ⟨y.blk,y.sh+p.2,none⟩ _ _ _ _ _ _ q4
   rw[hi2] at this
   simp[execOp,ho,e2,this]
  ·refine⟨y,_,e1,rfl,fun hne=>?_⟩
   have hne':m - l≠0:=by simpa using hne
   rw[if_neg (by omega),add_place]
   show (⟨y.blk,y.sh+p.2+l * sz,none⟩ : Addr)=⟨y.blk,y.sh+(p.2+l * sz),none⟩
   rw[Nat.add_assoc]
end
end Go.Proofs.YtbdbhdcbdfbnnaaGreatDoor.Ev
set_option linter.unusedVariables false
set_option linter.unusedSimpArgs false
namespace Go.Proofs.YtbdbhdcbdfbnnaaGreatDoor.Ev
section
variable {P : Program} {r : Rho} {n : Nat} {tm : Tr AV} {a : Act} {w : World} {o : Oper} {v : AV}
theorem overOf_ok {t:TypeId} {k:Option Nat×Nat} (h:overOf P t=some k) :
  (k.1=none∧∃ e i,P.underlying t=some (.slice e)∧P.info? e=some i∧i.size=k.2)∨(∃ m e i,k.1=some m∧P.underlying t=some (.array m e)∧P.info? e=some i∧i.size=k.2):=by
 unfold overOf at h
 split at h
 ·rename_i e hu
  split at h
  ·rename_i s hs;injection h with h;subst h;obtain⟨i,h1,h2⟩:=sizeOf_ok hs;exact .inl ⟨rfl,e,i,hu,h1,h2⟩
  ·exact absurd h (by simp)
 ·rename_i m e hu
  split at h
  ·rename_i s hs;injection h with h;subst h;obtain⟨i,h1,h2⟩:=sizeOf_ok hs;exact .inr ⟨m,e,i,rfl,hu,h1,h2⟩
  ·exact absurd h (by simp)
 ·exact absurd h (by simp)
theorem run_indexAt_sl {t e:TypeId} {i:TypeInfo} (hu:P.underlying t=some (.slice e)) (hi:P.info? e=some i) (A:Addr) (len cap:Nat) (k:IntKind) (j:Nat) (hj:j<len) :
  (Instr.indexAt t (.slice (some A) len cap) (.int k (j:Int))).run P w=.ok (.pointer (some (A.add (j * i.size)))) w:=by
 have:(0:Int)≤(j:Int)∧(j:Int)<(len:Int):=by omega
 simp[Instr.indexAt,asIntOf,run_underlying hu,this,run_size hi,hj]
theorem run_indexAt_arr {t e:TypeId} {i:TypeInfo} {len:Nat} (hu:P.underlying t=some (.array len e)) (hi:P.info? e=some i) (A:Addr) (k:IntKind) (j:Nat) (hj:j<len) :
  (Instr.indexAt t (.pointer (some A)) (.int k (j:Int))).run P w=.ok (.pointer (some (A.add (j * i.size)))) w:=by
 have:(0:Int)≤(j:Int)∧(j:Int)<(len:Int):=by omega
 simp[Instr.indexAt,asIntOf,run_underlying hu,this,run_size hi,Instr.sureAddr,hj]
theorem indexAddr_ok (ht:TmOk r n tm a) (hg:Glob P r) {t:TypeId} {x i:Operand} (ho:o.op=.indexAddr t x i)
  (h:bnd (overOf P t) (fun k=>bnd (bnd (opnd P i tm) asNat) fun i=>bnd (bnd (opnd P x tm) (baseOf k.1)) fun p=>sel (Nat.blt i p.2.2) (some (.ptr p.1 (p.2.1+i * k.2))) none)=some v):Owes P o a r w v:=by
 obtain⟨k,h1,h2⟩:=bnd_some h
 obtain⟨j,h3,h4⟩:=bnd_some h2
 obtain⟨p,h5,h6⟩:=bnd_some h4
 obtain⟨h7,h8⟩:=sel_none h6
 injection h8 with h8;subst h8
 have hj:=blt_lt h7
 obtain⟨b,h9,h10⟩:=bnd_some h3
 obtain⟨kk,rfl⟩:=asNat_some h10
 have ei:=rel_int.1 (opnd_ok ht hg h9)
 obtain⟨c,h11,h12⟩:=bnd_some h5
 have hc:=opnd_ok ht hg h11
 rcases overOf_ok h1 with ⟨hk,e,i,hu,hi1,hi2⟩ | ⟨m,e,i,hk,hu,hi1,hi2⟩
 ·rw[hk] at h12
  cases c with
  | slice cb off len cap ex =>
   obtain⟨h13,h14⟩:=sel_none (show sel (Nat.ble len cap) (some (cb,off,len)) none=some p from h12)
   injection h14 with h14;subst h14
   obtain⟨y,A,e1,e2,e3⟩:=rel_slice.1 hc
   have hle:=ble_le h13
   have:=e3 (by simp only at hj;omega)
   subst this
   refine⟨_,?_,rel_ptr.2 ⟨y,e1,rfl⟩⟩
   have:=run_indexAt_sl (P:=P) (w:=w) hu hi1 ⟨y.blk,y.sh+off,none⟩ len (cap+(if ex then 0 else y.xt)) kk j hj
   rw[hi2,add_place] at this
   simp[execOp,ho,e2,ei,this,Nat.add_assoc]
  | _=>exact absurd h12 (by simp[baseOf])
 ·rw[hk] at h12
  cases c with
  | ptr cb off =>
   injection (show some (cb,off,m)=some p from h12) with h12;subst h12
   obtain⟨y,e1,e2⟩:=rel_ptr.1 hc
   refine⟨_,?_,rel_ptr.2 ⟨y,e1,rfl⟩⟩
   have:=run_indexAt_arr (P:=P) (w:=w) hu hi1 ⟨y.blk,y.sh+off,none⟩ kk j hj
   rw[hi2,add_place] at this
   simp[execOp,ho,e2,ei,this,Nat.add_assoc]
  | _=>exact absurd h12 (by simp[baseOf])
theorem indexKind_ok {t:TypeId} {k:IK} (h:indexKind P t=some k) :
  match k with
  | .str=>P.underlying t=some .string
  | .arr m sz p=>∃ e i,P.underlying t=some (.array m e)∧P.info? e=some i∧i.size=sz∧aggSize P e=some p:=by
 unfold indexKind at h
 split at h
 ·rename_i hu;injection h with h;subst h;exact hu
 ·rename_i m e hu
  split at h
  ·rename_i s p hs hp;injection h with h;subst h;obtain⟨i,h1,h2⟩:=sizeOf_ok hs;exact⟨e,i,hu,h1,h2,hp⟩
  ·exact absurd h (by simp)
 ·exact absurd h (by simp)
theorem index_ok (ht:TmOk r n tm a) (hg:Glob P r) {t:TypeId} {x i:Operand} (ho:o.op=.index t x i)
  (h:bnd (indexKind P t) (fun k=>bnd (bnd (opnd P i tm) asNat) fun i=>bnd (opnd P x tm) fun v=>indexP k v i)=some v):Owes P o a r w v:=by
 obtain⟨k,h1,h2⟩:=bnd_some h
 obtain⟨j,h3,h4⟩:=bnd_some h2
 obtain⟨c,h5,h6⟩:=bnd_some h4
 obtain⟨b,h9,h10⟩:=bnd_some h3
 obtain⟨kk,rfl⟩:=asNat_some h10
 have ei:=rel_int.1 (opnd_ok ht hg h9)
 have hc:=opnd_ok ht hg h5
 have hk:=indexKind_ok h1
 cases k with
 | str =>
  obtain⟨s,h7,h8⟩:=bnd_some (show bnd (asStr c) _=some v from h6)
  obtain⟨q,h11,h12⟩:=bnd_some h8
  injection h12 with h12;subst h12
  have:=asStr_some h7;subst this
  obtain⟨y,e1,e2⟩:=rel_str.1 hc
  subst e2
  rw[nth_eq,List.getElem?_map] at h11
  cases hq:y.data.toList[j]? with
  | none=>rw[hq] at h11;exact absurd h11 (by simp)
  | some c =>
   rw[hq] at h11
   injection h11 with h11;subst h11
   refine⟨.int .u8 (c.toNat:Int),?_,rel_int.2 rfl⟩
   have hb:y[j]?=some c:=by
    rw[← hq]
    simp only[Array.getElem?_toList]
    rfl
   have:(Instr.index t (.string y) (.int kk (j:Int))).run P w=.ok (.int .u8 (c.toNat:Int)) w:=by
    have h0:(0:Int)≤(j:Int):=by omega
    simp[Instr.index,asIntOf,run_underlying hk,h0,hb]
   simp[execOp,ho,e1,ei,this]
 | arr m sz p =>
  obtain⟨e,i,hu,hi1,hi2,hp⟩:=hk
  obtain⟨l,h7,h8⟩:=bnd_some (show bnd (asAgg c) _=some v from h6)
  obtain⟨h11,h12⟩:=sel_none h8
  have:=asAgg_some h7;subst this
  obtain⟨cs,e1,e2⟩:=rel_agg.1 hc
  obtain⟨z,h13,h14⟩:=part_ok hp h12 e2 w
  refine⟨z,?_,h14⟩
  have hj:=blt_lt h11
  have:(Instr.index t (.agg cs) (.int kk (j:Int))).run P w=.ok z w:=by
   have h0:(0:Int)≤(j:Int)∧(j:Int)<(m:Int):=by omega
   simp[Instr.index,asIntOf,run_underlying hu,h0,run_size hi1,hi2,h13,hj]
  simp[execOp,ho,e1,ei,this]
theorem cells_ok {b:AV} {u:Value} (h:Rel r b u):Rels r b.cells u.cells.toList:=by
 cases b with
 | agg l=>obtain⟨x,rfl,h1⟩:=rel_agg.1 h;exact h1
 | bool _=>have:=rel_bool.1 h;subst this;exact Rels_cons.2 ⟨_,_,rfl,h,Rels_nil.2 rfl⟩
 | int _ _=>have:=rel_int.1 h;subst this;exact Rels_cons.2 ⟨_,_,rfl,h,Rels_nil.2 rfl⟩
 | str _=>obtain⟨x,rfl,_⟩:=rel_str.1 h;exact Rels_cons.2 ⟨_,_,rfl,h,Rels_nil.2 rfl⟩
 | ptr _ _=>obtain⟨x,_,rfl⟩:=rel_ptr.1 h;exact Rels_cons.2 ⟨_,_,rfl,h,Rels_nil.2 rfl⟩
 | nilPtr=>have:=rel_nilPtr.1 h;subst this;exact Rels_cons.2 ⟨_,_,rfl,h,Rels_nil.2 rfl⟩
 | slice _ _ _ _ _=>obtain⟨x,y,_,rfl,_⟩:=rel_slice.1 h;exact Rels_cons.2 ⟨_,_,rfl,h,Rels_nil.2 rfl⟩
 | nilSlice=>have:=rel_nilSlice.1 h;subst this;exact Rels_cons.2 ⟨_,_,rfl,h,Rels_nil.2 rfl⟩
 | map _=>obtain⟨x,_,rfl⟩:=rel_map.1 h;exact Rels_cons.2 ⟨_,_,rfl,h,Rels_nil.2 rfl⟩
 | nilMap=>have:=rel_nilMap.1 h;subst this;exact Rels_cons.2 ⟨_,_,rfl,h,Rels_nil.2 rfl⟩
 | func _ _ _=>obtain⟨x,y,rfl,_⟩:=rel_func.1 h;exact Rels_cons.2 ⟨_,_,rfl,h,Rels_nil.2 rfl⟩
 | nilFunc=>have:=rel_nilFunc.1 h;subst this;exact Rels_cons.2 ⟨_,_,rfl,h,Rels_nil.2 rfl⟩
 | iface _ _=>obtain⟨x,rfl,_⟩:=rel_iface.1 h;exact Rels_cons.2 ⟨_,_,rfl,h,Rels_nil.2 rfl⟩
 | nilIface=>have:=rel_nilIface.1 h;subst this;exact Rels_cons.2 ⟨_,_,rfl,h,Rels_nil.2 rfl⟩
 | tuple _=>obtain⟨x,rfl,_⟩:=rel_tuple.1 h;exact Rels_cons.2 ⟨_,_,rfl,h,Rels_nil.2 rfl⟩
theorem fold_get (off:Nat):∀ (l:List Value) (k:Nat) (c:Array Value),off+k+l.length≤c.size →
  ((l.zipIdx k).foldl (fun cs (x:Value×Nat)=>cs.setIfInBounds (off+x.2) x.1) c).size=c.size ∧
  ∀ i,((l.zipIdx k).foldl (fun cs (x:Value×Nat)=>cs.setIfInBounds (off+x.2) x.1) c)[i]?=if off+k≤i∧i<off+k+l.length then l[i - (off+k)]? else c[i]?:=by
 intro l
 induction l with
 | nil=>intro k c h;refine⟨rfl,fun i=>?_⟩;rw[if_neg (by simp only[List.length_nil];omega)];rfl
 | cons x l ih =>
  intro k c h
  simp only[List.length_cons] at h
  obtain⟨h1,h2⟩:=ih (k+1) (c.setIfInBounds (off+k) x) (by simp;omega)
  simp only[List.zipIdx_cons,List.foldl_cons]
  refine⟨by rw[h1];simp,fun i=>?_⟩
  rw[h2]
  simp only[List.length_cons]
  by_cases hi:off+(k+1)≤i∧i<off+(k+1)+l.length
  ·rw[if_pos hi,if_pos (by omega),show i - (off+k)=(i - (off+(k+1)))+1 by omega,List.getElem?_cons_succ]
  ·rw[if_neg hi]
   by_cases hik:i=off+k
   ·subst hik
    rw[if_pos (by omega),Array.getElem?_setIfInBounds_self]
    simp;omega
   ·rw[if_neg (by omega),Array.getElem?_setIfInBounds_ne (Ne.symm hik)]
theorem fill_ok {pl:Nat→Option (Nat×Nat)} : ∀ {ps:List (Nat×AV)} {vs:List (Nat×Value)} {cells res:List AV} {c:Array Value},
  fillC pl ps cells=some res→Rels r cells c.toList→ps.map (·.1)=vs.map (·.1)→Rels r (ps.map (·.2)) (vs.map (·.2))→∃ c',Instr.fill pl c vs=some c'∧Rels r res c'.toList:=by
 intro ps
 induction ps with
 | nil =>
  intro vs cells res c h hc h1 h2
  injection (show some cells=some res from h) with h;subst h
  have:vs=[]:=by cases vs with | nil=>rfl | cons _ _=>simp at h1
  subst this
  exact⟨c,rfl,hc⟩
 | cons p ps ih =>
  intro vs cells res c h hc h1 h2
  cases vs with
  | nil=>simp at h1
  | cons q vs =>
   obtain⟨i,u⟩:=q
   simp only[List.map_cons,List.cons.injEq] at h1
   obtain⟨u',us,h3,h4,h5⟩:=Rels_cons.1 h2
   simp only[List.map_cons,List.cons.injEq] at h3
   obtain⟨rfl,rfl⟩:=h3
   obtain⟨d,h6,h7⟩:=bnd_some (show bnd (pl p.1) (fun q=>sel (Nat.beq (lenL p.2.cells) q.2) (bnd (setAt p.2.cells cells q.1) (fillC pl ps)) none)=some res from h)
   obtain⟨h8,h9⟩:=sel_none h7
   obtain⟨e,h10,h11⟩:=bnd_some h9
   have hcu:=cells_ok h4
   have hlen:=hcu.length
   have hsz:=beq_eq h8
   rw[lenL_eq] at hsz
   have hl2:u.cells.size=d.2:=by rw[← hsz,← hlen];simp
   obtain⟨h12,h13⟩:=setAt_some _ h10
   have hcl:c.size=cells.length:=by rw[← hc.length];simp
   obtain⟨f1,f2⟩:=fold_get d.1 u.cells.toList 0 c (by simp;omega)
   have hrel:Rels r e ((u.cells.zipIdx.foldl (fun cs (x:Value×Nat)=>cs.setIfInBounds (d.1+x.2) x.1) c)).toList:=by
    rw[← Array.foldl_toList,Array.toList_zipIdx]
    refine Rels_iff.2 ⟨?_,fun j b hb=>?_⟩
    ·rw[Array.length_toList,f1,setAt_length h10,hcl]
    ·rw[setAt_get h10] at hb
     rw[Array.getElem?_toList,f2]
     simp only[Nat.add_zero,Array.length_toList]
     by_cases hj:d.1≤j∧j<d.1+p.2.cells.length
     ·rw[if_pos hj] at hb
      rw[if_pos (by omega)]
      exact hcu.get hb
     ·rw[if_neg hj] at hb
      rw[if_neg (by omega)]
      have:=hc.get hb
      simpa using this
   obtain⟨c',g1,g2⟩:=ih h11 hrel h1.2 h5
   refine⟨c',?_,g2⟩
   unfold Instr.fill
   rw[← h1.1,h6]
   have:¬ (decide (u.cells.size≠d.2) || decide (d.1+u.cells.size > c.size))=true:=by
    simp only[Bool.or_eq_true,decide_eq_true_eq,not_or,Decidable.not_not]
    omega
   simp only[]
   rw[if_neg this]
   exact g1
theorem partsP_ok (ht:TmOk r n tm a) (hg:Glob P r):∀ {l:List (Nat×Operand)} {ps:List (Nat×AV)},partsP P tm l=some ps →
  ps.map (·.1)=(l.map fun (i,x)=>(i,a.eval x)).map (·.1)∧Rels r (ps.map (·.2)) ((l.map fun (i,x)=>(i,a.eval x)).map (·.2)):=by
 intro l
 induction l with
 | nil=>intro ps h;injection (show some []=some ps from h) with h;subst h;exact⟨rfl,Rels_nil.2 rfl⟩
 | cons q l ih =>
  intro ps h
  obtain⟨b,h1,h2⟩:=bnd_some (show bnd (opnd P q.2 tm) (fun a=>bnd (partsP P tm l) fun l=>some ((q.1,a) :: l))=some ps from h)
  obtain⟨m,h3,h4⟩:=bnd_some h2
  injection h4 with h4;subst h4
  obtain⟨h5,h6⟩:=ih h3
  exact⟨by simp only[List.map_cons];rw[h5],Rels_cons.2 ⟨_,_,rfl,opnd_ok ht hg h1,h6⟩⟩
theorem fieldsP_ok {w:World} : ∀ {fs:List Field} {l:List (Nat×Nat)},fieldsP P fs=some l→(fs.mapM fun f=>do pure (f.offset,← sizeOf f.type):Sem (List (Nat×Nat))).run P w=.ok l w:=by
 intro fs
 induction fs with
 | nil=>intro l h;injection (show some []=some l from h) with h;subst h;rfl
 | cons f fs ih =>
  intro l h
  obtain⟨s,h1,h2⟩:=bnd_some (show bnd (sizeOf? P f.type) (fun s=>bnd (fieldsP P fs) fun l=>some ((f.offset,s) :: l))=some l from h)
  obtain⟨m,h3,h4⟩:=bnd_some h2
  injection h4 with h4;subst h4
  obtain⟨i,h5,h6⟩:=sizeOf_ok h1
  have:=ih h3
  simp only[List.mapM_cons,Sem.run_bind,run_size h5,Result.andThen_ok,Sem.run_pure,h6,this]
theorem build_ok (ht:TmOk r n tm a) (hg:Glob P r) {t:TypeId} {parts:Array (Nat×Operand)} (ho:o.op=.build t parts)
  (h:bnd (buildKind P t) (fun k=>bnd (partsP P tm parts.toList) fun ps=>bnd (zero? P t) fun z=>bnd (fillC (placeOf k) ps z.cells) fun cs=>some (.agg cs))=some v):Owes P o a r w v:=by
 obtain⟨k,h1,h2⟩:=bnd_some h
 obtain⟨ps,h3,h4⟩:=bnd_some h2
 obtain⟨z,h5,h6⟩:=bnd_some h4
 obtain⟨cs,h7,h8⟩:=bnd_some h6
 injection h8 with h8;subst h8
 obtain⟨i,u,h9,h10,h11⟩:=zero_ok h5
 have hz:=cells_ok (rel_avOf (r:=r) _ _ h11)
 obtain⟨p1,p2⟩:=partsP_ok ht hg h3
 obtain⟨c',f1,f2⟩:=fill_ok h7 hz p1 p2
 have hpl:(parts.map fun (i,x)=>(i,a.eval x)).toList=parts.toList.map fun (i,x)=>(i,a.eval x):=by simp
 refine⟨.agg c',?_,rel_agg.2 ⟨_,rfl,f2⟩⟩
 have:(Instr.build t (parts.map fun (i,x)=>(i,a.eval x))).run P w=.ok (.agg c') w:=by
  unfold buildKind at h1
  split at h1
  ·rename_i fs hu
   obtain⟨l,h12,h13⟩:=bnd_some h1
   injection h13 with h13;subst h13
   have hm:(fs.mapM fun f=>do pure (f.offset,← sizeOf f.type):Sem (Array (Nat×Nat))).run P w=.ok l.toArray w:=by
    rw[Array.mapM_eq_mapM_toList]
    simp only[Sem.run_map,fieldsP_ok h12,Result.andThen_ok]
   have hpl':(fun i=>l.toArray[i]?)=placeOf (.fields l):=by
    funext i
    show l.toArray[i]?=nth l i
    rw[nth_eq];simp
   simp only[Instr.build,Sem.run_bind,run_zero h9 h10,Result.andThen_ok,run_underlying hu,hm,hpl',hpl,f1]
   rfl
  ·rename_i m e hu
   obtain⟨s,h12,h13⟩:=bnd_some h1
   injection h13 with h13;subst h13
   obtain⟨j,h14,h15⟩:=sizeOf_ok h12
   have hpl':(fun i=>some (i * j.size,j.size))=placeOf (.elems s):=by funext i;rw[h15];rfl
   simp only[Instr.build,Sem.run_bind,run_zero h9 h10,Result.andThen_ok,run_underlying hu,run_size h14,hpl',hpl,f1]
   rfl
  ·exact absurd h1 (by simp)
 simp only[execOp,ho,Sem.run_bind,this,Result.andThen_ok,Sem.run_pure]
end
end Go.Proofs.YtbdbhdcbdfbnnaaGreatDoor.Ev
