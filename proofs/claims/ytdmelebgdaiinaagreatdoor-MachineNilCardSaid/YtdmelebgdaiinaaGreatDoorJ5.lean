/- The evaluator: operations that look at no memory, the second part. -/
import Derived.Laws.Strings
import Derived.Test.YtdmelebgdaiinaaGreatDoorJ4
set_option linter.unusedVariables false
set_option linter.unusedSimpArgs false
set_option linter.unusedVariables false
set_option linter.unusedSimpArgs false
namespace Go.Proofs.YtdmelebgdaiinaaGreatDoor.Ev
section
variable {P : Program} {r : Rho} {n : Nat} {tm : Tr AV} {a : Act} {w : World} {o : Oper} {v : AV}
theorem toNat_inj {x y:List UInt8} (h:x.map UInt8.toNat=y.map UInt8.toNat):x=y:=by
 induction x generalizing y with
 | nil=>cases y with
  | nil=>rfl
  | cons b y=>simp at h
 | cons a x ih=>cases y with
  | nil=>simp at h
  | cons b y =>
   simp only[List.map_cons,List.cons.injEq] at h
   rw[ih h.2,UInt8.toNat_inj.1 h.1]
theorem strEq_eq (x:List UInt8):∀ y:List UInt8,strEq (x.map UInt8.toNat) (y.map UInt8.toNat)=(x==y):=by
 induction x with
 | nil=>intro y;cases y <;> rfl
 | cons a x ih =>
  intro y
  cases y with
  | nil=>rfl
  | cons b y =>
   show sel (Nat.beq a.toNat b.toNat) (strEq (x.map UInt8.toNat) (y.map UInt8.toNat)) false=_
   rw[ih]
   cases h:Nat.beq a.toNat b.toNat with
   | true =>
    have:=UInt8.toNat_inj.1 (beq_eq h);subst this
    show (x==y)=_
    simp
   | false =>
    have:a≠b:=fun e=>by subst e;rw[Nat.beq_refl] at h;exact absurd h (by decide)
    show false=_
    simp[this]
theorem strLess_eq (x:List UInt8):∀ y:List UInt8,strLess (x.map UInt8.toNat) (y.map UInt8.toNat)=Op.bytesLess x y:=by
 induction x with
 | nil=>intro y;cases y <;> rfl
 | cons a x ih =>
  intro y
  cases y with
  | nil=>rfl
  | cons b y =>
   show sel (Nat.beq a.toNat b.toNat) (strLess (x.map UInt8.toNat) (y.map UInt8.toNat)) (Nat.blt a.toNat b.toNat)=_
   rw[ih]
   rw[show Op.bytesLess (a :: x) (b :: y)=(decide (a<b) || (a==b&&Op.bytesLess x y)) from rfl]
   cases h:Nat.beq a.toNat b.toNat with
   | true =>
    have:=UInt8.toNat_inj.1 (beq_eq h);subst this
    rw[sel_true]
    have h1:decide (a<a)=false:=by simp
    simp[h1]
   | false =>
    have:a≠b:=fun e=>by subst e;rw[Nat.beq_refl] at h;exact absurd h (by decide)
    rw[sel_false]
    have h1:(a==b)=false:=by simp[this]
    rw[h1]
    refine bool_ext ?_
    show Nat.ble (a.toNat+1) b.toNat=true↔_
    rw[ble_iff]
    simp[UInt8.lt_iff_toNat_lt]
    omega
theorem ba_toList (x:ByteArray):x.toList=x.data.toList:=ByteArray.toList_eq x
theorem strBin_ok {op:BinOp} {x y:ByteArray} (h:strBin op (x.data.toList.map UInt8.toNat) (y.data.toList.map UInt8.toNat)=some v) :
  ∃ z,(Op.stringOp op x y).run P w=.ok z w∧∀ r,Rel r v z:=by
 cases op <;> simp only[strBin] at h
 case add =>
  obtain⟨h1,h2⟩:=sel_none h
  injection h2 with h2;subst h2
  have h3:=ble_le h1
  rw[lenL_eq,lenL_eq,List.length_map,List.length_map,Array.length_toList,Array.length_toList] at h3
  refine⟨.string (x++y),?_,fun r=>rel_str.2 ⟨_,rfl,?_⟩⟩
  ·have h4:¬ (((x.size+y.size:Nat):Int) > IntKind.i64.max):=by
    show ¬ (((x.data.size+y.data.size:Nat):Int) > 9223372036854775807)
    omega
   simp only[Op.stringOp,if_neg h4];rfl
  ·rw[app_eq,ByteArray.data_append,Array.toList_append,List.map_append]
 all_goals first | (simp at h;done) | skip
 all_goals injection h with h;subst h
 all_goals refine⟨_,rfl,fun r=>rel_bool.2 ?_⟩
 all_goals simp only[strEq_eq,strLess_eq,ba_toList]
theorem pureRun_ok {α:Type} (P:Program) {s:Sem α} : ∀ {x:α},pureRun P s=some x→∀ w,s.run P w=.ok x w:=by
 induction s with
 | pure a=>intro x h w;injection h with h;subst h;rfl
 | program k ih=>intro x h w;exact ih P h w
 | mark m k ih=>intro x h w;exact ih h w
 | _=>intro x h;exact absurd h (by simp[pureRun])
theorem ofNat_toNat (l:List UInt8):(l.map UInt8.toNat).map UInt8.ofNat=l:=by
 induction l with
 | nil=>rfl
 | cons a l ih=>simp only[List.map_cons,ih,UInt8.ofNat_toNat]
theorem plain1_ok {b:AV} {z:Value} (h:plain1 b=some z) {u:Value} (hr:Rel r b u):u=z:=by
 cases b <;> simp[plain1] at h
 case bool=>subst h;exact rel_bool.1 hr
 case int=>subst h;exact rel_int.1 hr
 case str s =>
  subst h
  obtain⟨x,h1,h2⟩:=rel_str.1 hr
  subst h2
  rw[h1]
  congr 1
  obtain⟨⟨l⟩⟩:=x
  have:=ofNat_toNat l
  simp only[] at this ⊢
  rw[this]
 case nilPtr=>subst h;exact rel_nilPtr.1 hr
 case nilSlice=>subst h;exact rel_nilSlice.1 hr
 case nilMap=>subst h;exact rel_nilMap.1 hr
 case nilFunc=>subst h;exact rel_nilFunc.1 hr
 case nilIface=>subst h;exact rel_nilIface.1 hr
theorem plains_ok:∀ {l:List AV} {z:List Value},plains l=some z→∀ {u:List Value},Rels r l u→u=z:=by
 intro l
 induction l with
 | nil=>intro z h u hr;unfold plains at h;injection h with h;subst h;exact Rels_nil.1 hr
 | cons b l ih =>
  intro z h u hr
  unfold plains at h
  obtain⟨x,xs,rfl,h1,h2⟩:=Rels_cons.1 hr
  cases hb:plain1 b with
  | none=>simp[hb] at h
  | some y =>
   cases hl:plains l with
   | none=>simp[hb,hl] at h
   | some m=>simp[hb,hl] at h;subst h;rw[plain1_ok hb h1,ih hl h2]
theorem nilAs_ok {k:EK} {b:AV} {t:Bool} (h:nilAs k b=some t) {u:Value} (hr:Rel r b u) :
  match k with
  | .ptr=>∃ p,u=.pointer p∧t=p.isNone
  | .slice=>∃ p n c,u=.slice p n c∧t=p.isNone
  | .map=>∃ p,u=.map p∧t=p.isNone
  | .func=>(t=true∧u=.nilFunc)∨(t=false∧∃ f x y,u=.func f x y)
  | .iface=>(t=true∧u=.nilIface)∨(t=false∧∃ q x,u=.iface q x)
  | .bool=>False
  | .agg=>False:=by
 cases k <;> cases b <;> simp[nilAs] at h <;> subst h
 case ptr.ptr=>obtain⟨x,h1,h2⟩:=rel_ptr.1 hr;exact⟨_,h2,rfl⟩
 case ptr.nilPtr=>exact⟨_,rel_nilPtr.1 hr,rfl⟩
 case slice.slice=>obtain⟨x,p,h1,h2,h3⟩:=rel_slice.1 hr;exact⟨_,_,_,h2,rfl⟩
 case slice.nilSlice=>exact⟨_,_,_,rel_nilSlice.1 hr,rfl⟩
 case map.map=>obtain⟨x,h1,h2⟩:=rel_map.1 hr;exact⟨_,h2,rfl⟩
 case map.nilMap=>exact⟨_,rel_nilMap.1 hr,rfl⟩
 case func.func=>obtain⟨x,y,h1,_⟩:=rel_func.1 hr;exact .inr ⟨rfl,_,_,_,h1⟩
 case func.nilFunc=>exact .inl ⟨rfl,rel_nilFunc.1 hr⟩
 case iface.iface=>obtain⟨x,h1,_⟩:=rel_iface.1 hr;exact .inr ⟨rfl,_,_,h1⟩
 case iface.nilIface=>exact .inl ⟨rfl,rel_nilIface.1 hr⟩
theorem eqKind_ok {t:TypeId} {k:EK} (h:eqKind P t=some k) :
  match k with
  | .ptr=>∃ e,P.underlying t=some (.pointer e)
  | .slice=>∃ e,P.underlying t=some (.slice e)
  | .map=>∃ x y,P.underlying t=some (.map x y)
  | .func=>∃ x y z,P.underlying t=some (.func x y z)
  | .iface=>∃ m,P.underlying t=some (.interface m)
  | .bool=>P.underlying t=some .bool
  | .agg=>∃ fs,P.underlying t=some (.struct fs):=by
 unfold eqKind at h
 split at h <;> first | (injection h with h;subst h;rename_i hu;first | exact⟨_,hu⟩ | exact⟨_,_,hu⟩ | exact⟨_,_,_,hu⟩ | exact hu) | exact absurd h (by simp)
theorem eqIn_bool (d:Nat) {t:TypeId} (h:P.underlying t=some .bool) (x y:Bool):(Op.equalIn (d+1) t (.bool x) (.bool y)).run P w=.ok (x==y) w:=by
 simp[Op.equalIn,run_underlying h]
theorem eqIn_ptr (d:Nat) {t e:TypeId} (h:P.underlying t=some (.pointer e)) (x y:Option Addr) (hn:(x.isNone || y.isNone)=true):(Op.equalIn (d+1) t (.pointer x) (.pointer y)).run P w=.ok (x.isNone&&y.isNone) w:=by
 cases x <;> cases y <;> simp at hn <;> simp[Op.equalIn,run_underlying h]
theorem eqIn_slice (d:Nat) {t e:TypeId} (h:P.underlying t=some (.slice e)) (x y:Option Addr) (l c l' c':Nat) (hn:(x.isNone || y.isNone)=true):(Op.equalIn (d+1) t (.slice x l c) (.slice y l' c')).run P w=.ok (x.isNone&&y.isNone) w:=by
 cases x <;> cases y <;> simp at hn <;> simp[Op.equalIn,run_underlying h]
theorem eqIn_map (d:Nat) {t k e:TypeId} (h:P.underlying t=some (.map k e)) (x y:Option Nat) (hn:(x.isNone || y.isNone)=true):(Op.equalIn (d+1) t (.map x) (.map y)).run P w=.ok (x.isNone&&y.isNone) w:=by
 cases x <;> cases y <;> simp at hn <;> simp[Op.equalIn,run_underlying h]
theorem eqIn_func (d:Nat) {t:TypeId} {p q:Array TypeId} {b:Bool} (h:P.underlying t=some (.func p q b)):(Op.equalIn (d+1) t .nilFunc .nilFunc).run P w=.ok true w ∧
  (∀ f x y,(Op.equalIn (d+1) t .nilFunc (.func f x y)).run P w=.ok false w)∧(∀ f x y,(Op.equalIn (d+1) t (.func f x y) .nilFunc).run P w=.ok false w):=by
 refine⟨?_,fun _ _ _=>?_,fun _ _ _=>?_⟩ <;> simp[Op.equalIn,run_underlying h]
theorem eqIn_iface (d:Nat) {t:TypeId} {m:Array (String×TypeId)} (h:P.underlying t=some (.interface m)):(Op.equalIn (d+1) t .nilIface .nilIface).run P w=.ok true w ∧
  (∀ f x,(Op.equalIn (d+1) t .nilIface (.iface f x)).run P w=.ok false w)∧(∀ f x,(Op.equalIn (d+1) t (.iface f x) .nilIface).run P w=.ok false w):=by
 refine⟨?_,fun _ _=>?_,fun _ _=>?_⟩ <;> simp[Op.equalIn,run_underlying h]
theorem eqAs_ok {t:TypeId} {b c:AV} {x y:Operand} {q:Bool} (h:eqAs P t b c (or (isConst x) (isConst y))=some q) {u z:Value} (hu:Rel r b u) (hz:Rel r c z) (op:BinOp) :
  (eqGuard op t x y u z).run P w=.ok () w∧(Op.equal t u z).run P w=.ok q w∧binOp .eql t u z=(do pure (.bool (← Op.equal t u z)))∧binOp .neq t u z=(do pure (.bool (!(← Op.equal t u z)))):=by
 obtain⟨k,h1,h2⟩:=bnd_some h
 have hk:=eqKind_ok h1
 cases k with
 | bool =>
  obtain⟨m,h3,h4⟩:=bnd_some h2
  obtain⟨p,h5,h6⟩:=bnd_some h4
  injection h6 with h6
  have:=asBool_some h3;subst this
  have:=asBool_some h5;subst this
  have hu':=rel_bool.1 hu;have hz':=rel_bool.1 hz
  subst hu';subst hz';subst h6
  refine⟨guard_other (by simp) (by simp) w,?_,rfl,rfl⟩
  refine (eqIn_bool 9999 hk m p).trans ?_
  cases m <;> cases p <;> rfl
 | agg =>
  obtain⟨fs,hk⟩:=hk
  obtain⟨la,h3,h4⟩:=bnd_some h2
  obtain⟨lb,h5,h6⟩:=bnd_some h4
  obtain⟨hg,h7⟩:=sel_none' h6
  obtain⟨xa,h8,h9⟩:=bnd_some h3
  obtain⟨xb,h10,h11⟩:=bnd_some h5
  have:=asAgg_some h8;subst this
  have:=asAgg_some h10;subst this
  obtain⟨ua,rfl,hua⟩:=rel_agg.1 hu
  obtain⟨ub,rfl,hub⟩:=rel_agg.1 hz
  have e1:=plains_ok h9 hua;have e2:=plains_ok h11 hub
  have e1':ua=⟨la⟩:=by cases ua;simp at e1;rw[e1]
  have e2':ub=⟨lb⟩:=by cases ub;simp at e2;rw[e2]
  subst e1';subst e2'
  refine⟨?_,pureRun_ok P h7 w,rfl,rfl⟩
  cases op <;> first | rfl | simp[eqGuard,hg]
 | ptr =>
  obtain⟨ta,h3,h4⟩:=bnd_some h2
  obtain⟨tb,h5,h6⟩:=bnd_some h4
  obtain⟨h7,h8⟩:=sel_none h6
  obtain⟨_,h9⟩:=sel_none' h8
  injection h9 with h9
  obtain⟨p,rfl,rfl⟩:=nilAs_ok h3 hu
  obtain⟨p',rfl,rfl⟩:=nilAs_ok h5 hz
  obtain⟨e,hk⟩:=hk
  refine⟨guard_other (by simp) (by simp) w,?_,rfl,rfl⟩
  subst h9
  exact eqIn_ptr 9999 hk p p' h7
 | slice =>
  obtain⟨ta,h3,h4⟩:=bnd_some h2
  obtain⟨tb,h5,h6⟩:=bnd_some h4
  obtain⟨h7,h8⟩:=sel_none h6
  obtain⟨_,h9⟩:=sel_none' h8
  injection h9 with h9
  obtain⟨p,_,_,rfl,rfl⟩:=nilAs_ok h3 hu
  obtain⟨p',_,_,rfl,rfl⟩:=nilAs_ok h5 hz
  obtain⟨e,hk⟩:=hk
  refine⟨guard_other (by simp) (by simp) w,?_,rfl,rfl⟩
  subst h9
  exact eqIn_slice 9999 hk p p' _ _ _ _ h7
 | map =>
  obtain⟨ta,h3,h4⟩:=bnd_some h2
  obtain⟨tb,h5,h6⟩:=bnd_some h4
  obtain⟨h7,h8⟩:=sel_none h6
  obtain⟨_,h9⟩:=sel_none' h8
  injection h9 with h9
  obtain⟨p,rfl,rfl⟩:=nilAs_ok h3 hu
  obtain⟨p',rfl,rfl⟩:=nilAs_ok h5 hz
  obtain⟨_,_,hk⟩:=hk
  refine⟨guard_other (by simp) (by simp) w,?_,rfl,rfl⟩
  subst h9
  exact eqIn_map 9999 hk p p' h7
 | func =>
  obtain⟨ta,h3,h4⟩:=bnd_some h2
  obtain⟨tb,h5,h6⟩:=bnd_some h4
  obtain⟨h7,h8⟩:=sel_none h6
  obtain⟨_,h9⟩:=sel_none' h8
  injection h9 with h9
  obtain⟨_,_,_,hk⟩:=hk
  subst h9
  rcases nilAs_ok h3 hu with ⟨rfl,rfl⟩ | ⟨rfl,_,_,_,rfl⟩ <;> rcases nilAs_ok h5 hz with ⟨rfl,rfl⟩ | ⟨rfl,_,_,_,rfl⟩ <;> simp at h7
  ·exact⟨guard_other (by simp) (by simp) w,(eqIn_func 9999 hk).1,rfl,rfl⟩
  ·exact⟨guard_other (by simp) (by simp) w,(eqIn_func 9999 hk).2.1 _ _ _,rfl,rfl⟩
  ·exact⟨guard_other (by simp) (by simp) w,(eqIn_func 9999 hk).2.2 _ _ _,rfl,rfl⟩
 | iface =>
  obtain⟨ta,h3,h4⟩:=bnd_some h2
  obtain⟨tb,h5,h6⟩:=bnd_some h4
  obtain⟨h7,h8⟩:=sel_none h6
  obtain⟨hc,h9⟩:=sel_none' h8
  injection h9 with h9
  obtain⟨_,hk⟩:=hk
  subst h9
  rcases nilAs_ok h3 hu with ⟨rfl,rfl⟩ | ⟨rfl,_,_,rfl⟩ <;> rcases nilAs_ok h5 hz with ⟨rfl,rfl⟩ | ⟨rfl,_,_,rfl⟩ <;> simp at h7
  ·refine⟨?_,(eqIn_iface 9999 hk).1,rfl,rfl⟩
   have hc':or (isConst x) (isConst y)=true:=by
    cases hh:or (isConst x) (isConst y) with
    | true=>rfl
    | false=>rw[hh] at hc;exact absurd hc (by decide)
   cases x <;> cases y <;> first | (cases op <;> rfl) | exact absurd hc' (by simp[isConst])
  ·refine⟨?_,(eqIn_iface 9999 hk).2.1 _ _,rfl,rfl⟩
   cases op <;> rfl
  ·exact⟨guard_other (by simp) (by simp) w,(eqIn_iface 9999 hk).2.2 _ _,rfl,rfl⟩
theorem bin_ok (ht:TmOk r n tm a) (hg:Glob P r) {op:BinOp} {t t':TypeId} {x y:Operand} (ho:o.op=.binOp op t x y t')
  (h:bnd (opnd P x tm) (fun u=>bnd (opnd P y tm) fun z=>binP P op t u z (or (isConst x) (isConst y)))=some v):Owes P o a r w v:=by
 obtain⟨b,h1,h2⟩:=bnd_some h
 obtain⟨c,h3,h4⟩:=bnd_some h2
 have hb:=opnd_ok ht hg h1
 have hc:=opnd_ok ht hg h3
 have eqs:∀ {b:AV},Rel r b (a.eval x)→eqOp P op t b c (or (isConst x) (isConst y))=some v→Owes P o a r w v:=by
  intro b hb h4
  cases op <;> simp only[eqOp] at h4
  case eql =>
   obtain⟨q,h5,h6⟩:=bnd_some h4
   injection h6 with h6;subst h6
   obtain⟨e1,e2,e3,e4⟩:=eqAs_ok (w:=w) h5 hb hc .eql
   exact⟨.bool q,by simp[execOp,ho,e1,e3,e2],rel_bool.2 rfl⟩
  case neq =>
   obtain⟨q,h5,h6⟩:=bnd_some h4
   injection h6 with h6;subst h6
   obtain⟨e1,e2,e3,e4⟩:=eqAs_ok (w:=w) h5 hb hc .neq
   exact⟨.bool (!q),by simp[execOp,ho,e1,e4,e2],rel_bool.2 rfl⟩
  all_goals exact absurd h4 (by simp)
 cases b with
 | int k i =>
  obtain⟨p,h5,h6⟩:=bnd_some h4
  have:=asInt_some h5;subst this
  have e1:=rel_int.1 hb;have e2:=rel_int.1 hc
  cases hs:isShift op with
  | true =>
   rw[hs] at h6
   obtain⟨z,h7,h8⟩:=valOf_ok (show valOf (Op.shift op k i p.1 p.2)=some v from h6) P w
   refine⟨z,?_,h8 r⟩
   have:binOp op t (.int k i) (.int p.1 p.2)=Op.shift op k i p.1 p.2:=by cases op <;> simp[isShift] at hs <;> rfl
   simp[execOp,ho,e1,e2,guard_other,this,h7]
  | false =>
   rw[hs] at h6
   obtain⟨h7,h8⟩:=sel_none (show sel (kindEq k p.1) (intBin op k i p.2) none=some v from h6)
   have:=kindEq_eq h7
   obtain⟨z,h9,h10⟩:=intBin_ok (P:=P) (w:=w) hs h8 t
   rw[this] at h9
   refine⟨z,?_,h10 r⟩
   simp[execOp,ho,e1,e2,guard_other,this,h9]
 | str s =>
  obtain⟨s',h5,h6⟩:=bnd_some h4
  have:=asStr_some h5;subst this
  obtain⟨u,e1,e3⟩:=rel_str.1 hb;obtain⟨z,e2,e4⟩:=rel_str.1 hc
  subst e3;subst e4
  obtain⟨q,h7,h8⟩:=strBin_ok (P:=P) (w:=w) h6
  refine⟨q,?_,h8 r⟩
  have:binOp op t (.string u) (.string z)=Op.stringOp op u z:=by cases op <;> rfl
  simp[execOp,ho,e1,e2,guard_other,this,h7]
 | _=>exact eqs hb h4
end
end Go.Proofs.YtdmelebgdaiinaaGreatDoor.Ev
