/- The evaluator: regions that draw their order: what the checks say. The evaluator: regions that draw their order: how they stand in the midst. The evaluator: regions that draw their order: each step in the midst. The evaluator: regions that draw their order: single operations. -/
import Derived.Test.YtdmelebgdaiinaaGreatDoorJ13
set_option linter.unusedVariables false
set_option linter.unusedSimpArgs false
set_option linter.unusedVariables false
set_option linter.unusedSimpArgs false
namespace Go.Proofs.YtdmelebgdaiinaaGreatDoor.Ev
theorem eqA_eq {x y:AV} (h:eqA x y=true):x=y:=by
 cases x <;> cases y <;> first | exact absurd (show false=true from h) (by decide) | rfl | skip
 case bool.bool a b=>cases a <;> cases b <;> first | rfl | exact absurd (show false=true from h) (by decide)
 case int.int k a j b =>
  obtain⟨h1,h2⟩:=and2 (show and (kindEq k j) (iEq a b)=true from h)
  rw[iEq_eq] at h2
  rw[kindEq_eq h1,eq_of_beq h2]
 case str.str s t =>
  have:∀ (s t:List Nat),strEq s t=true→s=t:=by
   intro s
   induction s with
   | nil=>intro t h;cases t with | nil=>rfl | cons _ _=>exact absurd (show false=true from h) (by decide)
   | cons a s ih =>
    intro t h
    cases t with
    | nil=>exact absurd (show false=true from h) (by decide)
    | cons b t =>
     have h':sel (Nat.beq a b) (strEq s t) false=true:=h
     cases hb:Nat.beq a b with
     | false=>rw[hb] at h';exact absurd (show false=true from h') (by decide)
     | true=>rw[hb] at h';rw[beq_eq hb,ih t h']
  rw[this s t h]
 case ptr.ptr b o c p =>
  obtain⟨h1,h2⟩:=and2 (show and (Nat.beq b c) (Nat.beq o p)=true from h)
  rw[beq_eq h1,beq_eq h2]
 case slice.slice b o l c e b' o' l' c' e' =>
  obtain⟨h1,h2⟩:=and2 (show and (Nat.beq b b') (and (Nat.beq o o') (and (Nat.beq l l') (and (Nat.beq c c') (sel e e' (not e')))))=true from h)
  obtain⟨h3,h4⟩:=and2 h2
  obtain⟨h5,h6⟩:=and2 h4
  obtain⟨h7,h8⟩:=and2 h6
  have:e=e':=by cases e <;> cases e' <;> first | rfl | exact absurd (show false=true from h8) (by decide)
  rw[beq_eq h1,beq_eq h3,beq_eq h5,beq_eq h7,this]
 case map.map b c=>rw[beq_eq (show Nat.beq b c=true from h)]
theorem eqAs'_eq:∀ {x y:List AV},eqAs' x y=true→x=y:=by
 intro x
 induction x with
 | nil=>intro y h;cases y with | nil=>rfl | cons _ _=>exact absurd (show false=true from h) (by decide)
 | cons a x ih =>
  intro y h
  cases y with
  | nil=>exact absurd (show false=true from h) (by decide)
  | cons b y =>
   have h':sel (eqA a b) (eqAs' x y) false=true:=h
   cases hb:eqA a b with
   | false=>rw[hb] at h';exact absurd (show false=true from h') (by decide)
   | true=>rw[hb] at h';rw[eqA_eq hb,ih h']
theorem eqV_eq {x y:AV} (h:eqV x y=true):x=y:=by
 cases x <;> first | exact eqA_eq h | skip
 case agg l =>
  cases y <;> first | exact absurd (show false=true from h) (by decide) | skip
  case agg m=>rw[eqAs'_eq (show eqAs' l m=true from h)]
theorem inAll_ok {m:Nat} : ∀ {l:List Nat},inAll m l=true→∀ i∈l,bit m i=true:=by
 intro l
 induction l with
 | nil=>intro _ i hi;exact absurd hi (by simp)
 | cons j l ih =>
  intro h i hi
  have h':sel (bit m j) (inAll m l) false=true:=h
  cases hb:bit m j with
  | false=>rw[hb] at h';exact absurd (show false=true from h') (by decide)
  | true =>
   rw[hb] at h'
   rcases List.mem_cons.1 hi with rfl | hi
   ·exact hb
   ·exact ih h' i hi
theorem pendIdx_eq:∀ (l:List (Nat×Nat×Blk)),pendIdx l=l.map (·.1):=by
 intro l
 induction l with
 | nil=>rfl
 | cons p l ih=>show p.1 :: pendIdx l=_;rw[ih];rfl
theorem orAll_bit {anc:List Nat} {j:Nat} : ∀ {l:List Edge},bit (orAll anc l) j=true→∃ e∈l,Region.binds .any e=true∧(e.on=j∨bit ((nth anc e.on).getD 0) j=true):=by
 intro l
 induction l with
 | nil=>intro h;exact absurd h (by simp[bit,orAll])
 | cons e l ih =>
  intro h
  have h':bit (sel (Region.binds .any e) (Nat.lor (Nat.lor (Nat.pow 2 e.on) ((nth anc e.on).getD 0)) (orAll anc l)) (orAll anc l)) j=true:=h
  cases hb:Region.binds .any e with
  | false =>
   rw[hb] at h'
   obtain⟨e',h1,h2⟩:=ih h'
   exact⟨e',List.mem_cons_of_mem _ h1,h2⟩
  | true =>
   rw[hb] at h'
   have h2:((2 ^ e.on ||| (nth anc e.on).getD 0) ||| orAll anc l).testBit j=true:=h'
   rw[Nat.testBit_or,Nat.testBit_or,Nat.testBit_two_pow] at h2
   simp only[Bool.or_eq_true,decide_eq_true_eq] at h2
   rcases h2 with (h2 | h2) | h2
   ·exact⟨e,List.mem_cons_self,hb,.inl h2⟩
   ·exact⟨e,List.mem_cons_self,hb,.inr h2⟩
   ·obtain⟨e',h3,h4⟩:=ih h2
    exact⟨e',List.mem_cons_of_mem _ h3,h4⟩
theorem ancs_prefix:∀ (l:List Oper) (acc:List Nat),∃ more,ancs l acc=acc++more∧more.length=l.length∧∀ k o,l[k]?=some o→more[k]?=some (orAll (acc++more.take k) o.after.toList):=by
 intro l
 induction l with
 | nil=>intro acc;exact⟨[],by simp[ancs],rfl,fun k o h=>absurd h (by simp)⟩
 | cons o l ih =>
  intro acc
  obtain⟨more,h1,h2,h3⟩:=ih (app acc [orAll acc o.after.toList])
  refine⟨orAll acc o.after.toList :: more,?_,by simp[h2],fun k p hp=>?_⟩
  ·show ancs l (app acc [orAll acc o.after.toList])=_
   rw[h1,app_eq];simp
  ·cases k with
   | zero=>simp at hp;subst hp;simp
   | succ k =>
    simp at hp
    rw[List.getElem?_cons_succ,h3 k p hp,app_eq]
    simp
noncomputable def anc (ops:Array Oper) (i:Nat):Nat:=(nth (ancs ops.toList []) i).getD 0
theorem anc_bit {ops:Array Oper} {i j:Nat} (h:bit (anc ops i) j=true):∃ o e,ops[i]?=some o∧e∈o.after.toList∧Region.binds .any e=true∧(e.on=j∨(e.on<i∧bit (anc ops e.on) j=true)):=by
 obtain⟨more,h1,h2,h3⟩:=ancs_prefix ops.toList []
 rw[List.nil_append] at h1
 unfold anc at h
 rw[nth_eq,h1] at h
 cases ho:ops.toList[i]? with
 | none =>
  have:more[i]?=none:=by
   rw[List.getElem?_eq_none_iff] at ho ⊢;omega
  rw[this] at h
  exact absurd h (by simp[bit])
 | some o =>
  rw[h3 i o ho] at h
  obtain⟨e,q1,q2,q3⟩:=orAll_bit (show bit (orAll ([]++more.take i) o.after.toList) j=true from h)
  refine⟨o,e,by simpa using ho,q1,q2,?_⟩
  rcases q3 with q3 | q3
  ·exact .inl q3
  ·rw[nth_eq,List.nil_append] at q3
   by_cases hlt:e.on<i
   ·refine .inr ⟨hlt,?_⟩
    rw[List.getElem?_take_of_lt hlt] at q3
    unfold anc
    rw[nth_eq,h1]
    exact q3
   ·rw[List.getElem?_eq_none (by simp;omega)] at q3
    exact absurd q3 (by simp[bit])
def Closed (ops:Array Oper) (L:Nat→Bool):Prop:=∀ i o,L i=true→ops[i]?=some o→∀ e∈o.after.toList,Region.binds .any e=true→L e.on=true
theorem closed_anc {ops:Array Oper} {L:Nat→Bool} (hc:Closed ops L):∀ (i:Nat),(∀ o,ops[i]?=some o→∀ e∈o.after.toList,Region.binds .any e=true→L e.on=true)→∀ j,bit (anc ops i) j=true→L j=true:=by
 intro i
 induction i using Nat.strongRecOn with
 | _ i ih =>
  intro hi j hj
  obtain⟨o,e,h1,h2,h3,h4⟩:=anc_bit hj
  have he:=hi o h1 e h2 h3
  rcases h4 with rfl | ⟨h4,h5⟩
  ·exact he
  ·exact ih e.on h4 (fun o' ho'=>hc e.on o' he ho') j h5
theorem closed_anc' {ops:Array Oper} {L:Nat→Bool} (hc:Closed ops L) {i:Nat} (hi:L i=true) {j:Nat} (hj:bit (anc ops i) j=true):L j=true:=closed_anc hc i (fun o ho=>hc i o hi ho) j hj
theorem edgesOk_ok {i:Nat} : ∀ {l:List Edge},edgesOk i l=true→∀ e∈l,Region.binds .any e=true→e.on<i:=by
 intro l
 induction l with
 | nil=>intro _ e he;exact absurd he (by simp)
 | cons x l ih =>
  intro h e he hb
  have h':sel (or (not (Region.binds .any x)) (Nat.blt x.on i)) (edgesOk i l) false=true:=h
  cases hx:or (not (Region.binds .any x)) (Nat.blt x.on i) with
  | false=>rw[hx] at h';exact absurd (show false=true from h') (by decide)
  | true =>
   rw[hx] at h'
   rcases List.mem_cons.1 he with rfl | he
   ·rw[hb] at hx;exact blt_lt (show Nat.blt e.on i=true from hx)
   ·exact ih h' e he hb
theorem apartAll_ok {ops:Array Oper} {o:Oper} {m:Nat} : ∀ {l:List Oper} {i:Nat},apartAll ops o m l i=true→∀ k p,l[k]?=some p→bit m (i+k)=true∨Oper.apart ops p o=true:=by
 intro l
 induction l with
 | nil=>intro i _ k p hp;exact absurd hp (by simp)
 | cons q l ih =>
  intro i h k p hp
  have h':sel (or (bit m i) (Oper.apart ops q o)) (apartAll ops o m l (Nat.succ i)) false=true:=h
  cases hx:or (bit m i) (Oper.apart ops q o) with
  | false=>rw[hx] at h';exact absurd (show false=true from h') (by decide)
  | true =>
   rw[hx] at h'
   cases k with
   | zero =>
    simp at hp;subst hp
    rw[Nat.add_zero]
    simpa using hx
   | succ k =>
    have:=ih h' k p (by simpa using hp)
    rwa [show Nat.succ i+k=i+(k+1) by omega] at this
theorem drawOk_ok {ops:Array Oper} {A:List Nat} : ∀ {l:List Oper} {i:Nat} {done:List Oper},done.length=i→drawOk ops ops.toList A l i done=true→∀ k o,l[k]?=some o →
  (∀ e∈o.after.toList,Region.binds .any e=true→e.on<i+k)∧∀ j p,(done++l.take k)[j]?=some p→bit ((nth A (i+k)).getD 0) j=true∨Oper.apart ops p o=true:=by
 intro l
 induction l with
 | nil=>intro i done _ _ k o ho;exact absurd ho (by simp)
 | cons q l ih =>
  intro i done hd h k o ho
  have h':sel (and (edgesOk i q.after.toList) (apartAll ops q ((nth A i).getD 0) done 0)) (drawOk ops ops.toList A l (Nat.succ i) (app done [q])) false=true:=h
  cases hx:and (edgesOk i q.after.toList) (apartAll ops q ((nth A i).getD 0) done 0) with
  | false=>rw[hx] at h';exact absurd (show false=true from h') (by decide)
  | true =>
   rw[hx] at h'
   obtain⟨h1,h2⟩:=and2 hx
   cases k with
   | zero =>
    simp at ho;subst ho
    refine⟨fun e he hb=>by rw[Nat.add_zero];exact edgesOk_ok h1 e he hb,fun j p hp=>?_⟩
    simp at hp
    have:=apartAll_ok h2 j p hp
    rwa [Nat.zero_add] at this
   | succ k =>
    rw[app_eq] at h'
    have:=ih (by simp[hd]) h' k o (by simpa using ho)
    rw[show Nat.succ i+k=i+(k+1) by omega] at this
    refine⟨this.1,fun j p hp=>this.2 j p ?_⟩
    simpa using hp
theorem region_checks {ops:Array Oper} (h:drawOk ops ops.toList (ancs ops.toList []) ops.toList 0 []=true):(∀ i o,ops[i]?=some o→∀ e∈o.after.toList,Region.binds .any e=true→e.on<i) ∧
  ∀ i j o p,ops[i]?=some o→ops[j]?=some p→j<i→bit (anc ops i) j=true∨Oper.apart ops p o=true:=by
 have key:=drawOk_ok (i:=0) (done:=[]) rfl h
 refine⟨fun i o ho e he hb=>?_,fun i j o p ho hp hj=>?_⟩
 ·have:=(key i o (by simpa using ho)).1 e he hb
  rwa [Nat.zero_add] at this
 ·have:=(key i o (by simpa using ho)).2 j p (by rw[List.nil_append,List.getElem?_take_of_lt hj];simpa using hp)
  rwa [Nat.zero_add] at this
theorem dRun_states {P:Program} {ih:K} {ops:Array Oper} {n:Nat} {A:List Nat} : ∀ {l:List Oper} {i:Nat} {s s':Ds},dRun P ih ops n A l i s=some s' →
  ∃ T:Nat→Ds,T i=s∧(∀ k o,l[k]?=some o→dStep P ih ops n (i+k) ((nth A (i+k)).getD 0) o (T (i+k))=some (T (i+k+1)))∧T (i+l.length)=s':=by
 intro l
 induction l with
 | nil=>intro i s s' h;injection (show some s=some s' from h) with h;subst h;exact⟨fun _=>s,rfl,fun k o ho=>absurd ho (by simp),rfl⟩
 | cons o l ih0 =>
  intro i s s' h
  obtain⟨s1,h1,h2⟩:=bnd_some (show bnd (dStep P ih ops n i ((nth A i).getD 0) o s) (fun s=>dRun P ih ops n A l (Nat.succ i) s)=some s' from h)
  obtain⟨T,t1,t2,t3⟩:=ih0 h2
  refine⟨fun k=>if k≤i then s else T k,by simp,fun k p hp=>?_,?_⟩
  ·cases k with
   | zero =>
    simp at hp;subst hp
    simp only[Nat.add_zero,Nat.le_refl,if_true]
    rw[if_neg (by omega)]
    rw[h1];exact congrArg some t1.symm
   | succ k =>
    have:=t2 k p (by simpa using hp)
    have e1:(if i+(k+1)≤i then s else T (i+(k+1)))=T (i+(k+1)):=if_neg (by omega)
    have e2:(if i+(k+1)+1≤i then s else T (i+(k+1)+1))=T (i+(k+1)+1):=if_neg (by omega)
    show dStep P ih ops n (i+(k+1)) ((nth A (i+(k+1))).getD 0) p (if i+(k+1)≤i then s else T (i+(k+1)))=some (if i+(k+1)+1≤i then s else T (i+(k+1)+1))
    rw[e1,e2]
    rwa [show Nat.succ i+k=i+(k+1) by omega] at this
  ·have e:i+(o :: l).length=Nat.succ i+l.length:=by simp only[List.length_cons];omega
   rw[e]
   show (if Nat.succ i+l.length≤i then s else T (Nat.succ i+l.length))=s'
   rw[if_neg (by omega)]
   exact t3
theorem slot_only (tm:Tr AV):∀ (l:List Tmp) (t:Nat),slot (only l tm) t=if t∈l then slot tm t else .tuple []:=by
 intro l
 induction l with
 | nil=>intro t;simp[only,slot,getP_leaf]
 | cons a l ih =>
  intro t
  have hs:only (a :: l) tm=setP (getP (pos (Nat.succ a)) tm) (pos (Nat.succ a)) (only l tm):=rfl
  have ih':=ih t
  unfold slot at ih' ⊢
  rw[hs]
  by_cases h:t=a
  ·subst h;rw[getP_setP_same];simp
  ·rw[getP_setP_other _ _ _ _ fun e=>h (by have:=pos_inj e;omega),ih']
   simp[h]
theorem df_only (tm:Tr AV):∀ (l:List Tmp),getP .h (only l tm)=none:=by
 intro l
 induction l with
 | nil=>exact getP_leaf _
 | cons a l ih =>
  have hs:only (a :: l) tm=setP (getP (pos (Nat.succ a)) tm) (pos (Nat.succ a)) (only l tm):=rfl
  rw[hs,getP_setP_other _ _ _ _ (Ne.symm (pos_succ_ne a))]
  exact ih
end Go.Proofs.YtdmelebgdaiinaaGreatDoor.Ev
set_option linter.unusedVariables false
set_option linter.unusedSimpArgs false
namespace Go.Proofs.YtdmelebgdaiinaaGreatDoor.Ev
noncomputable def qAt (ops:Array Oper) (T:Nat→Ds) (i:Nat) (o:Oper):Tr AV:=only (Oper.looksAt ops o) (T i).tm
structure Run (P:Program) (ih:K) (ops:Array Oper) (n:Nat) (tm:Tr AV) (hp:Hp) (nx:Nat) (T:Nat→Ds):Prop where
 start:T 0 = { tm,hp,pend:=[],nx,hist:=[],chs:=[],wa:=[] }
 step:∀ i o,ops[i]?=some o→dStep P ih ops n i (anc ops i) o (T i)=some (T (i+1))
 edges:∀ i o,ops[i]?=some o→∀ e∈o.after.toList,Region.binds .any e=true→e.on<i
 pairs:∀ i j o p,ops[i]?=some o→ops[j]?=some p→j<i→bit (anc ops i) j=true∨Oper.apart ops p o=true
def isK (ops:Array Oper) (T:Nat→Ds) (c:Cl) (i:Nat):Prop:=∃ o,ops[i]?=some o∧wanted? ops o.guard (qAt ops T i o)=some true∧clOf o.op=c
section
variable {P : Program} {ih : K} {ops : Array Oper} {n nx : Nat} {tm : Tr AV} {hp : Hp} {T : Nat → Ds}
inductive Stp (P:Program) (ih:K) (ops:Array Oper) (T:Nat→Ds) (i:Nat) (o:Oper):AV→Prop
 | no (hw:wanted? ops o.guard (qAt ops T i o)=some false) (hT:T (i+1) = { T i with tm:=setT o.dst (.tuple []) (T i).tm }):Stp P ih ops T i o (.tuple [])
 | pure (v:AV) (hp':Hp) (nx':Nat) (hw:wanted? ops o.guard (qAt ops T i o)=some true) (hc:clOf o.op=.pure) (hX:opX o.op P (qAt ops T i o) .leaf 0=.ok v hp' nx') (hT:T (i+1) = { T i with tm:=setT o.dst v (T i).tm }):Stp P ih ops T i o v
 | calm (v:AV) (hp':Hp) (nx':Nat) (hw:wanted? ops o.guard (qAt ops T i o)=some true) (hc:clOf o.op=.calm)
   (hX:∃ f args,opX o.op P (qAt ops T i o) .leaf (T i).nx=.call f args∧ih (.call f args) .leaf 0 .leaf (T i).nx=.value v hp' nx'∧lowAs 0 args=true∧lowA 0 v=true) (hT:T (i+1) = { T i with tm:=setT o.dst v (T i).tm }):Stp P ih ops T i o v
 | make (v:AV) (hp':Hp) (nx':Nat) (b:Blk) (hw:wanted? ops o.guard (qAt ops T i o)=some true) (hc:clOf o.op=.make) (hX:opX o.op P (qAt ops T i o) .leaf (T i).nx=.ok v hp' nx') (hb:getB hp' (T i).nx=some b)
   (hT:T (i+1) = { T i with tm:=setT o.dst v (T i).tm,pend:=(i,(T i).nx,b) :: (T i).pend,nx:=Nat.succ (T i).nx }):Stp P ih ops T i o v
 | read (v:AV) (hp':Hp) (nx':Nat) (hw:wanted? ops o.guard (qAt ops T i o)=some true) (hc:clOf o.op=.read) (hX:opX o.op P (qAt ops T i o) (T i).hp 0=.ok v hp' nx') (hk:backOk P o (qAt ops T i o) v (anc ops i) (T i).chs (T i).hist=true)
   (hT:T (i+1) = { T i with tm:=setT o.dst v (T i).tm,wa:=⟨i,o,qAt ops T i o,v,(T i).nx⟩ :: (T i).wa }):Stp P ih ops T i o v
 | chain (v:AV) (hp':Hp) (nx':Nat) (hw:wanted? ops o.guard (qAt ops T i o)=some true) (hc:clOf o.op=.chain) (h1:inAll (anc ops i) (T i).chs=true) (h2:inAll (anc ops i) (pendIdx (T i).pend)=true)
   (hX:opX o.op P (qAt ops T i o) (unpend (T i).pend (T i).hp) (T i).nx=.ok v hp' nx'∨∃ f args,opX o.op P (qAt ops T i o) (unpend (T i).pend (T i).hp) (T i).nx=.call f args∧ih (.call f args) .leaf 0 (unpend (T i).pend (T i).hp) (T i).nx=.value v hp' nx')
   (hn:(T i).nx≤nx') (hwa:waOk P (anc ops i) hp' (T i).wa=true)
   (hT:T (i+1) = { tm:=setT o.dst v (T i).tm,hp:=hp',pend:=[],nx:=nx',hist:=(T i).hp :: (T i).hist,chs:=i :: (T i).chs,wa:=(T i).wa }):Stp P ih ops T i o v
theorem Run.cases (R:Run P ih ops n tm hp nx T) {i:Nat} {o:Oper} (ho:ops[i]?=some o):dstOk o.dst n=true∧∃ v,Stp P ih ops T i o v:=by
 have h:=R.step i o ho
 unfold dStep at h
 obtain⟨h1,h2⟩:=sel_none h
 obtain⟨t,h3,h4⟩:=bnd_some h2
 refine⟨h1,?_⟩
 cases t with
 | false =>
  injection (show some _=some (T (i+1)) from h4) with h4
  exact⟨_,.no h3 h4.symm⟩
 | true =>
  have h5:dDo P ih i (anc ops i) o (qAt ops T i o) (T i)=some (T (i+1)):=h4
  unfold dDo at h5
  cases hc:clOf o.op with
  | pure =>
   rw[hc] at h5
   have h6:dPure P o (qAt ops T i o) (T i)=some (T (i+1)):=h5
   unfold dPure at h6
   split at h6
   ·rename_i v hp' nx' hX;injection h6 with h6;exact⟨v,.pure v hp' nx' h3 hc hX h6.symm⟩
   ·exact absurd h6 (by simp)
  | calm =>
   rw[hc] at h5
   have h6:dCalm P ih o (qAt ops T i o) (T i)=some (T (i+1)):=h5
   unfold dCalm at h6
   split at h6
   ·rename_i f args hX
    split at h6
    ·rename_i v hp' nx' hv
     obtain⟨h7,h8⟩:=sel_none h6
     obtain⟨h9,h10⟩:=and2 h7
     injection h8 with h8
     exact⟨v,.calm v hp' nx' h3 hc ⟨f,args,hX,hv,h9,h10⟩ h8.symm⟩
    ·exact absurd h6 (by simp)
   ·exact absurd h6 (by simp)
  | make =>
   rw[hc] at h5
   have h6:dMake P i o (qAt ops T i o) (T i)=some (T (i+1)):=h5
   unfold dMake at h6
   split at h6
   ·rename_i v hp' nx' hX
    obtain⟨b,h7,h8⟩:=bnd_some h6
    injection h8 with h8
    exact⟨v,.make v hp' nx' b h3 hc hX h7 h8.symm⟩
   ·exact absurd h6 (by simp)
  | read =>
   rw[hc] at h5
   have h6:dRead P i (anc ops i) o (qAt ops T i o) (T i)=some (T (i+1)):=h5
   unfold dRead at h6
   split at h6
   ·rename_i v hp' nx' hX
    obtain⟨h7,h8⟩:=sel_none h6
    injection h8 with h8
    exact⟨v,.read v hp' nx' h3 hc hX h7 h8.symm⟩
   ·exact absurd h6 (by simp)
  | chain =>
   rw[hc] at h5
   have h6:dChainS P ih i (anc ops i) o (qAt ops T i o) (T i)=some (T (i+1)):=h5
   unfold dChainS at h6
   obtain⟨h7,h8⟩:=sel_none h6
   obtain⟨h9,h10⟩:=and2 h7
   have fin:∀ {v hp' nx'},dChain P i (anc ops i) o (T i) v hp' nx'=some (T (i+1))→(T i).nx≤nx'∧waOk P (anc ops i) hp' (T i).wa=true ∧
     T (i+1) = { tm:=setT o.dst v (T i).tm,hp:=hp',pend:=[],nx:=nx',hist:=(T i).hp :: (T i).hist,chs:=i :: (T i).chs,wa:=(T i).wa }:=by
    intro v hp' nx' h
    obtain⟨q1,q2⟩:=sel_none h
    obtain⟨q3,q4⟩:=and2 q1
    injection q2 with q2
    exact⟨ble_le q3,q4,q2.symm⟩
   cases hX:opX o.op P (qAt ops T i o) (unpend (T i).pend (T i).hp) (T i).nx with
   | ok v hp' nx' =>
    rw[hX] at h8
    obtain⟨q1,q2,q3⟩:=fin (show dChain P i (anc ops i) o (T i) v hp' nx'=some (T (i+1)) from h8)
    exact⟨v,.chain v hp' nx' h3 hc h9 h10 (.inl hX) q1 q2 q3⟩
   | call f args =>
    rw[hX] at h8
    have h11:(match ih (.call f args) .leaf 0 (unpend (T i).pend (T i).hp) (T i).nx with | .value v hp nx=>dChain P i (anc ops i) o (T i) v hp nx | _=>none)=some (T (i+1)):=h8
    split at h11
    ·rename_i v hp' nx' hv
     obtain⟨q1,q2,q3⟩:=fin h11
     exact⟨v,.chain v hp' nx' h3 hc h9 h10 (.inr ⟨f,args,hX,hv⟩) q1 q2 q3⟩
    ·exact absurd h11 (by simp)
   | no=>rw[hX] at h8;exact absurd (show none=some (T (i+1)) from h8) (by simp)
theorem isK_no {c:Cl} {i:Nat} {o:Oper} (ho:ops[i]?=some o) (hw:wanted? ops o.guard (qAt ops T i o)=some false):¬ isK ops T c i:=fun ⟨o',h1,h2,_⟩=>by
 rw[ho] at h1;injection h1 with h1;subst h1;rw[hw] at h2;exact absurd h2 (by simp)
theorem isK_iff {c c':Cl} {i:Nat} {o:Oper} (ho:ops[i]?=some o) (hw:wanted? ops o.guard (qAt ops T i o)=some true) (hc:clOf o.op=c'):isK ops T c i↔c'=c:=by
 constructor
 ·rintro ⟨o',h1,h2,h3⟩;rw[ho] at h1;injection h1 with h1;subst h1;rw[hc] at h3;exact h3
 ·intro h;exact⟨o,ho,hw,by rw[hc,h]⟩
theorem Stp.tm_eq {i:Nat} {o:Oper} {v:AV} (h:Stp P ih ops T i o v):(T (i+1)).tm=setT o.dst v (T i).tm:=by
 cases h with
 | no hw hT=>rw[hT]
 | pure _ _ _ hw hc hX hT=>rw[hT]
 | calm _ _ _ hw hc hX hT=>rw[hT]
 | make _ _ _ _ hw hc hX hb hT=>rw[hT]
 | read _ _ _ hw hc hX hk hT=>rw[hT]
 | chain _ _ _ hw hc h1 h2 hX hn hwa hT=>rw[hT]
theorem Stp.nx_le {i:Nat} {o:Oper} {v:AV} (h:Stp P ih ops T i o v):(T i).nx≤(T (i+1)).nx:=by
 cases h with
 | no hw hT=>rw[hT];exact Nat.le_refl _
 | pure _ _ _ hw hc hX hT=>rw[hT];exact Nat.le_refl _
 | calm _ _ _ hw hc hX hT=>rw[hT];exact Nat.le_refl _
 | make _ _ _ _ hw hc hX hb hT=>rw[hT];exact Nat.le_succ _
 | read _ _ _ hw hc hX hk hT=>rw[hT];exact Nat.le_refl _
 | chain _ _ _ hw hc h1 h2 hX hn hwa hT=>rw[hT];exact hn
theorem Run.nx_le (R:Run P ih ops n tm hp nx T) {i:Nat} (hi:i<ops.size):(T i).nx≤(T (i+1)).nx:=by
 obtain⟨_,v,h⟩:=R.cases (Array.getElem?_eq_getElem hi)
 exact h.nx_le
theorem Run.nx_mono (R : Run P ih ops n tm hp nx T) {i j : Nat} (hij : i ≤ j) (hj : j ≤ ops.size) : (T i).nx ≤ (T j).nx := by
  induction j with
  | zero => have : i = 0 := by omega
            subst this; exact Nat.le_refl _
  | succ j ihj =>
    by_cases h : i = j + 1
    · subst h; exact Nat.le_refl _
    · exact Nat.le_trans (ihj (by omega) (by omega)) (R.nx_le (by omega))
theorem Run.before (R:Run P ih ops n tm hp nx T):∀ i,i≤ops.size→(∀ j,j<i→isK ops T .chain j→j∈(T i).chs)∧(∀ j,j<i→isK ops T .make j→j∈pendIdx (T i).pend∨∃ c,c<i∧isK ops T .chain c∧bit (anc ops c) j=true):=by
 intro i
 induction i with
 | zero=>intro _;exact⟨fun j h=>absurd h (by omega),fun j h=>absurd h (by omega)⟩
 | succ i ihi =>
  intro hi
  obtain⟨h1,h2⟩:=ihi (by omega)
  have ho:ops[i]?=some ops[i]:=Array.getElem?_eq_getElem (by omega)
  obtain⟨_,v,hS⟩:=R.cases ho
  have lift:∀ j,(j∈pendIdx (T i).pend∨∃ c,c<i∧isK ops T .chain c∧bit (anc ops c) j=true)→(∀ k∈pendIdx (T i).pend,k∈pendIdx (T (i+1)).pend∨∃ c,c<i+1∧isK ops T .chain c∧bit (anc ops c) k=true) →
    j∈pendIdx (T (i+1)).pend∨∃ c,c<i+1∧isK ops T .chain c∧bit (anc ops c) j=true:=by
   intro j h hh
   rcases h with h | ⟨c,c1,c2,c3⟩
   ·exact hh j h
   ·exact .inr ⟨c,by omega,c2,c3⟩
  cases hS with
  | no hw hT =>
   refine⟨fun j hj hk=>?_,fun j hj hk=>?_⟩
   ·by_cases e:j=i
    ·subst e;exact absurd hk (isK_no ho hw)
    ·rw[hT];exact h1 j (by omega) hk
   ·by_cases e:j=i
    ·subst e;exact absurd hk (isK_no ho hw)
    ·exact lift j (h2 j (by omega) hk) fun k hk=>.inl (by rw[hT];exact hk)
  | pure _ _ _ hw hc hX hT =>
   refine⟨fun j hj hk=>?_,fun j hj hk=>?_⟩
   ·by_cases e:j=i
    ·subst e;exact absurd ((isK_iff ho hw hc).1 hk) (by simp)
    ·rw[hT];exact h1 j (by omega) hk
   ·by_cases e:j=i
    ·subst e;exact absurd ((isK_iff ho hw hc).1 hk) (by simp)
    ·exact lift j (h2 j (by omega) hk) fun k hk=>.inl (by rw[hT];exact hk)
  | calm _ _ _ hw hc hX hT =>
   refine⟨fun j hj hk=>?_,fun j hj hk=>?_⟩
   ·by_cases e:j=i
    ·subst e;exact absurd ((isK_iff ho hw hc).1 hk) (by simp)
    ·rw[hT];exact h1 j (by omega) hk
   ·by_cases e:j=i
    ·subst e;exact absurd ((isK_iff ho hw hc).1 hk) (by simp)
    ·exact lift j (h2 j (by omega) hk) fun k hk=>.inl (by rw[hT];exact hk)
  | make _ _ _ b hw hc hX hb hT =>
   refine⟨fun j hj hk=>?_,fun j hj hk=>?_⟩
   ·by_cases e:j=i
    ·subst e;exact absurd ((isK_iff ho hw hc).1 hk) (by simp)
    ·rw[hT];exact h1 j (by omega) hk
   ·by_cases e:j=i
    ·subst e;rw[hT];exact .inl (by rw[pendIdx_eq];exact List.mem_cons_self)
    ·exact lift j (h2 j (by omega) hk) fun k hk=>.inl (by rw[hT,pendIdx_eq];rw[pendIdx_eq] at hk;exact List.mem_cons_of_mem _ hk)
  | read _ _ _ hw hc hX hk' hT =>
   refine⟨fun j hj hk=>?_,fun j hj hk=>?_⟩
   ·by_cases e:j=i
    ·subst e;exact absurd ((isK_iff ho hw hc).1 hk) (by simp)
    ·rw[hT];exact h1 j (by omega) hk
   ·by_cases e:j=i
    ·subst e;exact absurd ((isK_iff ho hw hc).1 hk) (by simp)
    ·exact lift j (h2 j (by omega) hk) fun k hk=>.inl (by rw[hT];exact hk)
  | chain _ _ _ hw hc g1 g2 hX hn hwa hT =>
   refine⟨fun j hj hk=>?_,fun j hj hk=>?_⟩
   ·rw[hT]
    by_cases e:j=i
    ·subst e;exact List.mem_cons_self
    ·exact List.mem_cons_of_mem _ (h1 j (by omega) hk)
   ·by_cases e:j=i
    ·subst e;exact absurd ((isK_iff ho hw hc).1 hk) (by simp)
    ·exact lift j (h2 j (by omega) hk) fun k hk=>.inr ⟨i,by omega,(isK_iff ho hw hc).2 rfl,inAll_ok g2 k hk⟩
theorem Run.chain_all (R:Run P ih ops n tm hp nx T) {L:Nat→Bool} (hc:Closed ops L) {c:Nat} (hcc:isK ops T .chain c) (ha:∀ j,bit (anc ops c) j=true→L j=true):∀ j,j<c→(isK ops T .make j∨isK ops T .chain j)→L j=true:=by
 obtain⟨o,ho,hw,hcl⟩:=hcc
 have hlt:c<ops.size:=(Array.getElem?_eq_some_iff.1 ho).1
 obtain⟨b1,b2⟩:=R.before c (by omega)
 obtain⟨_,v,hS⟩:=R.cases ho
 cases hS with
 | no hw' hT=>rw[hw] at hw';exact absurd hw' (by simp)
 | pure _ _ _ hw' hc' hX hT=>rw[hcl] at hc';exact absurd hc' (by simp)
 | calm _ _ _ hw' hc' hX hT=>rw[hcl] at hc';exact absurd hc' (by simp)
 | make _ _ _ _ hw' hc' hX hb hT=>rw[hcl] at hc';exact absurd hc' (by simp)
 | read _ _ _ hw' hc' hX hk hT=>rw[hcl] at hc';exact absurd hc' (by simp)
 | chain _ _ _ hw' hc' g1 g2 hX hn hwa hT =>
  have hch:∀ j,j<c→isK ops T .chain j→L j=true:=fun j hj hk=>ha j (inAll_ok g1 j (b1 j hj hk))
  intro j hj hk
  rcases hk with hk | hk
  ·rcases b2 j hj hk with h | ⟨c',q1,q2,q3⟩
   ·exact ha j (inAll_ok g2 j h)
   ·exact closed_anc' hc (hch c' q1 q2) q3
  ·exact hch j hj hk
end
def headB (l:List (Nat×Nat×Blk)):Blk:=match l with | p :: _=>p.2.2 | []=>.map [] false
open Classical in
noncomputable def hd (ops:Array Oper) (hp:Hp) (T:Nat→Ds) (L:Nat→Bool):Nat→H
 | 0=>getB hp
 | i+1=>if L i=true∧isK ops T .chain i then getB (T (i+1)).hp
  else if L i=true∧isK ops T .make i then putH (hd ops hp T L i) (T i).nx (headB (T (i+1)).pend) else hd ops hp T L i
open Classical in
noncomputable def lc (ops:Array Oper) (T:Nat→Ds) (L:Nat→Bool):Nat→Nat
 | 0=>0
 | i+1=>if L i=true∧isK ops T .chain i then i+1 else lc ops T L i
open Classical in
noncomputable def lw (ops:Array Oper) (L:Nat→Bool) (t:Tmp):Nat→Nat
 | 0=>0
 | i+1=>if L i=true∧(ops[i]?).bind (·.dst)=some t then i+1 else lw ops L t i
section
variable {P : Program} {ih : K} {ops : Array Oper} {n nx : Nat} {tm : Tr AV} {hp : Hp} {T : Nat → Ds} {L : Nat → Bool}
theorem lw_spec (t:Tmp):∀ k,lw ops L t k≤k∧(∀ b,lw ops L t k=b+1→L b=true∧(ops[b]?).bind (·.dst)=some t)∧∀ j,lw ops L t k≤j→j<k→¬ (L j=true∧(ops[j]?).bind (·.dst)=some t):=by
 intro k
 induction k with
 | zero=>exact⟨Nat.le_refl _,fun b h=>absurd h (by simp[lw]),fun j h1 h2=>absurd h2 (by omega)⟩
 | succ k ihk =>
  unfold lw
  split
  ·rename_i h
   exact⟨Nat.le_refl _,fun b hb=>by injection hb with hb;subst hb;exact h,fun j h1 h2=>absurd h2 (by omega)⟩
  ·rename_i h
   refine⟨by omega,ihk.2.1,fun j h1 h2=>?_⟩
   by_cases e:j=k
   ·subst e;exact h
   ·exact ihk.2.2 j h1 (by omega)
theorem lc_spec:∀ k,lc ops T L k≤k∧(∀ b,lc ops T L k=b+1→L b=true∧isK ops T .chain b)∧∀ j,lc ops T L k≤j→j<k→¬ (L j=true∧isK ops T .chain j):=by
 intro k
 induction k with
 | zero=>exact⟨Nat.le_refl _,fun b h=>absurd h (by simp[lc]),fun j h1 h2=>absurd h2 (by omega)⟩
 | succ k ihk =>
  unfold lc
  split
  ·rename_i h
   exact⟨Nat.le_refl _,fun b hb=>by injection hb with hb;subst hb;exact h,fun j h1 h2=>absurd h2 (by omega)⟩
  ·rename_i h
   refine⟨by omega,ihk.2.1,fun j h1 h2=>?_⟩
   by_cases e:j=k
   ·subst e;exact h
   ·exact ihk.2.2 j h1 (by omega)
theorem hd_congr {L':Nat→Bool} : ∀ k,(∀ j,j<k→(isK ops T .make j∨isK ops T .chain j)→L j=L' j)→hd ops hp T L k=hd ops hp T L' k:=by
 intro k
 induction k with
 | zero=>intro _;rfl
 | succ k ihk =>
  intro h
  have ih':=ihk fun j hj=>h j (by omega)
  unfold hd
  by_cases h1:isK ops T .chain k
  ·rw[h k (by omega) (.inr h1),ih']
  ·by_cases h2:isK ops T .make k
   ·rw[h k (by omega) (.inl h2),ih']
   ·simp only[h1,h2,and_false,if_false,ih']
theorem hd_text (R:Run P ih ops n tm hp nx T):∀ i,i≤ops.size→getB (unpend (T i).pend (T i).hp)=hd ops hp T (fun _=>true) i:=by
 intro i
 induction i with
 | zero=>intro _;rw[R.start];rfl
 | succ i ihi =>
  intro hi
  have ho:ops[i]?=some ops[i]:=Array.getElem?_eq_getElem (by omega)
  obtain⟨_,v,hS⟩:=R.cases ho
  have ih':=ihi (by omega)
  unfold hd
  cases hS with
  | no hw hT=>rw[if_neg fun h=>isK_no ho hw h.2,if_neg fun h=>isK_no ho hw h.2,← ih',hT]
  | pure _ _ _ hw hc hX hT=>rw[if_neg fun h=>absurd ((isK_iff ho hw hc).1 h.2) (by simp),if_neg fun h=>absurd ((isK_iff ho hw hc).1 h.2) (by simp),← ih',hT]
  | calm _ _ _ hw hc hX hT=>rw[if_neg fun h=>absurd ((isK_iff ho hw hc).1 h.2) (by simp),if_neg fun h=>absurd ((isK_iff ho hw hc).1 h.2) (by simp),← ih',hT]
  | make _ _ _ b hw hc hX hb hT =>
   rw[if_neg fun h=>absurd ((isK_iff ho hw hc).1 h.2) (by simp),if_pos ⟨rfl,(isK_iff ho hw hc).2 rfl⟩,← ih',hT]
   show getB (setB (some b) (T i).nx (unpend (T i).pend (T i).hp))=_
   rw[getB_put]
   rfl
  | read _ _ _ hw hc hX hk hT=>rw[if_neg fun h=>absurd ((isK_iff ho hw hc).1 h.2) (by simp),if_neg fun h=>absurd ((isK_iff ho hw hc).1 h.2) (by simp),← ih',hT]
  | chain _ _ _ hw hc g1 g2 hX hn hwa hT=>rw[if_pos ⟨rfl,(isK_iff ho hw hc).2 rfl⟩,hT];rfl
theorem hd_low (R : Run P ih ops n tm hp nx T) {i : Nat} {b : Nat} (hb : b < (T i).nx) : ∀ j, i ≤ j → j ≤ ops.size → (∀ k, i ≤ k → k < j → ¬ (L k = true ∧ isK ops T .chain k)) → hd ops hp T L j b = hd ops hp T L i b := by
  intro j
  induction j with
  | zero => intro h1 _ _; have : i = 0 := by omega
            subst this; rfl
  | succ j ihj =>
    intro h1 h2 h3
    by_cases e : i = j + 1
    · subst e; rfl
    · have := ihj (by omega) (by omega) fun k q1 q2 => h3 k q1 (by omega)
      rw [← this]
      conv => lhs; unfold hd
      rw [if_neg (h3 j (by omega) (by omega))]
      split
      · have hle := R.nx_mono (show i ≤ j by omega) (by omega)
        unfold putH
        rw [if_neg (by omega)]
      · rfl
theorem hd_dom (R:Run P ih ops n tm hp nx T) (h0:∀ b k,getB hp b=some k→b<nx) (hl:∀ c,L c=true→isK ops T .chain c→∀ b k,getB (T (c+1)).hp b=some k→b<(T (c+1)).nx) :
  ∀ i,i≤ops.size→∀ b k,hd ops hp T L i b=some k→b<(T i).nx:=by
 intro i
 induction i with
 | zero=>intro _ b k h;rw[R.start];exact h0 b k h
 | succ i ihi =>
  intro hi b k h
  have hle:=R.nx_le (show i<ops.size by omega)
  unfold hd at h
  split at h
  ·rename_i hq;exact hl i hq.1 hq.2 b k h
  ·split at h
   ·rename_i hq
    unfold putH at h
    split at h
    ·rename_i e
     obtain⟨o,ho,hw,hc⟩:=hq.2
     obtain⟨_,v,hS⟩:=R.cases ho
     cases hS with
     | no hw' hT=>rw[hw] at hw';exact absurd hw' (by simp)
     | pure _ _ _ hw' hc' hX hT=>rw[hc] at hc';exact absurd hc' (by simp)
     | calm _ _ _ hw' hc' hX hT=>rw[hc] at hc';exact absurd hc' (by simp)
     | make _ _ _ _ hw' hc' hX hb hT=>rw[hT,e];exact Nat.lt_succ_self _
     | read _ _ _ hw' hc' hX hk hT=>rw[hc] at hc';exact absurd hc' (by simp)
     | chain _ _ _ hw' hc' _ _ hX hn hwa hT=>rw[hc] at hc';exact absurd hc' (by simp)
    ·exact Nat.lt_of_lt_of_le (ihi (by omega) b k h) hle
   ·exact Nat.lt_of_lt_of_le (ihi (by omega) b k h) hle
end
end Go.Proofs.YtdmelebgdaiinaaGreatDoor.Ev
set_option linter.unusedVariables false
set_option linter.unusedSimpArgs false
namespace Go.Proofs.YtdmelebgdaiinaaGreatDoor.Ev
def below (r:Rho) (m:Nat):Rho:=fun b=>if b<m then r b else none
theorem below_le (r:Rho) (m:Nat):(below r m).le r:=fun b x h=>by
 unfold below at h;split at h
 ·exact h
 ·exact absurd h (by simp)
theorem below_mono {r s:Rho} (h:r.le s) {m k:Nat} (hk:m≤k):(below r m).le (below s k):=fun b x hb=>by
 unfold below at hb ⊢;split at hb
 ·rw[if_pos (by omega)];exact h _ _ hb
 ·exact absurd hb (by simp)
theorem below_fresh (r:Rho) (m:Nat):Fresh m (below r m):=fun b hb=>by unfold below;rw[if_neg (by omega)]
theorem below_some {r:Rho} {m b:Nat} {x:BI} (h:below r m b=some x):b<m∧r b=some x:=by
 unfold below at h;split at h
 ·rename_i hb;exact⟨hb,h⟩
 ·exact absurd h (by simp)
def setL (L:Nat→Bool) (i:Nat):Nat→Bool:=fun j=>if j=i then true else L j
section
variable {P : Program} {ih : K} {ops : Array Oper} {n nx : Nat} {tm : Tr AV} {hp : Hp} {T : Nat → Ds} {L : Nat → Bool} {r : Rho} {w : World} {a : Act}
structure Inv (P:Program) (ops:Array Oper) (n:Nat) (hp:Hp) (T:Nat→Ds) (r:Rho) (w:World) (a:Act) (L:Nat→Bool) (r':Rho) (a':Act) (w':World):Prop where
 size:a'.tmps.size=n
 defs:a'.defers=a.defers
 slot:∀ t,Rel (below r' (T (lw ops L t ops.size)).nx) (slot (T (lw ops L t ops.size)).tm t) (a'.tmps.getD t undef)
 gam:∀ k,lc ops T L ops.size≤k→k≤ops.size→Gam (hd ops hp T L k) (below r' (T k).nx) w'
 real:∀ b x,r' b=some x→x.blk<w'.heap.size
 ext:Ext r r' w
 fr:Fr r w w'
 dom:∀ b,r' b≠none→b<(T (lc ops T L ops.size)).nx∨∃ j,lc ops T L ops.size≤j∧j<ops.size∧isK ops T .make j∧L j=true∧b=(T j).nx
 apt:∀ j,lc ops T L ops.size≤j→isK ops T .make j→L j=true→∃ y,r' (T j).nx=some y∧y.ro=false∧∀ b x,b≠(T j).nx→r' b=some x→x.blk≠y.blk
 low:∀ c,L c=true→isK ops T .chain c→∀ b k,getB (T (c+1)).hp b=some k→b<(T (c+1)).nx
theorem lw_set_other {i:Nat} {t:Tmp} (h:(ops[i]?).bind (·.dst)≠some t):∀ k,lw ops (setL L i) t k=lw ops L t k:=by
 intro k
 induction k with
 | zero=>rfl
 | succ k ihk =>
  unfold lw
  by_cases e:k=i
  ·subst e;rw[if_neg fun q=>h q.2,if_neg fun q=>h q.2,ihk]
  ·have:setL L i k=L k:=by unfold setL;rw[if_neg e]
   rw[this,ihk]
theorem lw_set_same {i:Nat} {t:Tmp} (h:(ops[i]?).bind (·.dst)=some t):∀ k,i<k→(∀ j,i<j→j<k→(ops[j]?).bind (·.dst)=some t→L j=false)→lw ops (setL L i) t k=i+1:=by
 intro k
 induction k with
 | zero=>intro hi;omega
 | succ k ihk =>
  intro hi hj
  unfold lw
  by_cases e:k=i
  ·subst e
   have:setL L k k=true:=by unfold setL;rw[if_pos rfl]
   rw[if_pos ⟨this,h⟩]
  ·have:setL L i k=L k:=by unfold setL;rw[if_neg e]
   rw[if_neg fun q=>by rw[this,hj k (by omega) (by omega) q.2] at q;exact absurd q.1 (by decide)]
   exact ihk (by omega) fun j q1 q2=>hj j q1 (by omega)
theorem lc_set_other {i:Nat} (h:¬ isK ops T .chain i):∀ k,lc ops T (setL L i) k=lc ops T L k:=by
 intro k
 induction k with
 | zero=>rfl
 | succ k ihk =>
  unfold lc
  by_cases e:k=i
  ·subst e;rw[if_neg fun q=>h q.2,if_neg fun q=>h q.2,ihk]
  ·have:setL L i k=L k:=by unfold setL;rw[if_neg e]
   rw[this,ihk]
theorem lc_set_same {i:Nat} (h:isK ops T .chain i):∀ k,i<k→(∀ j,i<j→j<k→isK ops T .chain j→L j=false)→lc ops T (setL L i) k=i+1:=by
 intro k
 induction k with
 | zero=>intro hi;omega
 | succ k ihk =>
  intro hi hj
  unfold lc
  by_cases e:k=i
  ·subst e
   have:setL L k k=true:=by unfold setL;rw[if_pos rfl]
   rw[if_pos ⟨this,h⟩]
  ·have:setL L i k=L k:=by unfold setL;rw[if_neg e]
   rw[if_neg fun q=>by rw[this,hj k (by omega) (by omega) q.2] at q;exact absurd q.1 (by decide)]
   exact ihk (by omega) fun j q1 q2=>hj j q1 (by omega)
theorem slot_setT (dst:Option Tmp) (v:AV) (tm:Tr AV) (t:Tmp):slot (setT dst v tm) t=if dst=some t then v else slot tm t:=by
 unfold setT
 cases dst with
 | none=>simp
 | some d =>
  simp only[slot_set,Option.some.injEq]
  by_cases h:t=d
  ·subst h;simp
  ·rw[if_neg h,if_neg fun e=>h e.symm]
theorem slot_keep (R : Run P ih ops n tm hp nx T) {t : Tmp} {b : Nat} : ∀ i, b ≤ i → i ≤ ops.size → (∀ j, b ≤ j → j < i → (ops[j]?).bind (·.dst) ≠ some t) → slot (T i).tm t = slot (T b).tm t := by
  intro i
  induction i with
  | zero => intro h _ _; have : b = 0 := by omega
            subst this; rfl
  | succ i ihi =>
    intro h1 h2 h3
    by_cases e : b = i + 1
    · subst e; rfl
    · have ho : ops[i]? = some ops[i] := Array.getElem?_eq_getElem (by omega)
      obtain ⟨_, v, hS⟩ := R.cases ho
      rw [hS.tm_eq, slot_setT, if_neg fun q => h3 i (by omega) (by omega) (by rw [ho]; exact q)]
      exact ihi (by omega) (by omega) fun j q1 q2 => h3 j q1 (by omega)
theorem looks (R:Run P ih ops n tm hp nx T) (hc:Closed ops L) {i:Nat} {o:Oper} (ho:ops[i]?=some o) (hL:L i=false) (ha:∀ j,bit (anc ops i) j=true→L j=true) {t:Tmp} (ht:t∈Oper.looksAt ops o∨o.dst=some t) :
  (∀ j,j<i→(ops[j]?).bind (·.dst)=some t→L j=true)∧(∀ j,i<j→(ops[j]?).bind (·.dst)=some t→L j=false):=by
 refine⟨fun j hj hd=>?_,fun j hj hd=>?_⟩
 ·cases hp':ops[j]? with
  | none=>rw[hp'] at hd;exact absurd hd (by simp)
  | some p =>
   rw[hp'] at hd
   have hd:p.dst=some t:=hd
   rcases R.pairs i j o p ho hp' hj with h | h
   ·exact ha j h
   ·obtain⟨s1,s2,s3⟩:=Oper.apart_spec h
    rcases ht with ht | ht
    ·exact absurd ht (s1 t hd)
    ·exact absurd ht (s2 t hd)
 ·cases hp':ops[j]? with
  | none=>rw[hp'] at hd;exact absurd hd (by simp)
  | some p =>
   rw[hp'] at hd
   have hd:p.dst=some t:=hd
   cases hj':L j with
   | false=>rfl
   | true =>
    rcases R.pairs j i p o hp' ho hj with h | h
    ·have:=closed_anc' hc hj' h;rw[hL] at this;exact absurd this (by decide)
    ·obtain⟨s1,s2,s3⟩:=Oper.apart_spec h
     rcases ht with ht | ht
     ·exact absurd ht (s3 t hd)
     ·exact absurd hd (s2 t ht)
theorem lw_le (R:Run P ih ops n tm hp nx T) {i:Nat} (hL:L i=false) {t:Tmp} (h:∀ j,i<j→(ops[j]?).bind (·.dst)=some t→L j=false):lw ops L t ops.size≤i:=by
 obtain⟨h1,h2,h3⟩:=lw_spec (ops:=ops) (L:=L) t ops.size
 cases hb:lw ops L t ops.size with
 | zero=>omega
 | succ b =>
  obtain⟨q1,q2⟩:=h2 b hb
  have:¬ i<b:=fun hlt=>by rw[h b hlt q2] at q1;exact absurd q1 (by decide)
  have:b≠i:=fun e=>by subst e;rw[hL] at q1;exact absurd q1 (by decide)
  omega
def acO (l:List Tmp) (n:Nat) (a:Act):Act:={ tmps:=(Array.range n).map fun t=>if t∈l then a.tmps.getD t undef else undef,defers:=[] }
theorem acO_get (l:List Tmp) (n:Nat) (a:Act) (t:Tmp):(acO l n a).tmps.getD t undef=if t<n then (if t∈l then a.tmps.getD t undef else undef) else undef:=by
 unfold acO
 simp only[Array.getD_eq_getD_getElem?,Array.getElem?_map,Array.getElem?_range]
 by_cases h:t<n
 ·simp[h]
 ·simp[h]
theorem acO_mem {l:List Tmp} {n:Nat} {a:Act} (hs:a.tmps.size=n) {t:Tmp} (ht:t∈l):(acO l n a).tmps.getD t undef=a.tmps.getD t undef:=by
 rw[acO_get]
 by_cases h:t<n
 ·rw[if_pos h,if_pos ht]
 ·rw[if_neg h,Array.getD_eq_getD_getElem?,Array.getElem?_eq_none (show a.tmps.size≤t by rw[hs];exact Nat.not_lt.1 h)];rfl
theorem acO_ok (R:Run P ih ops n tm hp nx T) (hc:Closed ops L) {r':Rho} {a':Act} {w':World} (I:Inv P ops n hp T r w a L r' a' w') {i:Nat} {o:Oper} (ho:ops[i]?=some o) (hL:L i=false)
  (ha:∀ j,bit (anc ops i) j=true→L j=true):TmOk (below r' (T i).nx) n (qAt ops T i o) (acO (Oper.looksAt ops o) n a'):=by
 have hi:i<ops.size:=(Array.getElem?_eq_some_iff.1 ho).1
 refine⟨by simp[acO],fun t=>?_,?_⟩
 ·unfold qAt
  rw[slot_only]
  by_cases ht:t∈Oper.looksAt ops o
  ·rw[if_pos ht,acO_mem I.size ht]
   obtain⟨w1,w2⟩:=looks R hc ho hL ha (.inl ht)
   have hle:=lw_le R hL w2
   have hk:=slot_keep R (t:=t) (b:=lw ops L t ops.size) i hle (by omega) fun j q1 q2 q3=>(lw_spec (ops:=ops) (L:=L) t ops.size).2.2 j q1 (by omega) ⟨w1 j q2 q3,q3⟩
   rw[hk]
   exact (I.slot t).mono (below_mono (Rho.le_refl _) (R.nx_mono hle (by omega))) _ _
  ·rw[if_neg ht,acO_get]
   have:(if t<n then (if t∈Oper.looksAt ops o then a'.tmps.getD t undef else undef) else undef)=undef:=by
    rw[if_neg ht];split <;> rfl
   rw[this]
   exact rel_undef
 ·unfold qAt
  rw[df_only];rfl
theorem acO_exec {a':Act} (hs:a'.tmps.size=n) {o:Oper} (hsel:∀ cs b,o.op≠.select cs b):execOp (acO (Oper.looksAt ops o) n a').eval o=execOp a'.eval o:=by
 refine execOp_congr o hsel fun x hx=>?_
 cases x with
 | tmp t =>
  have ht:t∈Oper.looksAt ops o:=List.mem_append_left _ (List.mem_filterMap.2 ⟨.tmp t,by simpa using hx,rfl⟩)
  exact acO_mem hs ht
 | _=>rfl
theorem acO_wanted {a':Act} (hs:a'.tmps.size=n) {o:Oper} : Region.wanted o (yielded ops (acO (Oper.looksAt ops o) n a').tmps)=Region.wanted o (yielded ops a'.tmps):=by
 unfold Region.wanted
 cases hg:o.guard with
 | none=>rfl
 | some p =>
  obtain⟨j,want⟩:=p
  have hy:yielded ops (acO (Oper.looksAt ops o) n a').tmps j=yielded ops a'.tmps j:=by
   unfold yielded
   cases hd:(ops[j]?).bind (·.dst) with
   | none=>rfl
   | some d =>
    have hm:d∈Oper.looksAt ops o:=by
     unfold Oper.looksAt
     rw[hg]
     refine List.mem_append_right _ ?_
     simp only[hd,Option.toList_some]
     exact List.mem_cons_self
    have e:(acO (Oper.looksAt ops o) n a').tmps[d]?=a'.tmps[d]?:=by
     have:=acO_mem hs hm
     by_cases hdn:d<n
     ·simp only[acO,Array.getElem?_map,Array.getElem?_range,hdn,if_true,Option.map_some,hm]
      rw[Array.getD_eq_getD_getElem?,Array.getElem?_eq_getElem (show d<a'.tmps.size by rw[hs];exact hdn)]
      rfl
     ·rw[Array.getElem?_eq_none (show (acO (Oper.looksAt ops o) n a').tmps.size≤d by simp only[acO,Array.size_map,Array.size_range];exact Nat.not_lt.1 hdn),Array.getElem?_eq_none (show a'.tmps.size≤d by rw[hs];exact Nat.not_lt.1 hdn)]
    simp only[Option.bind_some,e]
  simp only[hy]
theorem slot_step (R:Run P ih ops n tm hp nx T) {r' r'':Rho} {a':Act} (hslot:∀ t,Rel (below r' (T (lw ops L t ops.size)).nx) (slot (T (lw ops L t ops.size)).tm t) (a'.tmps.getD t undef)) (hs:a'.tmps.size=n) (hle:r'.le r'')
  {i:Nat} {o:Oper} (ho:ops[i]?=some o) (hdst:dstOk o.dst n=true) (h2:∀ t,o.dst=some t→∀ j,i<j→(ops[j]?).bind (·.dst)=some t→L j=false) {v:AV} (hS:Stp P ih ops T i o v) {x:Value} (hx:Rel (below r'' (T (i+1)).nx) v x) :
  (a'.put o.dst x).tmps.size=n∧∀ t,Rel (below r'' (T (lw ops (setL L i) t ops.size)).nx) (slot (T (lw ops (setL L i) t ops.size)).tm t) ((a'.put o.dst x).tmps.getD t undef):=by
 have hi:i<ops.size:=(Array.getElem?_eq_some_iff.1 ho).1
 refine⟨by cases hd:o.dst <;> simp[Act.put,hs],fun t=>?_⟩
 by_cases hd:o.dst=some t
 ·rw[lw_set_same (by rw[ho];exact hd) ops.size hi fun j q1 q2 q3=>h2 t hd j q1 q3,hS.tm_eq,slot_setT,if_pos hd]
  rw[hd] at hdst ⊢
  have htn:t<n:=blt_lt (show Nat.blt t n=true from hdst)
  have:(a'.put (some t) x).tmps.getD t undef=x:=by
   simp only[Act.put,Array.getD_eq_getD_getElem?]
   rw[Array.getElem?_setIfInBounds_self,if_pos (show t<a'.tmps.size by rw[hs];exact htn)];rfl
  rw[this];exact hx
 ·rw[lw_set_other (by rw[ho];exact hd)]
  have:(a'.put o.dst x).tmps.getD t undef=a'.tmps.getD t undef:=by
   cases hd':o.dst with
   | none=>rfl
   | some d =>
    have:d≠t:=fun e=>hd (by rw[hd',e])
    simp only[Act.put,Array.getD_eq_getD_getElem?]
    rw[Array.getElem?_setIfInBounds_ne this]
  rw[this]
  exact (hslot t).mono (below_mono hle (Nat.le_refl _)) _ _
end
end Go.Proofs.YtdmelebgdaiinaaGreatDoor.Ev
set_option linter.unusedVariables false
set_option linter.unusedSimpArgs false
namespace Go.Proofs.YtdmelebgdaiinaaGreatDoor.Ev
section
variable {P : Program} {r : Rho} {n : Nat} {tm : Tr AV} {a : Act} {w : World} {o : Oper} {hp hp' : Hp} {nx nx' : Nat} {v : AV}
theorem pureR_inv {e:Option AV} (h:pureR e hp nx=.ok v hp' nx'):e=some v:=by
 cases e with
 | none=>exact absurd (show R.no=.ok v hp' nx' from h) (by simp)
 | some u=>injection (show R.ok u hp nx=.ok v hp' nx' from h) with h;rw[h]
theorem runR_inv {α:Type} {e:Option α} {f:α→R} (h:runR e f=.ok v hp' nx'):∃ x,e=some x∧f x=.ok v hp' nx':=by
 cases e with
 | none=>exact absurd (show R.no=.ok v hp' nx' from h) (by simp)
 | some u=>exact⟨u,rfl,h⟩
theorem newR_inv {e:Option (AV×Blk)} (h:newR e hp nx=.ok v hp' nx'):∃ k,e=some (v,k)∧hp'=setB (some k) nx hp:=by
 cases e with
 | none=>exact absurd (show R.no=.ok v hp' nx' from h) (by simp)
 | some p =>
  injection (show R.ok p.1 (setB (some p.2) nx hp) (Nat.succ nx)=.ok v hp' nx' from h) with h1 h2 h3
  exact⟨p.2,by rw[← h1],h2.symm⟩
theorem arg1_inv {f:AV→R} {vs:List AV} (h:arg1 f vs=.ok v hp' nx'):∃ x,vs=[x]∧f x=.ok v hp' nx':=by
 unfold arg1 at h;split at h
 ·exact⟨_,rfl,h⟩
 ·exact absurd h (by simp)
theorem arg2_inv {f:AV→AV→R} {vs:List AV} (h:arg2 f vs=.ok v hp' nx'):∃ x y,vs=[x,y]∧f x y=.ok v hp' nx':=by
 unfold arg2 at h;split at h
 ·exact⟨_,_,rfl,h⟩
 ·exact absurd h (by simp)
theorem xNo_inv {α:Prop} (h:R.no=.ok v hp' nx'):α:=absurd h (by simp)
theorem value_clc (f:Operand):clCall (.value f)=.chain∨clCall (.value f)=.calm:=by
 cases f <;> first | exact .inl rfl | skip
 rename_i g
 show sel (isCalm g) Cl.calm Cl.chain=.chain∨sel (isCalm g) Cl.calm Cl.chain=.calm
 cases isCalm g
 ·exact .inl rfl
 ·exact .inr rfl
theorem value_cl (f:Operand) {xs:Array Operand} {ts:Array TypeId} (h:clOf (.call ⟨.value f,xs,ts⟩)=.pure∨clOf (.call ⟨.value f,xs,ts⟩)=.read):False:=by
 have h:clCall (.value f)=.pure∨clCall (.value f)=.read:=h
 rcases value_clc f with e | e <;> rw[e] at h <;> rcases h with h | h <;> exact Cl.noConfusion h
theorem value_clm (f:Operand) {xs:Array Operand} {ts:Array TypeId} (h:clOf (.call ⟨.value f,xs,ts⟩)=.make):False:=by
 have h:clCall (.value f)=.make:=h
 rcases value_clc f with e | e <;> rw[e] at h <;> exact Cl.noConfusion h
theorem still_ok (ht:TmOk r n tm a) (hg:Glob P r) (g:Gam (getB hp) r w) (hc:clOf o.op=.pure∨clOf o.op=.read) (h:opX o.op P tm hp nx=.ok v hp' nx'):Owes P o a r w v:=by
 cases hop:o.op <;> rw[hop] at hc h <;> first | (exfalso;rcases hc with hc | hc <;> exact Cl.noConfusion hc) | skip
 case move x=>exact move_ok ht hg (.inl hop) (pureR_inv h)
 case assign x=>exact move_ok ht hg (.inr hop) (pureR_inv h)
 case pick c x y=>exact pick_ok ht hg hop (pureR_inv h)
 case build t ps=>exact build_ok ht hg hop (pureR_inv h)
 case load t x=>exact load_ok ht hg g hop (pureR_inv h)
 case nilCheck x=>exact nilCheck_ok ht hg hop (pureR_inv h)
 case binOp op t x y t'=>exact bin_ok ht hg hop (pureR_inv h)
 case unOp op t x=>exact un_ok ht hg hop (pureR_inv h)
 case convert s d x=>exact conv_ok ht hg hop (pureR_inv h)
 case makeInterface t x=>exact iface_ok ht hg hop (pureR_inv h)
 case makeFunc fn x y =>
  cases fn <;> first | exact func_ok ht hg hop (pureR_inv h) | exact xNo_inv h
 case slice t x lo hi mx=>exact slice_ok ht hg hop (pureR_inv h)
 case fieldAddr s x f=>exact fieldAddr_ok ht hg hop (pureR_inv h)
 case field s x f=>exact field_ok ht hg hop (pureR_inv h)
 case indexAddr t x i=>exact indexAddr_ok ht hg hop (pureR_inv h)
 case index t x i=>exact index_ok ht hg hop (pureR_inv h)
 case lookup t x i ok=>exact lookup_ok ht hg g hop (pureR_inv h)
 case typeAssert x t' t ok=>exact assert_ok ht hg hop (pureR_inv h)
 case extract x i=>exact extract_ok ht hg hop (pureR_inv h)
 case call c =>
  obtain⟨callee,xs,ts⟩:=c
  cases callee with
  | value f=>exact (value_cl f hc).elim
  | invoke f name=>(exfalso;rcases hc with hc | hc <;> exact Cl.noConfusion hc)
  | builtin b =>
   obtain⟨vs,h1,h2⟩:=runR_inv (show runR (opnds P tm xs.toList) (fun vs=>builtinR b P ts vs hp nx)=.ok v hp' nx' from h)
   cases b <;> first | (exfalso;rcases hc with hc | hc <;> exact Cl.noConfusion hc) | skip
   case cap =>
    obtain⟨e,h3,h4⟩:=runR_inv h2
    obtain⟨x,h5,h6⟩:=arg1_inv h4
    subst h5;exact cap_ok ht hg hop h3 h1 (pureR_inv h6)
   case len =>
    obtain⟨e,h3,h4⟩:=runR_inv h2
    obtain⟨x,h5,h6⟩:=arg1_inv h4
    subst h5;exact len_ok ht hg g hop h3 h1 (pureR_inv h6)
   case max =>
    obtain⟨x,y,h5,h6⟩:=arg2_inv h2
    subst h5;exact max_ok ht hg hop h1 (pureR_inv h6)
   case min =>
    obtain⟨x,y,h5,h6⟩:=arg2_inv h2
    subst h5;exact min_ok ht hg hop h1 (pureR_inv h6)
theorem make_run (ht:TmOk r n tm a) (hg:Glob P r) (hc:clOf o.op=.make) (h:opX o.op P tm .leaf nx=.ok v hp' nx') {b:Blk} (hb:getB hp' nx=some b) (w:World) :
  ∃ obj u,(execOp a.eval o).run P w=.ok (.value u) (w.alloc obj)∧∀ s:Rho,r.le s→s nx=some ⟨w.heap.size,0,0,false⟩→Rel s v u∧BOk s (w.alloc obj) ⟨w.heap.size,0,0,false⟩ b:=by
 have blk:∀ k:Blk,hp'=setB (some k) nx .leaf→b=k:=fun k e=>by
  rw[e,getB_put] at hb
  have:(if nx=nx then some k else getB .leaf nx)=some b:=hb
  rw[if_pos rfl] at this
  injection this with this
  exact this.symm
 cases hop:o.op <;> rw[hop] at hc h <;> first | (exfalso;exact Cl.noConfusion hc) | skip
 case alloc t =>
  obtain⟨k,h1,h2⟩:=newR_inv h
  obtain⟨z,h3,h4⟩:=bnd_some h1
  obtain⟨sz,h5,h6⟩:=bnd_some h4
  injection h6 with h6;injection h6 with h6 h7
  have:=blk k h2
  subst this;subst h6;subst h7
  obtain⟨i,u,z1,z2,z3⟩:=zero_ok h3
  refine⟨.cells u.cells t,.pointer (some ⟨w.heap.size,0,none⟩),?_,fun s hle hs=>⟨rel_ptr.2 ⟨_,hs,rfl⟩,bok_new (cells_ok (rel_avOf _ _ z3)) _ _ _ _ ?_⟩⟩
  ·simp only[execOp,hop,Instr.alloc,Sem.run_bind,run_zero z1 z2,Result.andThen_ok,newVar,newRow,run_newObj,Sem.run_pure];rfl
  ·have:=(cells_ok (rel_avOf (r:=r) _ _ z3)).length
   simp at this;omega
 case box t x =>
  obtain⟨k,h1,h2⟩:=newR_inv h
  obtain⟨z,h3,h4⟩:=bnd_some h1
  obtain⟨sz,h5,h6⟩:=bnd_some h4
  injection h6 with h6;injection h6 with h6 h7
  have:=blk k h2
  subst this;subst h6;subst h7
  have hx:=opnd_ok ht hg h3
  refine⟨.cells (a.eval x).cells t,.pointer (some ⟨w.heap.size,0,none⟩),?_,fun s hle hs=>⟨rel_ptr.2 ⟨_,hs,rfl⟩,bok_new (cells_ok (hx.mono hle _ _)) _ _ _ _ ?_⟩⟩
  ·simp only[execOp,hop,Instr.box,Sem.run_bind,Result.andThen_ok,newVar,newRow,run_newObj,Sem.run_pure];rfl
  ·have:=(cells_ok hx).length
   simp at this;omega
 case buildSlice t m parts =>
  obtain⟨k,h1,h2⟩:=newR_inv h
  obtain⟨e,h3,h4⟩:=bnd_some h1
  obtain⟨ps,h5,h6⟩:=bnd_some h4
  obtain⟨cs,h7,h8⟩:=bnd_some h6
  obtain⟨h9,h10⟩:=sel_none h8
  injection h10 with h10;injection h10 with h10 h11
  have:=blk k h2
  subst this;subst h10;subst h11
  obtain⟨c',el,q1,q2,q3⟩:=buildSlice_run ht hg hop h3 h5 h7 h9 w
  refine⟨.cells c' el,.slice (some ⟨w.heap.size,0,none⟩) m m,q1,fun s hle hs=>⟨rel_slice.2 ⟨_,_,hs,rfl,fun _=>rfl⟩,bok_new (q2.mono hle _ _) _ _ _ _ q3⟩⟩
 case makeSlice t x y =>
  obtain⟨k,h1,h2⟩:=newR_inv h
  obtain⟨e,h3,h4⟩:=bnd_some h1
  obtain⟨l,h5,h6⟩:=bnd_some h4
  obtain⟨c,h7,h8⟩:=bnd_some h6
  obtain⟨h9,h10⟩:=sel_none h8
  injection h10 with h10;injection h10 with h10 h11
  have:=blk k h2
  subst this;subst h10;subst h11
  obtain⟨c',el,q1,q2,q3⟩:=makeSlice_run ht hg hop h3 h5 h7 h9 w
  refine⟨.cells c' el,.slice (some ⟨w.heap.size,0,none⟩) l c,q1,fun s hle hs=>⟨rel_slice.2 ⟨_,_,hs,rfl,fun _=>rfl⟩,bok_new (q2.mono hle _ _) _ _ _ _ q3⟩⟩
 case call c =>
  obtain⟨callee,xs,ts⟩:=c
  cases callee with
  | value f=>exact (value_clm f hc).elim
  | invoke f name=>(exfalso;exact Cl.noConfusion hc)
  | builtin b=>cases b <;> (exfalso;exact Cl.noConfusion hc)
theorem lowA_ok {m:Nat} {x:Value} (h:lowA m v=true) (hx:Rel r v x):Rel (below r m) v x:=by
 have low:∀ {b:Nat},Nat.blt b m=true→below r m b=r b:=fun h=>by unfold below;rw[if_pos (blt_lt h)]
 cases v <;> first | exact absurd (show false=true from h) (by decide) | skip
 case bool b=>exact rel_bool.2 (rel_bool.1 hx)
 case int k b=>exact rel_int.2 (rel_int.1 hx)
 case str b=>exact rel_str.2 (rel_str.1 hx)
 case ptr b off=>obtain⟨y,h1,h2⟩:=rel_ptr.1 hx;exact rel_ptr.2 ⟨y,by rw[low h];exact h1,h2⟩
 case nilPtr=>exact rel_nilPtr.2 (rel_nilPtr.1 hx)
 case slice b off l c e=>obtain⟨y,q,h1,h2⟩:=rel_slice.1 hx;exact rel_slice.2 ⟨y,q,by rw[low h];exact h1,h2⟩
 case nilSlice=>exact rel_nilSlice.2 (rel_nilSlice.1 hx)
 case map b=>obtain⟨y,h1,h2⟩:=rel_map.1 hx;exact rel_map.2 ⟨y,by rw[low h];exact h1,h2⟩
 case nilMap=>exact rel_nilMap.2 (rel_nilMap.1 hx)
 case nilFunc=>exact rel_nilFunc.2 (rel_nilFunc.1 hx)
 case nilIface=>exact rel_nilIface.2 (rel_nilIface.1 hx)
theorem lowAs_ok {m:Nat} : ∀ {l:List AV} {x:List Value},lowAs m l=true→Rels r l x→Rels (below r m) l x:=by
 intro l
 induction l with
 | nil=>intro x _ h;exact Rels_nil.2 (Rels_nil.1 h)
 | cons a l ih =>
  intro x h hx
  obtain⟨u,us,h1,h2,h3⟩:=Rels_cons.1 hx
  have h':sel (lowA m a) (lowAs m l) false=true:=h
  cases hl:lowA m a with
  | false=>rw[hl] at h';exact absurd (show false=true from h') (by decide)
  | true=>rw[hl] at h';exact Rels_cons.2 ⟨u,us,h1,lowA_ok hl h2,ih h' h3⟩
theorem lowV_ok {m:Nat} {x:Value} (h:lowV m v=true) (hx:Rel r v x):Rel (below r m) v x:=by
 cases v <;> first | exact lowA_ok h hx | skip
 case agg l=>obtain⟨y,h1,h2⟩:=rel_agg.1 hx;exact rel_agg.2 ⟨y,h1,lowAs_ok h h2⟩
end
end Go.Proofs.YtdmelebgdaiinaaGreatDoor.Ev
