/- Expressions as lists of nodes, and as trees. Rows of numbers and truths as lines of a text: the plain mathematics. Expressions over atoms: the plain mathematics. -/
set_option linter.unusedVariables false
set_option linter.unusedSimpArgs false
namespace Go.Proofs.YtmacepicoandkaaGreatDoor
namespace Tx
structure Nd where
 op:Int
 a:Int
 b:Int
 c:Int
 n:Int
 s:ByteArray
instance:DecidableEq Nd:=fun x y =>
 decidable_of_iff (x.op=y.op∧x.a=y.a∧x.b=y.b∧x.c=y.c∧x.n=y.n∧x.s=y.s) (by cases x;cases y;simp)
def kids (x:Nd):List Int :=
 if x.op=26 then [x.a,x.b,x.c]
 else if x.op=28 then (if x.b = -1 then [x.a] else [x.b,x.a])
 else if x.op=27 then (if x.a = -1 then [] else [x.a])
 else if 6≤x.op∧x.op≤20 then [x.a,x.b]
 else if x.op=4∨x.op=5∨(21≤x.op∧x.op≤25) then [x.a]
 else []
def arB (op:Int) (k:Nat):Bool :=
 if op=26 then k==3
 else if op=28 then k==1 || k==2
 else if op=27 then k==0 || k==1
 else if 6≤op∧op≤20 then k==2
 else if op=4∨op=5∨(21≤op∧op≤25) then k==1
 else k==0
def aim (x:Nd) (l:List Int):Nd :=
 match l with
 | []=>x
 | [p]=>{ x with a:=p }
 | [p,q]=>if x.op=28 then { x with b:=p,a:=q } else { x with a:=p,b:=q }
 | p :: q :: r :: _=>{ x with a:=p,b:=q,c:=r }
def leaf (op n:Int) (s:ByteArray):Nd:=⟨op,-1,-1,-1,n,s⟩
inductive Fo where
 | no
 | tr (op n:Int) (s:ByteArray) (ks:Fo) (r:Fo)
namespace Fo
def size:Fo→Nat
 | no=>0
 | tr _ _ _ ks r=>size ks+1+size r
def count:Fo→Nat
 | no=>0
 | tr _ _ _ _ r=>count r+1
def depth:Fo→Nat
 | no=>0
 | tr _ _ _ ks r=>max (depth ks+1) (depth r)
def app:Fo→Fo→Fo
 | no,b=>b
 | tr op n s ks r,b=>tr op n s ks (app r b)
def ends (base:Nat):Fo→List Int
 | no=>[]
 | tr _ _ _ ks r=>((base+size ks:Nat):Int) :: ends (base+size ks+1) r
def flat (base:Nat):Fo→List Nd
 | no=>[]
 | tr op n s ks r=>flat base ks++aim (leaf op n s) (ends base ks) :: flat (base+size ks+1) r
theorem flat_len (t:Fo):∀ base,(t.flat base).length=t.size:=by
 induction t with
 | no=>intro _;rfl
 | tr op n s ks r ihk ihr=>intro base;simp[flat,size,ihk,ihr];omega
theorem ends_len (t:Fo):∀ base,(t.ends base).length=t.count:=by
 induction t with
 | no=>intro _;rfl
 | tr op n s ks r _ ihr=>intro base;simp[ends,count,ihr]
theorem ends_range (t:Fo):∀ (base:Nat) (k:Int),k∈t.ends base→(base:Int)≤k∧k<base+t.size:=by
 induction t with
 | no=>intro _ k h;simp[ends] at h
 | tr op n s ks r _ ihr =>
  intro base k h
  simp only[ends,List.mem_cons] at h
  simp only[size]
  rcases h with rfl | h
  ·omega
  ·have:=ihr _ k h;omega
theorem app_no (a:Fo):a.app no=a:=by induction a with
 | no=>rfl
 | tr op n s ks r _ ih=>simp[app,ih]
theorem app_assoc (a b c:Fo):(a.app b).app c=a.app (b.app c):=by induction a with
 | no=>rfl
 | tr op n s ks r _ ih=>simp[app,ih]
theorem size_app (a b:Fo):(a.app b).size=a.size+b.size:=by induction a with
 | no=>simp[app,size]
 | tr op n s ks r _ ih=>simp[app,size,ih];omega
theorem count_app (a b:Fo):(a.app b).count=a.count+b.count:=by induction a with
 | no=>simp[app,count]
 | tr op n s ks r _ ih=>simp[app,count,ih];omega
theorem depth_app (a b:Fo):(a.app b).depth=max a.depth b.depth:=by induction a with
 | no=>simp[app,depth]
 | tr op n s ks r _ ih=>simp[app,depth,ih,Nat.max_assoc]
theorem ends_app (a b:Fo):∀ base,(a.app b).ends base=a.ends base++b.ends (base+a.size):=by induction a with
 | no=>intro _;simp[app,size,ends]
 | tr op n s ks r _ ih=>intro base;simp[app,size,ends,ih];congr 1;omega
theorem flat_app (a b:Fo):∀ base,(a.app b).flat base=a.flat base++b.flat (base+a.size):=by induction a with
 | no=>intro _;simp[app,size,flat]
 | tr op n s ks r _ ih=>intro base;simp[app,size,flat,ih,Nat.add_assoc]
theorem count_zero {a:Fo} (h:a.count=0):a=no:=by cases a <;> simp[count] at h ⊢
end Fo
def dft:Nd:=leaf 0 0 ByteArray.empty
def bareB (x:Nd):Bool:=decide (x=aim (leaf x.op x.n x.s) (kids x))
def plainB (op n:Int) (s:ByteArray):Bool :=
 (decide (s≠ByteArray.empty)==(op==3 || op==27))&&decide (0≤n)&&decide (n≤if op=1 then 2147483647 else if op=2 then 1 else if op=25 then 1000 else 0)
def nodeB (x:Nd):Bool:=decide (1≤x.op)&&decide (x.op≤28)&&bareB x&&plainB x.op x.n x.s
theorem kids_aim {op n:Int} {s:ByteArray} {l:List Int} (ha:arB op l.length=true) (hl:∀ k∈l,k≠-1):kids (aim (leaf op n s) l)=l:=by
 unfold arB at ha
 match l with
 | [] =>
  simp only[List.length_nil] at ha
  simp only[aim,kids,leaf]
  repeat' (split at ha)
  all_goals simp_all
  rw[if_neg (by omega),if_neg (by omega)]
 | [p] =>
  simp only[List.length_singleton] at ha
  have:=hl p (by simp)
  simp only[aim,kids,leaf]
  repeat' (split at ha)
  all_goals simp_all
 | [p,q] =>
  simp only[List.length_cons,List.length_nil] at ha
  have:=hl p (by simp)
  have:=hl q (by simp)
  simp only[aim,kids,leaf]
  repeat' (split at ha)
  all_goals simp_all
 | [p,q,r] =>
  simp only[List.length_cons,List.length_nil] at ha
  simp only[aim,kids,leaf]
  repeat' (split at ha)
  all_goals simp_all
 | p :: q :: r :: u :: t =>
  simp only[List.length_cons] at ha
  exfalso
  repeat' (split at ha)
  all_goals simp at ha
theorem kids_ar (x:Nd):arB x.op (kids x).length=true:=by
 unfold arB kids
 repeat' split
 all_goals simp_all
theorem aim_bare {x:Nd} (h:bareB x=true) (l:List Int) (hl:l.length=(kids x).length):aim x l=aim (leaf x.op x.n x.s) l:=by
 have hx:x=aim (leaf x.op x.n x.s) (kids x):=by simpa [bareB] using h
 have e:∀ (y:Nd) (k l:List Int),l.length=k.length→k.length≤3→aim (aim y k) l=aim y l:=by
  intro y k l h1 h2
  match k,l with
  | [],[]=>rfl
  | [p],[q]=>rfl
  | [p,q],[r,t]=>simp only[aim];split <;> rfl
  | [p,q,r],[t,u,v]=>rfl
  | p :: q :: r :: t :: u,_=>simp at h2
  | [],_ :: _=>simp at h1
  | [_],[]=>simp at h1
  | [_],_ :: _ :: _=>simp at h1
  | [_,_],[]=>simp at h1
  | [_,_],[_]=>simp at h1
  | [_,_],_ :: _ :: _ :: _=>simp at h1
  | [_,_,_],[]=>simp at h1
  | [_,_,_],[_]=>simp at h1
  | [_,_,_],[_,_]=>simp at h1
  | [_,_,_],_ :: _ :: _ :: _ :: _=>simp at h1
 have h3:(kids x).length≤3:=by
  unfold kids;repeat' split
  all_goals simp
 generalize leaf x.op x.n x.s=y at hx ⊢
 generalize kids x=k at hx hl h3
 rw[hx,e y k l hl h3]
theorem aim_op (x:Nd) (l:List Int):(aim x l).op=x.op∧(aim x l).n=x.n∧(aim x l).s=x.s:=by
 unfold aim;split <;> try simp
 split <;> simp
theorem bare_aim {op n:Int} {s:ByteArray} {l:List Int} (ha:arB op l.length=true) (hl:∀ k∈l,k≠-1):bareB (aim (leaf op n s) l)=true:=by
 unfold bareB
 rw[kids_aim ha hl]
 have:=aim_op (leaf op n s) l
 rw[this.1,this.2.1,this.2.2]
 simp[leaf]
def cat:List Fo→Fo
 | []=>.no
 | a :: l=>a.app (cat l)
theorem cat_append (a b:List Fo):cat (a++b)=(cat a).app (cat b):=by
 induction a with
 | nil=>rfl
 | cons x a ih=>simp[cat,ih,Fo.app_assoc]
def tOf (ts:List Fo) (x:Nd):Fo:=.tr x.op x.n x.s (cat ((kids x).map fun k=>ts.getD k.toNat .no)) .no
def trees (e:List Nd):List Fo:=e.foldl (fun ts x=>ts++[tOf ts x]) []
theorem trees_snoc (e:List Nd) (x:Nd):trees (e++[x])=trees e++[tOf (trees e) x]:=by simp[trees,List.foldl_append]
theorem snoc_ind {α:Type} {P:List α→Prop} (h0:P []) (h1:∀ l x,P l→P (l++[x])):∀ l,P l:=by
 intro l
 rw[← List.reverse_reverse l]
 induction l.reverse with
 | nil=>exact h0
 | cons x l ih=>rw[List.reverse_cons];exact h1 _ _ ih
theorem trees_len (e:List Nd):(trees e).length=e.length:=by
 induction e using snoc_ind with
 | h0=>rfl
 | h1 e x ih=>simp[trees_snoc,ih]
theorem trees_app (a b:List Nd) (i:Nat) (hi:i<a.length):(trees (a++b))[i]?=(trees a)[i]?:=by
 induction b using snoc_ind with
 | h0=>simp
 | h1 b x ih =>
  rw[← List.append_assoc,trees_snoc,List.getElem?_append_left (by rw[trees_len];simp;omega),ih]
def T (e:List Nd) (i:Nat):Fo:=(trees e).getD i .no
theorem T_app (a b:List Nd) (i:Nat) (hi:i<a.length):T (a++b) i=T a i:=by
 unfold T;rw[List.getD_eq_getElem?_getD,List.getD_eq_getElem?_getD,trees_app a b i hi]
theorem T_snoc (e:List Nd) (x:Nd):T (e++[x]) e.length=tOf (trees e) x:=by
 unfold T
 rw[trees_snoc,List.getD_eq_getElem?_getD,List.getElem?_append_right (by rw[trees_len];exact Nat.le_refl _),trees_len];simp
def inR (x:Nd) (i:Nat):Prop:=∀ k∈kids x,0≤k∧k<(i:Int)
theorem split_get {α:Type} {e:List α} {i:Nat} {x:α} (h:e[i]?=some x):e=e.take i++x :: e.drop (i+1)∧(e.take i).length=i:=by
 have hi:=(List.getElem?_eq_some_iff.1 h).1
 refine⟨?_,by rw[List.length_take];omega⟩
 have h2:=(List.getElem?_eq_some_iff.1 h).2
 rw[← h2,List.getElem_cons_drop];exact (List.take_append_drop i e).symm
theorem T_at {e:List Nd} {i:Nat} {x:Nd} (h:e[i]?=some x) (hr:inR x i):T e i=.tr x.op x.n x.s (cat ((kids x).map fun k=>T e k.toNat)) .no:=by
 obtain⟨he,hl⟩:=split_get h
 have e1:e=(e.take i++[x])++e.drop (i+1):=by rw[List.append_assoc];exact he
 have h1:T e i=T (e.take i++[x]) i:=by
  conv=>lhs;rw[e1]
  exact T_app _ _ i (by simp[hl])
 have h2:T (e.take i++[x]) i=tOf (trees (e.take i)) x:=by
  have:=T_snoc (e.take i) x
  rwa [hl] at this
 rw[h1,h2]
 unfold tOf
 congr 2
 apply List.map_congr_left
 intro k hk
 have hk2:=hr k hk
 have h3:T e k.toNat=T (e.take i) k.toNat:=by
  conv=>lhs;rw[he]
  exact T_app _ _ _ (by rw[hl];omega)
 rw[h3];rfl
def argsB (op:Int) (l:List Int):Bool :=
 if op=27 then l.all (fun p=>p==28)
 else if op=28 then (match l with | [p,q]=>p==28&&q != 28 | l=>l.all (fun p=>p != 28))
 else l.all (fun p=>p != 28)
namespace Fo
def ops:Fo→List Int
 | no=>[]
 | tr op _ _ _ r=>op :: ops r
theorem ops_app (a b:Fo):(a.app b).ops=a.ops++b.ops:=by induction a with
 | no=>rfl
 | tr op n s ks r _ ih=>simp[app,ops,ih]
theorem ops_len (a:Fo):a.ops.length=a.count:=by induction a with
 | no=>rfl
 | tr op n s ks r _ ih=>simp[ops,count,ih]
def wf:Fo→Bool
 | no=>true
 | tr op n s ks r=>decide (1≤op)&&decide (op≤28)&&arB op ks.count&&plainB op n s&&argsB op ks.ops&&wf ks&&wf r
theorem wf_app (a b:Fo):(a.app b).wf=(a.wf&&b.wf):=by induction a with
 | no=>simp[app,wf]
 | tr op n s ks r _ ih=>simp[app,wf,ih,Bool.and_assoc]
end Fo
theorem ends_ne (t:Fo) (base:Nat):∀ k∈t.ends base,k≠-1:=fun k hk=>by have:=t.ends_range base k hk;omega
theorem cat_ends (F:Fo):∀ (pre post:List Nd),F.wf=true→cat ((F.ends pre.length).map fun k=>T (pre++F.flat pre.length++post) k.toNat)=F:=by
 induction F with
 | no=>intro _ _ _;rfl
 | tr op n s ks r ihk ihr =>
  intro pre post hw
  simp only[Fo.wf,Bool.and_eq_true] at hw
  obtain⟨⟨⟨⟨⟨⟨h1,h2⟩,h3⟩,h4⟩,h5⟩,h6⟩,h7⟩:=hw
  have hk:=ihk pre (aim (leaf op n s) (ks.ends pre.length) :: (r.flat (pre.length+ks.size+1)++post)) h6
  have hr:=ihr (pre++(ks.flat pre.length++[aim (leaf op n s) (ks.ends pre.length)])) post h7
  have hlen:(pre++(ks.flat pre.length++[aim (leaf op n s) (ks.ends pre.length)])).length=pre.length+ks.size+1:=by simp[Fo.flat_len];omega
  have e1:pre++ks.flat pre.length++aim (leaf op n s) (ks.ends pre.length) :: (r.flat (pre.length+ks.size+1)++post)=pre++(Fo.tr op n s ks r).flat pre.length++post:=by
   simp[Fo.flat]
  rw[hlen] at hr
  have e2:pre++(ks.flat pre.length++[aim (leaf op n s) (ks.ends pre.length)])++r.flat (pre.length+ks.size+1)++post=pre++(Fo.tr op n s ks r).flat pre.length++post:=by
   simp[Fo.flat]
  rw[e1] at hk
  rw[e2] at hr
  generalize hE:pre++(Fo.tr op n s ks r).flat pre.length++post=E at hk hr
  have hx:E[pre.length+ks.size]?=some (aim (leaf op n s) (ks.ends pre.length)):=by
   rw[← hE,← e1,List.getElem?_append_right (by simp[Fo.flat_len])]
   simp[Fo.flat_len]
  have hkid:kids (aim (leaf op n s) (ks.ends pre.length))=ks.ends pre.length:=kids_aim (by rw[Fo.ends_len];exact h3) (ends_ne ks _)
  have hT:=T_at hx (fun k hk2=>by
   rw[hkid] at hk2
   have:=ks.ends_range _ k hk2
   omega)
  rw[hkid,hk] at hT
  have h8:=aim_op (leaf op n s) (ks.ends pre.length)
  rw[h8.1,h8.2.1,h8.2.2] at hT
  simp only[Fo.ends,List.map_cons,cat]
  rw[show ((pre.length+ks.size:Nat):Int).toNat=pre.length+ks.size by omega,hT,hr]
  rfl
theorem T_flat (F:Fo) (pre post:List Nd) (hw:F.wf=true) (hc:F.count=1):T (pre++F.flat pre.length++post) (pre.length+F.size - 1)=F:=by
 have h:=cat_ends F pre post hw
 cases F with
 | no=>simp[Fo.count] at hc
 | tr op n s ks r =>
  simp only[Fo.count] at hc
  obtain rfl:=Fo.count_zero (a:=r) (by omega)
  simp only[Fo.ends,List.map_cons,List.map_nil,cat,Fo.app_no] at h
  simp only[Fo.size]
  rw[show pre.length+(ks.size+1+0) - 1=((pre.length+ks.size:Nat):Int).toNat by omega]
  exact h
def allK (e:List Nd):List Int:=e.flatMap kids
def argsOk (e:List Nd) (x:Nd):Bool:=argsB x.op ((kids x).map fun k=>(e.getD k.toNat dft).op)
def depOf (ds:List Nat) (x:Nd):Nat:=((kids x).foldl (fun (m:Nat) (k:Int)=>if 0≤k∧k<(ds.length:Int) then max m (ds.getD k.toNat 0) else m) 0)+1
def deps (e:List Nd):List Nat:=e.foldl (fun ds x=>ds++[depOf ds x]) []
def depL (e:List Nd):Nat:=(deps e).getLastD 0
def nodesB (e:List Nd):Bool:=(List.range e.length).all fun i=>nodeB (e.getD i dft)&&(kids (e.getD i dft)).all (fun k=>decide (0≤k)&&decide (k<(i:Int)))&&argsOk e (e.getD i dft)
def mayB (e:List Nd):Bool :=
 decide (1≤e.length)&&decide (e.length≤5000)&&(e.getLastD dft).op != 28&&nodesB e&&(List.range (e.length - 1)).all (fun i=>(allK e).count (i:Int)==1)&&decide (depL e≤40)
def NodeP (e:List Nd):Prop:=∀ i x,e[i]?=some x→nodeB x=true∧inR x i∧argsOk e x=true
structure MayP (e:List Nd):Prop where
 ne:1≤e.length
 len:e.length≤5000
 last:(e.getLastD dft).op≠28
 node:NodeP e
 used:∀ i,i+1<e.length→(allK e).count (i:Int)=1
 deep:depL e≤40
theorem nodesB_iff (e:List Nd):nodesB e=true↔NodeP e:=by
 unfold nodesB NodeP
 rw[List.all_eq_true]
 constructor
 ·intro h i x hx
  have hi:=(List.getElem?_eq_some_iff.1 hx).1
  have:=h i (List.mem_range.2 hi)
  rw[List.getD_eq_getElem?_getD,hx] at this
  simp only[Option.getD_some,Bool.and_eq_true,List.all_eq_true,decide_eq_true_eq] at this
  exact⟨this.1.1,fun k hk=>this.1.2 k hk,this.2⟩
 ·intro h i hi
  have hi:=List.mem_range.1 hi
  obtain⟨a,b,c⟩:=h i _ (List.getElem?_eq_getElem hi)
  rw[List.getD_eq_getElem?_getD,List.getElem?_eq_getElem hi]
  simp only[Option.getD_some,Bool.and_eq_true,List.all_eq_true,decide_eq_true_eq]
  exact⟨⟨a,fun k hk=>b k hk⟩,c⟩
theorem mayB_iff (e:List Nd):mayB e=true↔MayP e:=by
 unfold mayB
 simp only[Bool.and_eq_true,decide_eq_true_eq,bne_iff_ne,List.all_eq_true,beq_iff_eq,nodesB_iff,List.mem_range]
 constructor
 ·rintro ⟨⟨⟨⟨⟨h1,h2⟩,h3⟩,h4⟩,h5⟩,h6⟩
  exact⟨h1,h2,h3,h4,fun i hi=>h5 i (by omega),h6⟩
 ·rintro ⟨h1,h2,h3,h4,h5,h6⟩
  exact⟨⟨⟨⟨⟨h1,h2⟩,h3⟩,h4⟩,fun i hi=>h5 i (by omega)⟩,h6⟩
theorem deps_snoc (e:List Nd) (x:Nd):deps (e++[x])=deps e++[depOf (deps e) x]:=by simp[deps,List.foldl_append]
theorem deps_len (e:List Nd):(deps e).length=e.length:=by
 induction e using snoc_ind with
 | h0=>rfl
 | h1 e x ih=>simp[deps_snoc,ih]
theorem deps_app (a b:List Nd) (i:Nat) (hi:i<a.length):(deps (a++b))[i]?=(deps a)[i]?:=by
 induction b using snoc_ind with
 | h0=>simp
 | h1 b x ih =>
  rw[← List.append_assoc,deps_snoc,List.getElem?_append_left (by rw[deps_len];simp;omega),ih]
def sumF (L:List Int) (f:Nat→Nat):Nat→Nat
 | 0=>0
 | n+1=>sumF L f n+if (n:Int)∈L then 0 else f n
theorem sumF_far (L:List Int) (k:Int) (f:Nat→Nat):∀ n:Nat,(n:Int)≤k→sumF (L++[k]) f n=sumF L f n
 | 0,_=>rfl
 | n+1,h=>by
  simp only[sumF,sumF_far L k f n (by omega),List.mem_append,List.mem_singleton]
  have:¬ (n:Int)=k:=by omega
  simp only[this,or_false]
theorem sumF_one (L:List Int) (k:Nat) (f:Nat→Nat) (hk:(k:Int) ∉ L):∀ n:Nat,k<n→sumF (L++[(k:Int)]) f n+f k=sumF L f n
 | 0,h=>by omega
 | n+1,h=>by
  simp only[sumF,List.mem_append,List.mem_singleton]
  by_cases e:k=n
  ·subst e
   rw[sumF_far L k f k (Int.le_refl _),if_pos (Or.inr rfl),if_neg hk];omega
  ·have h2:¬ (n:Int)=(k:Int):=by omega
   have:=sumF_one L k f hk n (by omega)
   simp only[h2,or_false];omega
theorem sumF_more (f:Nat→Nat) (n:Nat):∀ (l L:List Int),(∀ k∈l,0≤k∧k<(n:Int))→(L++l).Nodup→sumF (L++l) f n+(l.map fun k=>f k.toNat).sum=sumF L f n
 | [],L,_,_=>by simp
 | k :: l,L,h,hn=>by
  have hk:=h k (by simp)
  obtain⟨j,rfl⟩ : ∃ j:Nat,k=(j:Int):=⟨k.toNat,by omega⟩
  have e:L++(j:Int) :: l=(L++[(j:Int)])++l:=by simp
  rw[e] at hn ⊢
  have h1:=sumF_more f n l (L++[(j:Int)]) (fun k hk=>h k (by simp[hk])) hn
  have hj:(j:Int) ∉ L:=by
   intro hm
   rw[List.append_assoc,List.nodup_append] at hn
   exact hn.2.2 _ hm _ (by simp) rfl
  have h2:=sumF_one L j f hj n (by omega)
  simp only[List.map_cons,List.sum_cons,Int.toNat_natCast];omega
theorem sumF_congr (L:List Int) (f g:Nat→Nat):∀ n:Nat,(∀ i:Nat,i<n→f i=g i)→sumF L f n=sumF L g n
 | 0,_=>rfl
 | n+1,h=>by rw[sumF,sumF,sumF_congr L f g n (fun i hi=>h i (by omega)),h n (by omega)]
theorem sumF_term (L:List Int) (f:Nat→Nat):∀ n i:Nat,i<n→(i:Int) ∉ L→f i≤sumF L f n
 | 0,i,h,_=>by omega
 | n+1,i,h,hi=>by
  rw[sumF]
  by_cases e:i=n
  ·subst e;rw[if_neg hi];omega
  ·have:=sumF_term L f n i (by omega) hi;omega
theorem sumF_none (L:List Int) (f:Nat→Nat):∀ n:Nat,(∀ i:Nat,i<n→(i:Int)∈L)→sumF L f n=0
 | 0,_=>rfl
 | n+1,h=>by rw[sumF,sumF_none L f n (fun i hi=>h i (by omega)),if_pos (h n (by omega))]
theorem size_cat (l:List Fo):(cat l).size=(l.map Fo.size).sum:=by
 induction l with
 | nil=>rfl
 | cons a l ih=>simp[cat,Fo.size_app,ih]
theorem allK_snoc (e:List Nd) (x:Nd):allK (e++[x])=allK e++kids x:=by simp[allK]
theorem allK_app (a b:List Nd):allK (a++b)=allK a++allK b:=by simp[allK]
def InR (e:List Nd):Prop:=∀ i x,e[i]?=some x→inR x i
theorem InR.left {a b:List Nd} (h:InR (a++b)):InR a:=fun i x hx=>h i x (by rw[List.getElem?_append_left (List.getElem?_eq_some_iff.1 hx).1];exact hx)
theorem InR.lt {e:List Nd} (h:InR e):∀ k∈allK e,0≤k∧k+1<(e.length:Int):=by
 intro k hk
 unfold allK at hk
 obtain⟨x,hx,hk⟩:=List.mem_flatMap.1 hk
 obtain⟨i,hi⟩:=List.getElem?_of_mem hx
 have h1:=h i x hi k hk
 have h2:=(List.getElem?_eq_some_iff.1 hi).1
 omega
theorem sum_sizes (e:List Nd):InR e→(allK e).Nodup→sumF (allK e) (fun i=>(T e i).size) e.length=e.length:=by
 induction e using snoc_ind with
 | h0=>intro _ _;rfl
 | h1 e x ih =>
  intro h hn
  have hL:=h.left
  rw[allK_snoc] at hn ⊢
  have ih:=ih hL (by rw[List.nodup_append] at hn;exact hn.1)
  have hx:=h e.length x (by simp)
  have hlast:(e.length:Int) ∉ allK e++kids x:=by
   intro hm
   rcases List.mem_append.1 hm with hm | hm
   ·have:=hL.lt _ hm;omega
   ·have:=hx _ hm;omega
  have e1:(e++[x]).length=e.length+1:=by simp
  rw[e1,sumF,if_neg hlast]
  rw[sumF_congr _ _ (fun i=>(T e i).size) e.length (fun i hi=>by rw[T_app e [x] i hi])]
  have h1:=sumF_more (fun i=>(T e i).size) e.length (kids x) (allK e) (fun k hk=>hx k hk) hn
  have h2:=T_at (e:=e++[x]) (i:=e.length) (x:=x) (by simp) hx
  rw[h2]
  have h3:((kids x).map fun k=>T (e++[x]) k.toNat)=(kids x).map fun k=>T e k.toNat:=by
   apply List.map_congr_left
   intro k hk
   exact T_app e [x] _ (by have:=hx k hk;omega)
  rw[h3]
  simp only[Fo.size,size_cat,List.map_map]
  have h4:((kids x).map (Fo.size ∘ fun k=>T e k.toNat)).sum=((kids x).map fun k=>(T e k.toNat).size).sum:=rfl
  rw[h4];omega
theorem MayP.inR {e:List Nd} (h:MayP e):InR e:=fun i x hx=>(h.node i x hx).2.1
theorem MayP.nodup {e:List Nd} (h:MayP e):(allK e).Nodup:=by
 rw[List.nodup_iff_count]
 intro k
 by_cases hk:k∈allK e
 ·have h1:=h.inR.lt k hk
  obtain⟨j,rfl⟩ : ∃ j:Nat,k=(j:Int):=⟨k.toNat,by omega⟩
  rw[h.used j (by omega)];exact Nat.le_refl _
 ·rw[List.count_eq_zero.2 hk];omega
theorem take_snoc' {e:List Nd} {i:Nat} {x:Nd} (h:e[i]?=some x):e.take (i+1)=e.take i++[x]:=by rw[List.take_add_one,h];rfl
theorem T_size {e : List Nd} (hR : InR e) (hn : (allK e).Nodup) {i : Nat} (hi : i < e.length) : (T e i).size ≤ i + 1 := by
  have he : e = e.take (i + 1) ++ e.drop (i + 1) := (List.take_append_drop _ _).symm
  have hl : (e.take (i + 1)).length = i + 1 := by rw [List.length_take]; omega
  have h1 : T e i = T (e.take (i + 1)) i := by conv => lhs; rw [he]
                                               exact T_app _ _ _ (by omega)
  have hR' : InR (e.take (i + 1)) := by rw [he] at hR; exact hR.left
  have hn' : (allK (e.take (i + 1))).Nodup := by rw [he, allK_app, List.nodup_append] at hn; exact hn.1
  have h2 := sum_sizes _ hR' hn'
  rw [hl] at h2
  have h3 := sumF_term (allK (e.take (i + 1))) (fun j => (T (e.take (i + 1)) j).size) (i + 1) i (by omega) (fun hm => by have := hR'.lt _ hm; omega)
  rw [h1]
  exact Nat.le_trans h3 (Nat.le_of_eq h2)
theorem MayP.size {e:List Nd} (h:MayP e):(T e (e.length - 1)).size=e.length:=by
 have h1:=sum_sizes e h.inR h.nodup
 obtain⟨n,hn⟩ : ∃ n,e.length=n+1:=⟨e.length - 1,by have:=h.ne;omega⟩
 rw[hn] at h1 ⊢
 rw[sumF,sumF_none _ _ n (fun i hi=>by
  have:=h.used i (by omega)
  exact List.count_pos_iff.1 (by omega)),if_neg (fun hm=>by have:=h.inR.lt _ hm;omega)] at h1
 simpa using h1
theorem depth_cat (l:List Fo):(cat l).depth=l.foldl (fun m t=>max m t.depth) 0:=by
 have:∀ (l:List Fo) (m:Nat),l.foldl (fun m t=>max m t.depth) m=max m (cat l).depth:=by
  intro l
  induction l with
  | nil=>intro m;simp[cat,Fo.depth]
  | cons a l ih=>intro m;simp only[List.foldl_cons,ih,cat,Fo.depth_app];omega
 rw[this];omega
theorem foldl_same {α β:Type} (f g:β→α→β):∀ (l:List α) (b:β),(∀ b,∀ x∈l,f b x=g b x)→l.foldl f b=l.foldl g b
 | [],_,_=>rfl
 | x :: l,b,h=>by
  simp only[List.foldl_cons,h b x (by simp)]
  exact foldl_same f g l _ (fun b y hy=>h b y (by simp[hy]))
theorem deps_T (e:List Nd):InR e→deps e=(List.range e.length).map fun i=>(T e i).depth:=by
 induction e using snoc_ind with
 | h0=>intro _;rfl
 | h1 e x ih =>
  intro h
  have hx:=h e.length x (by simp)
  have e1:(e++[x]).length=e.length+1:=by simp
  rw[deps_snoc,e1,List.range_succ,List.map_append,ih h.left]
  congr 1
  ·apply List.map_congr_left
   intro i hi
   rw[T_app e [x] i (List.mem_range.1 hi)]
  ·have h2:=T_at (e:=e++[x]) (i:=e.length) (x:=x) (by simp) hx
   simp only[List.map_cons,List.map_nil,List.cons.injEq,and_true]
   rw[h2]
   simp only[Fo.depth,depth_cat,List.foldl_map,Nat.max_zero,depOf]
   congr 1
   apply foldl_same
   intro m k hk
   have hk2:=hx k hk
   rw[if_pos ⟨hk2.1,by simpa using hk2.2⟩,List.getD_eq_getElem?_getD,List.getElem?_map,List.getElem?_range (by omega)]
   simp only[Option.map_some,Option.getD_some]
   rw[T_app e [x] _ (by omega)]
theorem depL_T {e:List Nd} (h:InR e) (hne:1≤e.length):depL e=(T e (e.length - 1)).depth:=by
 unfold depL
 rw[deps_T e h]
 obtain⟨n,hn⟩ : ∃ n,e.length=n+1:=⟨e.length - 1,by omega⟩
 rw[hn,List.range_succ];simp
theorem ops_cat (l:List Fo):(cat l).ops=l.flatMap Fo.ops:=by
 induction l with
 | nil=>rfl
 | cons a l ih=>simp[cat,Fo.ops_app,ih]
theorem wf_cat (l:List Fo):(cat l).wf=l.all Fo.wf:=by
 induction l with
 | nil=>rfl
 | cons a l ih=>simp[cat,Fo.wf_app,ih]
theorem T_ops {e:List Nd} (h:InR e) {i:Nat} {x:Nd} (hx:e[i]?=some x):(T e i).ops=[x.op]∧(T e i).count=1:=by
 rw[T_at hx (h i x hx)];simp[Fo.ops,Fo.count]
theorem T_wf {e:List Nd} (h:NodeP e):∀ i,i<e.length→(T e i).wf=true:=by
 intro i
 induction i using Nat.strongRecOn with
 | _ i ih =>
  intro hi
  have hR:InR e:=fun i x hx=>(h i x hx).2.1
  obtain⟨x,hx⟩ : ∃ x,e[i]?=some x:=⟨_,List.getElem?_eq_getElem hi⟩
  obtain⟨h1,h2,h3⟩:=h i x hx
  have hk:∀ k∈kids x,∃ y,e[k.toNat]?=some y:=fun k hk=>⟨_,List.getElem?_eq_getElem (by have:=h2 k hk;omega)⟩
  have hops:(cat ((kids x).map fun k=>T e k.toNat)).ops=(kids x).map fun k=>(e.getD k.toNat dft).op:=by
   rw[ops_cat,List.flatMap_map]
   have:∀ l:List Int,(∀ k∈l,k∈kids x)→l.flatMap (fun k=>(T e k.toNat).ops)=l.map fun k=>(e.getD k.toNat dft).op:=by
    intro l
    induction l with
    | nil=>intro _;rfl
    | cons k l ihl =>
     intro hl
     obtain⟨y,hy⟩:=hk k (hl k (by simp))
     rw[List.flatMap_cons,List.map_cons,ihl (fun k hk=>hl k (by simp[hk])),(T_ops hR hy).1,List.getD_eq_getElem?_getD,hy];rfl
   exact this _ (fun _ h=>h)
  rw[T_at hx h2]
  unfold nodeB at h1
  simp only[Bool.and_eq_true,decide_eq_true_eq] at h1
  simp only[Fo.wf,Bool.and_eq_true,decide_eq_true_eq,hops,wf_cat,List.all_map]
  refine⟨⟨⟨⟨⟨⟨h1.1.1.1,h1.1.1.2⟩,?_⟩,h1.2⟩,h3⟩,?_⟩,trivial⟩
  ·rw[← Fo.ops_len,hops,List.length_map];exact kids_ar x
  ·rw[List.all_eq_true]
   intro k hk2
   have:=h2 k hk2
   exact ih k.toNat (by omega) (by omega)
theorem ends_ops (F:Fo):∀ (pre post:List Nd),((F.ends pre.length).map fun k=>((pre++F.flat pre.length++post).getD k.toNat dft).op)=F.ops:=by
 induction F with
 | no=>intro _ _;rfl
 | tr op n s ks r _ ihr =>
  intro pre post
  have hr:=ihr (pre++(ks.flat pre.length++[aim (leaf op n s) (ks.ends pre.length)])) post
  have hlen:(pre++(ks.flat pre.length++[aim (leaf op n s) (ks.ends pre.length)])).length=pre.length+ks.size+1:=by simp[Fo.flat_len];omega
  rw[hlen] at hr
  have e2:pre++(ks.flat pre.length++[aim (leaf op n s) (ks.ends pre.length)])++r.flat (pre.length+ks.size+1)++post=pre++(Fo.tr op n s ks r).flat pre.length++post:=by
   simp[Fo.flat]
  rw[e2] at hr
  simp only[Fo.ends,List.map_cons,Fo.ops,hr,List.cons.injEq,and_true]
  have h1:(pre++(Fo.tr op n s ks r).flat pre.length++post)[((pre.length+ks.size:Nat):Int).toNat]?=some (aim (leaf op n s) (ks.ends pre.length)):=by
   rw[← e2,show ((pre.length+ks.size:Nat):Int).toNat=pre.length+ks.size by omega,List.append_assoc,List.append_assoc,List.getElem?_append_right (by omega),Nat.add_sub_cancel_left,List.append_assoc,List.getElem?_append_right (by simp[Fo.flat_len])]
   simp[Fo.flat_len]
  rw[List.getD_eq_getElem?_getD,h1]
  exact (aim_op _ _).1
theorem flat_node (F:Fo):∀ (pre post:List Nd),F.wf=true→∀ i x,(F.flat pre.length)[i]?=some x→nodeB x=true∧inR x (pre.length+i)∧argsOk (pre++F.flat pre.length++post) x=true:=by
 induction F with
 | no=>intro _ _ _ i x h;simp[Fo.flat] at h
 | tr op n s ks r ihk ihr =>
  intro pre post hw i x hx
  simp only[Fo.wf,Bool.and_eq_true,decide_eq_true_eq] at hw
  obtain⟨⟨⟨⟨⟨⟨h1,h2⟩,h3⟩,h4⟩,h5⟩,h6⟩,h7⟩:=hw
  have hlen:(pre++(ks.flat pre.length++[aim (leaf op n s) (ks.ends pre.length)])).length=pre.length+ks.size+1:=by simp[Fo.flat_len];omega
  have e1:pre++ks.flat pre.length++aim (leaf op n s) (ks.ends pre.length) :: (r.flat (pre.length+ks.size+1)++post)=pre++(Fo.tr op n s ks r).flat pre.length++post:=by
   simp[Fo.flat]
  have e2:pre++(ks.flat pre.length++[aim (leaf op n s) (ks.ends pre.length)])++r.flat (pre.length+ks.size+1)++post=pre++(Fo.tr op n s ks r).flat pre.length++post:=by
   simp[Fo.flat]
  rw[Fo.flat] at hx
  rcases Nat.lt_trichotomy i ks.size with hi | hi | hi
  ·rw[List.getElem?_append_left (by rw[Fo.flat_len];exact hi)] at hx
   have:=ihk pre (aim (leaf op n s) (ks.ends pre.length) :: (r.flat (pre.length+ks.size+1)++post)) h6 i x hx
   rw[e1] at this;exact this
  ·subst hi
   rw[List.getElem?_append_right (by rw[Fo.flat_len];exact Nat.le_refl _),Fo.flat_len] at hx
   simp only[Nat.sub_self,List.getElem?_cons_zero,Option.some.injEq] at hx
   subst hx
   have har:arB op (ks.ends pre.length).length=true:=by rw[Fo.ends_len];exact h3
   have hk:kids (aim (leaf op n s) (ks.ends pre.length))=ks.ends pre.length:=kids_aim har (ends_ne ks _)
   have h8:=aim_op (leaf op n s) (ks.ends pre.length)
   refine⟨?_,?_,?_⟩
   ·unfold nodeB
    rw[h8.1,h8.2.1,h8.2.2,bare_aim har (ends_ne ks _)]
    have h9:(leaf op n s).op=op:=rfl
    have h10:(leaf op n s).n=n:=rfl
    have h11:(leaf op n s).s=s:=rfl
    rw[h9,h10,h11,h4,decide_eq_true h1,decide_eq_true h2];rfl
   ·intro k hk2
    rw[hk] at hk2
    have:=ks.ends_range _ k hk2;omega
   ·unfold argsOk
    rw[hk,h8.1]
    have:=ends_ops ks pre (aim (leaf op n s) (ks.ends pre.length) :: (r.flat (pre.length+ks.size+1)++post))
    rw[e1] at this
    rw[this];exact h5
  ·rw[List.getElem?_append_right (by rw[Fo.flat_len];omega),Fo.flat_len] at hx
   obtain⟨j,hj⟩ : ∃ j,i - ks.size=j+1:=⟨i - ks.size - 1,by omega⟩
   rw[hj,List.getElem?_cons_succ] at hx
   have:=ihr (pre++(ks.flat pre.length++[aim (leaf op n s) (ks.ends pre.length)])) post h7 j x (by rw[hlen];exact hx)
   rw[hlen,e2] at this
   rw[show pre.length+i=pre.length+ks.size+1+j by omega];exact this
theorem flat_count (F:Fo):∀ (base:Nat) (j:Int),F.wf=true→(allK (F.flat base)).count j+(F.ends base).count j=if (base:Int)≤j∧j<base+F.size then 1 else 0:=by
 induction F with
 | no=>intro base j _;rw[if_neg (by simp only[Fo.size];omega)];simp[Fo.flat,Fo.ends,allK]
 | tr op n s ks r ihk ihr =>
  intro base j hw
  simp only[Fo.wf,Bool.and_eq_true,decide_eq_true_eq] at hw
  obtain⟨⟨⟨⟨⟨⟨h1,h2⟩,h3⟩,h4⟩,h5⟩,h6⟩,h7⟩:=hw
  have har:arB op (ks.ends base).length=true:=by rw[Fo.ends_len];exact h3
  have hk:kids (aim (leaf op n s) (ks.ends base))=ks.ends base:=kids_aim har (ends_ne ks _)
  have a:=ihk base j h6
  have b:=ihr (base+ks.size+1) j h7
  have e:allK (Fo.flat base (Fo.tr op n s ks r))=allK (ks.flat base)++(ks.ends base++allK (r.flat (base+ks.size+1))):=by
   simp only[Fo.flat,allK,List.flatMap_append,List.flatMap_cons,hk]
  rw[e]
  have hsz:((Fo.tr op n s ks r).size:Int)=ks.size+1+r.size:=by simp only[Fo.size];omega
  rw[hsz]
  simp only[List.count_append,Fo.ends,List.count_cons,beq_iff_eq]
  by_cases h9:(base:Int)≤j∧j<base+ks.size
  ·rw[if_pos h9] at a
   rw[if_neg (by omega)] at b
   rw[if_neg (by omega),if_pos (by omega)];omega
  ·rw[if_neg h9] at a
   by_cases h10:((base+ks.size:Nat):Int)=j
   ·rw[if_neg (by omega)] at b
    rw[if_pos h10,if_pos (by omega)];omega
   ·rw[if_neg h10]
    by_cases h11:((base+ks.size+1:Nat):Int)≤j∧j<(base+ks.size+1:Nat)+r.size
    ·rw[if_pos h11] at b
     rw[if_pos (by omega)];omega
    ·rw[if_neg h11] at b
     rw[if_neg (by omega)];omega
theorem ends_one {F:Fo} (hc:F.count=1) (base:Nat):F.ends base=[((base+F.size - 1:Nat):Int)]:=by
 cases F with
 | no=>simp[Fo.count] at hc
 | tr op n s ks r =>
  simp only[Fo.count] at hc
  obtain rfl:=Fo.count_zero (a:=r) (by omega)
  simp only[Fo.ends,Fo.size]
  congr 1
theorem flat_last {F:Fo} (hc:F.count=1) (base:Nat):F.ops=[((F.flat base).getLastD dft).op]:=by
 cases F with
 | no=>simp[Fo.count] at hc
 | tr op n s ks r =>
  simp only[Fo.count] at hc
  obtain rfl:=Fo.count_zero (a:=r) (by omega)
  simp only[Fo.ops,Fo.flat,List.cons.injEq,and_true]
  rw[List.getLastD_eq_getLast?,List.getLast?_append]
  simp only[List.getLast?_singleton,Option.some_or,Option.getD_some]
  exact (aim_op (leaf op n s) (ks.ends base)).1.symm
theorem flat_NodeP {F:Fo} (hw:F.wf=true):NodeP (F.flat 0):=fun i x hx=>by
 have:=flat_node F [] [] hw i x hx
 simpa using this
theorem T_flat0 {F:Fo} (hw:F.wf=true) (hc:F.count=1):T (F.flat 0) (F.size - 1)=F:=by
 have:=T_flat F [] [] hw hc
 simpa using this
theorem one_size {F:Fo} (hc:F.count=1):1≤F.size:=by
 cases F with
 | no=>simp[Fo.count] at hc
 | tr op n s ks r=>simp[Fo.size];omega
def okF (F:Fo):Bool:=decide (F.size≤5000)&&decide (F.depth≤40)&&decide (F.ops≠[28])
theorem may_flat {F:Fo} (hw:F.wf=true) (hc:F.count=1):mayB (F.flat 0)=okF F:=by
 have hs:=one_size hc
 have hN:=flat_NodeP hw
 have hR:InR (F.flat 0):=fun i x hx=>(hN i x hx).2.1
 have hd:depL (F.flat 0)=F.depth:=by
  rw[depL_T hR (by rw[Fo.flat_len];exact hs),Fo.flat_len,T_flat0 hw hc]
 have hl:=flat_last hc 0
 rw[Bool.eq_iff_iff,mayB_iff]
 unfold okF
 simp only[Bool.and_eq_true,decide_eq_true_eq,hl]
 constructor
 ·rintro ⟨h1,h2,h3,h4,h5,h6⟩
  exact⟨⟨by rw[Fo.flat_len] at h2;exact h2,by rw[← hd];exact h6⟩,by simpa using h3⟩
 ·rintro ⟨⟨h1,h2⟩,h3⟩
  refine⟨by rw[Fo.flat_len];exact hs,by rw[Fo.flat_len];exact h1,by simpa using h3,hN,fun i hi=>?_,by rw[hd];exact h2⟩
  rw[Fo.flat_len] at hi
  have:=flat_count F 0 (i:Int) hw
  rw[if_pos (by omega),ends_one hc,List.count_cons,List.count_nil,if_neg (by simp;omega)] at this
  omega
def norm (e:List Nd):List Nd:=(T e (e.length - 1)).flat 0
theorem MayP.tree {e:List Nd} (h:MayP e):(T e (e.length - 1)).wf=true∧(T e (e.length - 1)).count=1∧okF (T e (e.length - 1))=true:=by
 have hn:=h.ne
 have hi:e.length - 1<e.length:=by omega
 obtain⟨x,hx⟩ : ∃ x,e[e.length - 1]?=some x:=⟨_,List.getElem?_eq_getElem hi⟩
 have h1:=T_ops h.inR hx
 refine⟨T_wf h.node _ hi,h1.2,?_⟩
 have h2:=h.last
 have h3:e.getLastD dft=x:=by rw[List.getLastD_eq_getLast?,List.getLast?_eq_getElem?,hx];rfl
 rw[h3] at h2
 unfold okF
 simp only[Bool.and_eq_true,decide_eq_true_eq,h1.1]
 exact⟨⟨by rw[h.size];exact h.len,by rw[← depL_T h.inR hn];exact h.deep⟩,by simpa using h2⟩
theorem norm_may {e:List Nd} (h:MayP e):mayB (norm e)=true:=by
 obtain⟨a,b,c⟩:=h.tree
 unfold norm;rw[may_flat a b];exact c
def mv (d:Nat) (x:Nd):Nd:={ x with a:=if 0≤x.a then x.a+d else x.a,b:=if 0≤x.b then x.b+d else x.b,c:=if 0≤x.c then x.c+d else x.c }
theorem mv_aim (d:Nat) (op n:Int) (s:ByteArray) (l:List Int) (hl:∀ k∈l,0≤k):mv d (aim (leaf op n s) l)=aim (leaf op n s) (l.map (·+(d:Int))):=by
 match l with
 | []=>simp[mv,aim,leaf]
 | [p] =>
  have:=hl p (by simp)
  simp[mv,aim,leaf,this]
 | [p,q] =>
  have:=hl p (by simp)
  have:=hl q (by simp)
  by_cases h:op=28 <;> simp[mv,aim,leaf, *]
 | p :: q :: r :: t =>
  have:=hl p (by simp)
  have:=hl q (by simp)
  have:=hl r (by simp)
  simp[mv,aim,leaf, *]
theorem ends_mv (F:Fo) (d:Nat):∀ base,(F.ends base).map (·+(d:Int))=F.ends (base+d):=by
 induction F with
 | no=>intro _;rfl
 | tr op n s ks r _ ihr =>
  intro base
  simp only[Fo.ends,List.map_cons,ihr]
  rw[show base+d+ks.size+1=base+ks.size+1+d by omega]
  congr 1;omega
theorem flat_mv (F:Fo) (d:Nat):∀ base,(F.flat base).map (mv d)=F.flat (base+d):=by
 induction F with
 | no=>intro _;rfl
 | tr op n s ks r ihk ihr =>
  intro base
  simp only[Fo.flat,List.map_append,List.map_cons,ihk,ihr]
  rw[mv_aim d op n s _ (fun k hk=>by have:=ks.ends_range _ k hk;omega),ends_mv,show base+d+ks.size+1=base+ks.size+1+d by omega]
def behind (out e:List Nd):List Nd:=out++e.map (mv out.length)
theorem behind_flat (A F:Fo):behind (A.flat 0) (F.flat 0)=(A.app F).flat 0:=by
 unfold behind;rw[flat_mv,Fo.flat_app,Fo.flat_len]
def chain:Fo→List Fo→Fo
 | acc,[]=>acc
 | acc,F :: r=>chain (.tr 28 0 ByteArray.empty (acc.app F) .no) r
def joinF (op n:Int) (s:ByteArray) (l:List Fo):Fo:=.tr op n s (if op=27 then chain .no l else cat l) .no
theorem chain_snoc (F:Fo):∀ (l:List Fo) (acc:Fo),chain acc (l++[F])=.tr 28 0 ByteArray.empty ((chain acc l).app F) .no:=by
 intro l
 induction l with
 | nil=>intro _;rfl
 | cons a l ih=>intro acc;exact ih _
theorem cat_snoc (F:Fo) (l:List Fo):cat (l++[F])=(cat l).app F:=by rw[cat_append];simp[cat,Fo.app_no]
theorem count_cat (l:List Fo) (h:∀ F∈l,F.count=1):(cat l).count=l.length:=by
 induction l with
 | nil=>rfl
 | cons a l ih=>simp[cat,Fo.count_app,ih (fun F hF=>h F (by simp[hF])),h a (by simp)];omega
theorem chain_count (l:List Fo):(chain .no l).count=if l=[] then 0 else 1:=by
 induction l using snoc_ind with
 | h0=>rfl
 | h1 l F _=>rw[chain_snoc];simp[Fo.count]
theorem kids_leaf (op n:Int) (s:ByteArray):(kids (leaf op n s)).length=if op=26 then 3 else if op=28 then 1 else if op=27 then 0 else if 6≤op∧op≤20 then 2 else if op=4∨op=5∨(21≤op∧op≤25) then 1 else 0:=by
 unfold kids leaf
 simp only[]
 repeat' (split <;> try rfl)
 all_goals simp_all
def putF (f:ByteArray→Option Fo):Fo→Fo
 | .no=>.no
 | .tr op n s ks r=>(match (if op=3 then f s else none) with
   | some G=>G
   | none=>.tr op n s (putF f ks) .no).app (putF f r)
end Tx
end Go.Proofs.YtmacepicoandkaaGreatDoor
namespace Go.Proofs.YtmacepicoandkaaGreatDoor.Fx
abbrev Bs:=List UInt8
def wordOf (s:Bs):Bs:=s.takeWhile (· != 32)
def behind (s:Bs):Bs:=s.dropWhile (· != 32)
def skip (s:Bs):Bs:=s.dropWhile (·==32)
def wordsF:Nat→Bs→List Bs
 | 0,_=>[]
 | f+1,s=>if (skip s).isEmpty then [] else wordOf (skip s) :: wordsF f (behind (skip s))
def words (s:Bs):List Bs:=wordsF (s.length+1) s
def fits (n:Int):Bool:=decide (-2147483648≤n)&&decide (n≤2147483647)
def isD (c:UInt8):Bool:=48≤c&&c≤57
def val (l:Bs):Nat:=l.foldl (fun n c=>10 * n+(c.toNat - 48)) 0
def size (d:Bs):Option Nat:=if d.isEmpty || decide (10<d.length) || (d.headD 0==48&&decide (1<d.length)) || !d.all isD then none else some (val d)
def tru:Bs:=[116,114,117,101]
def fal:Bs:=[102,97,108,115,101]
def dg (n:Nat):UInt8:=UInt8.ofNat (48+n)
def decF:Nat→Nat→Bs
 | 0,_=>[]
 | f+1,n=>if n<10 then [dg n] else decF f (n / 10)++[dg (n % 10)]
def dec (n:Nat):Bs:=decF (n+1) n
def itoa (n:Int):Bs:=if n<0 then 45 :: dec n.natAbs else dec n.toNat
theorem decF_fuel:∀ (f g n:Nat),n<f→n<g→decF f n=decF g n
 | 0,_,_,h,_=>by omega
 | _,0,_,_,h=>by omega
 | f+1,g+1,n,hf,hg=>by
  simp only[decF]
  split
  ·rfl
  ·rw[decF_fuel f g (n / 10) (by omega) (by omega)]
theorem dec_small {n:Nat} (h:n<10):dec n=[dg n]:=by unfold dec;simp only[decF];rw[if_pos h]
theorem dec_big {n:Nat} (h:¬ n<10):dec n=dec (n / 10)++[dg (n % 10)]:=by
 show decF (n+1) n=_
 simp only[decF]
 rw[if_neg h,show decF n (n / 10)=dec (n / 10) from decF_fuel _ _ _ (by omega) (by omega)]
theorem val_snoc (l:Bs) (c:UInt8):val (l++[c])=10 * val l+(c.toNat - 48):=by simp[val,List.foldl_append]
theorem byte_of {n:Nat} (h:n<10):(dg n).toNat=48+n:=by
 unfold dg;rw[UInt8.toNat_ofNat'];exact Nat.mod_eq_of_lt (by omega)
theorem isD_of {n:Nat} (h:n<10):isD (dg n)=true:=by
 simp only[isD,Bool.and_eq_true,decide_eq_true_eq,UInt8.le_iff_toNat_le,byte_of h]
 have h1:(48:UInt8).toNat=48:=rfl
 have h2:(57:UInt8).toNat=57:=rfl
 omega
theorem isD_nat {c:UInt8} (h:isD c=true):48≤c.toNat∧c.toNat≤57:=by
 simp only[isD,Bool.and_eq_true,decide_eq_true_eq,UInt8.le_iff_toNat_le] at h
 exact h
theorem dec_is (n:Nat):(dec n).all isD=true∧val (dec n)=n∧dec n≠[]∧((dec n).headD 0=48→n=0)∧∀ k,n<10 ^ (k+1)→(dec n).length≤k+1:=by
 induction n using Nat.strongRecOn with
 | ind n ih =>
  by_cases h:n<10
  ·rw[dec_small h]
   refine⟨by simp[isD_of h],by simp[val,byte_of h],by simp,fun h0=>?_,fun k _=>by simp⟩
   have:=congrArg UInt8.toNat h0
   simp only[List.headD_cons,byte_of h] at this
   have h2:(48:UInt8).toNat=48:=rfl
   omega
  ·obtain⟨i1,i2,i3,i4,i5⟩:=ih (n / 10) (by omega)
   rw[dec_big h]
   have hm:n % 10<10:=Nat.mod_lt _ (by omega)
   refine⟨by rw[List.all_append,i1];simp[isD_of hm],by rw[val_snoc,i2,byte_of hm];omega,by simp,fun h0=>?_,fun k hk=>?_⟩
   ·have:(dec (n / 10)).headD 0=48:=by
     cases hq:dec (n / 10) with
     | nil=>exact absurd hq i3
     | cons c r=>rw[hq] at h0;simpa using h0
    have:=i4 this;omega
   ·rw[List.length_append,List.length_singleton]
    cases k with
    | zero=>simp at hk;omega
    | succ k =>
     have:=i5 k (by rw[Nat.pow_succ] at hk;omega)
     omega
def may (t n:Int):Bool:=(decide (t=2)&&fits n) || (decide (t=1)&&(decide (n=0) || decide (n=1)))
def text (t n:Int):Bs:=if t=1 then (if n=1 then tru else fal) else itoa n
end Go.Proofs.YtmacepicoandkaaGreatDoor.Fx
namespace Go.Proofs.YtmacepicoandkaaGreatDoor
namespace Ux
open Tx
def atomName (k:Nat):ByteArray:=⟨(63 :: Fx.dec k).toArray⟩
theorem atomName_inj {j k:Nat} (h:atomName j=atomName k):j=k:=by
 have h1:(63 :: Fx.dec j)=63 :: Fx.dec k:=by
  have:=congrArg (fun b:ByteArray=>b.data.toList) h
  simpa [atomName] using this
 have h2:Fx.dec j=Fx.dec k:=by simpa using h1
 rw[← (Fx.dec_is j).2.1,h2,(Fx.dec_is k).2.1]
def isLogic (op:Int):Bool:=op==2 || op==4 || (decide (6≤op)&&decide (op≤9)) || op==26
def cutF:Fo→List (List Nd)→Fo×List (List Nd)
 | .no,A=>(.no,A)
 | .tr op n s ks r,A =>
  if isLogic op then
   let p:=cutF ks A
   let q:=cutF r p.2
   (.tr op n ByteArray.empty p.1 q.1,q.2)
  else
   let x:=(Fo.tr op n s ks .no).flat 0
   let q:=cutF r (if x∈A then A else A++[x])
   (.tr 3 0 (atomName (A.idxOf x)) .no q.1,q.2)
theorem cut_app (a b:Fo):∀ A,cutF (a.app b) A=((cutF a A).1.app (cutF b (cutF a A).2).1,(cutF b (cutF a A).2).2):=by
 induction a with
 | no=>intro A;rfl
 | tr op n s ks r _ ih =>
  intro A
  simp only[Fo.app,cutF]
  split
  ·simp only[ih,Fo.app]
  ·simp only[ih,Fo.app]
theorem cut_count (F:Fo):∀ A,(cutF F A).1.count=F.count:=by
 induction F with
 | no=>intro A;rfl
 | tr op n s ks r _ ih=>intro A;simp only[cutF];split <;> simp[Fo.count,ih]
theorem cut_size (F:Fo):∀ A,(cutF F A).1.size≤F.size:=by
 induction F with
 | no=>intro A;simp[cutF]
 | tr op n s ks r ihk ih =>
  intro A;simp only[cutF];split
  ·simp only[Fo.size];have:=ihk A;have:=ih (cutF ks A).2;omega
  ·simp only[Fo.size];have:=ih (if (Fo.tr op n s ks .no).flat 0∈A then A else A++[(Fo.tr op n s ks .no).flat 0]);omega
theorem cut_depth (F:Fo):∀ A,(cutF F A).1.depth≤F.depth:=by
 induction F with
 | no=>intro A;simp[cutF]
 | tr op n s ks r ihk ih =>
  intro A;simp only[cutF];split
  ·simp only[Fo.depth];have:=ihk A;have:=ih (cutF ks A).2;omega
  ·simp only[Fo.depth];have:=ih (if (Fo.tr op n s ks .no).flat 0∈A then A else A++[(Fo.tr op n s ks .no).flat 0]);omega
theorem logic_ops {op:Int} (h:isLogic op=true):op≠27∧op≠28∧op≠3∧op≠1∧op≠25:=by
 unfold isLogic at h;simp at h;omega
theorem plain_logic {op n:Int} {s:ByteArray} (hl:isLogic op=true) (h:plainB op n s=true):s=ByteArray.empty:=by
 obtain⟨h1,h2,h3,h4,h5⟩:=logic_ops hl
 unfold plainB at h
 simp only[Bool.and_eq_true,beq_iff_eq] at h
 have h6:=h.1.1
 have e1:(op==3)=false:=by simpa using h3
 have e2:(op==27)=false:=by simpa using h1
 rw[e1,e2] at h6
 simpa using h6
theorem name_ne (k:Nat):atomName k≠ByteArray.empty:=by
 intro h
 have:=congrArg ByteArray.size h
 simp[atomName,ByteArray.size] at this
theorem args_not {op:Int} (hl:isLogic op=true) (l:List Int):argsB op l=l.all (fun p=>p != 28):=by
 obtain⟨h1,h2,h3,h4,h5⟩:=logic_ops hl
 unfold argsB;rw[if_neg h1,if_neg h2]
theorem cut_ops (F:Fo):∀ A,F.ops.all (fun p=>p != 28)=true→(cutF F A).1.ops.all (fun p=>p != 28)=true:=by
 induction F with
 | no=>intro A _;rfl
 | tr op n s ks r _ ih =>
  intro A h
  simp only[Fo.ops,List.all_cons,Bool.and_eq_true] at h
  simp only[cutF];split
  ·simp only[Fo.ops,List.all_cons,Bool.and_eq_true];exact⟨h.1,ih _ h.2⟩
  ·simp only[Fo.ops,List.all_cons,Bool.and_eq_true];exact⟨rfl,ih _ h.2⟩
theorem cut_wf (F:Fo):∀ A,F.wf=true→F.ops.all (fun p=>p != 28)=true→(cutF F A).1.wf=true:=by
 induction F with
 | no=>intro A _ _;rfl
 | tr op n s ks r ihk ih =>
  intro A hw ho
  simp only[Fo.wf,Bool.and_eq_true,decide_eq_true_eq] at hw
  obtain⟨⟨⟨⟨⟨⟨h1,h2⟩,h3⟩,h4⟩,h5⟩,h6⟩,h7⟩:=hw
  simp only[Fo.ops,List.all_cons,Bool.and_eq_true] at ho
  simp only[cutF];split
  ·rename_i hl
   rw[args_not hl] at h5
   have hs:=plain_logic hl h4
   subst hs
   simp only[Fo.wf,Bool.and_eq_true,decide_eq_true_eq,cut_count]
   exact⟨⟨⟨⟨⟨⟨h1,h2⟩,h3⟩,h4⟩,by rw[args_not hl];exact cut_ops ks A h5⟩,ihk A h6 h5⟩,ih _ h7 ho.2⟩
  ·simp only[Fo.wf,Bool.and_eq_true,decide_eq_true_eq]
   refine⟨⟨⟨⟨⟨⟨by omega,by omega⟩,rfl⟩,?_⟩,rfl⟩,trivial⟩,ih _ h7 ho.2⟩
   unfold plainB;simp[name_ne]
theorem cut_more (F:Fo):∀ A,∃ B,(cutF F A).2=A++B:=by
 induction F with
 | no=>intro A;exact⟨[],by simp[cutF]⟩
 | tr op n s ks r ihk ih =>
  intro A;simp only[cutF];split
  ·obtain⟨B,hB⟩:=ihk A
   obtain⟨C,hC⟩:=ih (cutF ks A).2
   exact⟨B++C,by rw[hC,hB,List.append_assoc]⟩
  ·obtain⟨C,hC⟩:=ih (if (Fo.tr op n s ks .no).flat 0∈A then A else A++[(Fo.tr op n s ks .no).flat 0])
   simp only[hC]
   split
   ·exact⟨C,rfl⟩
   ·exact⟨[(Fo.tr op n s ks .no).flat 0]++C,by simp⟩
theorem cut_len (F:Fo):∀ A,(cutF F A).2.length≤A.length+F.size:=by
 induction F with
 | no=>intro A;simp[cutF,Fo.size]
 | tr op n s ks r ihk ih =>
  intro A;simp only[cutF];split
  ·simp only[Fo.size];have:=ihk A;have:=ih (cutF ks A).2;omega
  ·simp only[Fo.size]
   have:=ih (if (Fo.tr op n s ks .no).flat 0∈A then A else A++[(Fo.tr op n s ks .no).flat 0])
   split at this
   ·rename_i h;rw[if_pos h];omega
   ·rename_i h;rw[if_neg h];rw[List.length_append,List.length_singleton] at this;omega
def IsAtom (m d:Nat) (x:List Nd):Prop:=∃ op n s ks,x=(Fo.tr op n s ks .no).flat 0∧isLogic op=false∧op≠28∧(Fo.tr op n s ks .no).wf=true∧(Fo.tr op n s ks .no).size≤m∧(Fo.tr op n s ks .no).depth≤d
theorem cut_atoms (m d:Nat) (F:Fo):∀ A,F.wf=true→F.ops.all (fun p=>p != 28)=true→F.size≤m→F.depth≤d→(∀ x∈A,IsAtom m d x)→A.Nodup→(∀ x∈(cutF F A).2,IsAtom m d x)∧(cutF F A).2.Nodup:=by
 induction F with
 | no=>intro A _ _ _ _ h h';exact⟨h,h'⟩
 | tr op n s ks r ihk ih =>
  intro A hw ho hm hd h h'
  have hw0:=hw
  simp only[Fo.wf,Bool.and_eq_true,decide_eq_true_eq] at hw
  obtain⟨⟨⟨⟨⟨⟨h1,h2⟩,h3⟩,h4⟩,h5⟩,h6⟩,h7⟩:=hw
  simp only[Fo.ops,List.all_cons,Bool.and_eq_true,bne_iff_ne] at ho
  simp only[Fo.size] at hm
  simp only[Fo.depth] at hd
  simp only[cutF];split
  ·rename_i hl
   rw[args_not hl] at h5
   obtain⟨k1,k2⟩:=ihk A h6 h5 (by omega) (by omega) h h'
   exact ih _ h7 ho.2 (by omega) (by omega) k1 k2
  ·rename_i hl
   have hat:IsAtom m d ((Fo.tr op n s ks .no).flat 0):=⟨op,n,s,ks,rfl,by simpa using hl,ho.1,by
    simp only[Fo.wf,Bool.and_eq_true,decide_eq_true_eq];exact⟨⟨⟨⟨⟨⟨h1,h2⟩,h3⟩,h4⟩,h5⟩,h6⟩,trivial⟩,by simp only[Fo.size];omega,by simp only[Fo.depth];omega⟩
   refine ih _ h7 ho.2 (by omega) (by omega) ?_ ?_
   ·split
    ·exact h
    ·intro x hx
     rcases List.mem_append.1 hx with hx | hx
     ·exact h x hx
     ·rw[List.mem_singleton.1 hx];exact hat
   ·split
    ·exact h'
    ·rename_i hx
     rw[List.nodup_append]
     exact⟨h',by simp,fun a ha b hb e=>by rw[List.mem_singleton.1 hb] at e;exact hx (e ▸ ha)⟩
def byName (A:List (List Nd)) (s:ByteArray):Option Fo:=((List.range A.length).find? fun k=>decide (atomName k=s)).map fun k=>T (A.getD k []) ((A.getD k []).length - 1)
theorem byName_at {A:List (List Nd)} {k:Nat} (hk:k<A.length):byName A (atomName k)=some (T (A.getD k []) ((A.getD k []).length - 1)):=by
 unfold byName
 have:(List.range A.length).find? (fun j=>decide (atomName j=atomName k))=some k:=by
  rw[List.find?_range_eq_some]
  refine⟨by simp,by simpa using hk,fun j hj=>?_⟩
  rw[Bool.not_eq_true',decide_eq_false_iff_not]
  intro e;have:=atomName_inj e;omega
 rw[this];rfl
theorem cut_put (F:Fo):∀ (A B:List (List Nd)),F.wf=true→F.ops.all (fun p=>p != 28)=true→(∃ C,B=(cutF F A).2++C)→putF (byName B) (cutF F A).1=F:=by
 induction F with
 | no=>intro A B _ _ _;rfl
 | tr op n s ks r ihk ih =>
  intro A B hw ho hB
  simp only[Fo.wf,Bool.and_eq_true,decide_eq_true_eq] at hw
  obtain⟨⟨⟨⟨⟨⟨h1,h2⟩,h3⟩,h4⟩,h5⟩,h6⟩,h7⟩:=hw
  simp only[Fo.ops,List.all_cons,Bool.and_eq_true,bne_iff_ne] at ho
  simp only[cutF] at hB ⊢
  split
  ·rename_i hl
   rw[if_pos hl] at hB
   have h5':=h5
   rw[args_not hl] at h5'
   obtain⟨C,hC⟩:=hB
   obtain⟨D,hD⟩:=cut_more r (cutF ks A).2
   have e1:=ihk A B h6 h5' ⟨D++C,by rw[hC];simp only[hD,List.append_assoc]⟩
   have e2:=ih (cutF ks A).2 B h7 ho.2 ⟨C,hC⟩
   have hop:=(logic_ops hl).2.2.1
   simp only[putF,if_neg hop,e1,e2,Fo.app]
   rw[plain_logic hl h4]
  ·rename_i hl
   rw[if_neg hl] at hB
   obtain⟨C,hC⟩:=hB
   generalize hx:(Fo.tr op n s ks .no).flat 0=x at hC ⊢
   have hwx:(Fo.tr op n s ks .no).wf=true:=by simp only[Fo.wf,Bool.and_eq_true,decide_eq_true_eq];exact⟨⟨⟨⟨⟨⟨h1,h2⟩,h3⟩,h4⟩,h5⟩,h6⟩,trivial⟩
   obtain⟨D,hD⟩:=cut_more r (if x∈A then A else A++[x])
   have hat:B[A.idxOf x]?=some x:=by
    rw[hC];simp only[hD]
    by_cases hm:x∈A
    ·rw[if_pos hm,List.append_assoc,List.getElem?_append_left (List.idxOf_lt_length_iff.2 hm)]
     rw[List.getElem?_eq_getElem (List.idxOf_lt_length_iff.2 hm),List.getElem_idxOf]
    ·rw[if_neg hm,List.idxOf_eq_length hm,List.append_assoc,List.append_assoc,List.getElem?_append_right (Nat.le_refl _)]
     simp
   have hlt:=(List.getElem?_eq_some_iff.1 hat).1
   have e2:=ih (if x∈A then A else A++[x]) B h7 ho.2 ⟨C,hC⟩
   simp only[putF,if_true,byName_at hlt,e2]
   have hg:B.getD (A.idxOf x) []=x:=by rw[List.getD_eq_getElem?_getD,hat];rfl
   rw[hg,← hx,Fo.flat_len,T_flat0 hwx rfl]
   rfl
end Ux
end Go.Proofs.YtmacepicoandkaaGreatDoor
