/- Expressions out of tokens: the plain mathematics. More steps; each source has an answer: the plain mathematics. Tokens among others; tokens without the last ones: the plain mathematics. Expressions out of texts: the plain mathematics of the laws. -/
import Derived.Test.YtmacepicoandkaaGreatDoorJ1
import Derived.Test.YtmacepicoandkaaGreatDoorJ3
set_option linter.unusedVariables false
set_option linter.unusedSimpArgs false
namespace Go.Proofs.YtmacepicoandkaaGreatDoor
namespace Px
open Tx
def bs (l:List UInt8):ByteArray:=⟨l.toArray⟩
def atP (L:List Tok) (i:Nat):Int:=match L[i]? with
 | some t=>t.p
 | none=>-1
def hereT (L:List Tok) (i:Nat):Option ByteArray:=match L[i]? with
 | some t=>if t.k=3∨t.k=4 then some t.t else none
 | none=>none
def isT (L:List Tok) (i:Nat) (s:ByteArray):Bool:=decide (hereT L i=some s)
def opAt (n:Nat) (s:ByteArray):Option (Int×Bool) :=
 match n with
 | 0=>if s=bs [45,62] then some (19,false) else none
 | 1=>if s=bs [61,62] then some (9,false) else none
 | 2=>if s=bs [115,105,110,99,101] then some (20,false) else none
 | 3=>if s=bs [111,114] then some (7,false) else if s=bs [120,111,114] then some (8,false) else none
 | 4=>if s=bs [97,110,100] then some (6,false) else none
 | 5=>if s=bs [61] then some (10,false) else if s=bs [60,62] then some (11,false) else if s=bs [60] then some (12,false) else if s=bs [60,61] then some (13,false) else if s=bs [62] then some (12,true) else if s=bs [62,61] then some (13,true) else none
 | 6=>if s=bs [43] then some (14,false) else if s=bs [45] then some (15,false) else none
 | 7=>if s=bs [42] then some (16,false) else if s=bs [100,105,118] then some (17,false) else if s=bs [109,111,100] then some (18,false) else none
 | _=>none
def preAt (s:ByteArray):Option Int :=
 if s=bs [110,111,116] then some 4 else if s=bs [45] then some 5 else if s=bs [112,114,101] then some 21 else if s=bs [111,110,99,101] then some 22
 else if s=bs [104,105,115,116] then some 23 else if s=bs [112,114,101,118] then some 24 else if s=bs [119,105,116,104,105,110] then some 25 else none
inductive Tag where
 | bin (n:Nat)
 | loop (n:Nat) (a:Fo)
 | args (l:List Fo)
abbrev Res:=Except (Int×Int) (List Fo×Nat)
abbrev Orc:=Tag→Nat→Nat→Option Res
def thenE (r:Option Res) (f:Fo→Nat→Option Res):Option Res:=match r with
 | none=>none
 | some (.error e)=>some (.error e)
 | some (.ok ([a],i))=>f a i
 | some (.ok (_,_))=>none
def errAt (L:List Tok) (c:Int) (i:Nat):Option Res:=some (.error (c,atP L i))
def needT (L:List Tok) (s:ByteArray) (i:Nat) (f:Nat→Option Res):Option Res:=if isT L i s then f (i+1) else errAt L 5 i
def tLpar:=bs [40]
def tRpar:=bs [41]
def tComma:=bs [44]
def tIf:=bs [105,102]
def tThen:=bs [116,104,101,110]
def tElse:=bs [101,108,115,101]
def tTrue:=bs [116,114,117,101]
def tFalse:=bs [102,97,108,115,101]
def node (op n:Int) (s:ByteArray) (ks:Fo):Fo:=.tr op n s ks .no
def noS:ByteArray:=ByteArray.empty
def one (F:Fo) (i:Nat):Option Res:=some (.ok ([F],i))
def signS (p:Orc) (L:List Tok) (s:ByteArray) (I o:Nat):Option Res :=
 match preAt s with
 | some op =>
  if op=25 then
   match L[I+1]? with
   | some u=>if u.k=2∧Lx.val u.t.data.toList≤1000 then thenE (p (.bin 8) (I+2) (o+1)) fun a i=>one (node 25 (Lx.val u.t.data.toList) noS a) i else errAt L 5 (I+1)
   | none=>errAt L 5 (I+1)
  else thenE (p (.bin 8) (I+1) (o+1)) fun a i=>one (node op 0 noS a) i
 | none =>
  if s=tTrue then one (node 2 1 noS .no) (I+1)
  else if s=tFalse then one (node 2 0 noS .no) (I+1)
  else if s=tLpar then thenE (p (.bin 0) (I+1) (o+1)) fun a i=>needT L tRpar i fun i=>one a i
  else if s=tIf then
   thenE (p (.bin 0) (I+1) (o+1)) fun a i=>needT L tThen i fun i=>thenE (p (.bin 0) i (o+1)) fun b i=>needT L tElse i fun i=>thenE (p (.bin 0) i (o+1)) fun c i=>one (node 26 0 noS (a.app (b.app c))) i
  else errAt L 5 I
def callS (name:ByteArray) (r:Option Res):Option Res:=match r with
 | none=>none
 | some (.error e)=>some (.error e)
 | some (.ok (l,i))=>one (joinF 27 0 name l) i
def operandS (p:Orc) (L:List Tok) (I o:Nat):Option Res :=
 if 200≤o then errAt L 6 I
 else match L[I]? with
  | none=>errAt L 5 I
  | some t =>
   if t.k=2 then one (node 1 (Lx.val t.t.data.toList) noS .no) (I+1)
   else if t.k=1 then
    if isT L (I+1) tLpar then
     if isT L (I+2) tRpar then one (joinF 27 0 t.t []) (I+3)
     else callS t.t (p (.args []) (I+2) (o+1))
    else one (node 3 0 t.t .no) (I+1)
   else if t.k=3∨t.k=4 then signS p L t.t I o
   else errAt L 5 I
def stepP (L:List Tok) (p:Orc):Orc
 | .bin n,I,o=>if n<8 then thenE (p (.bin (n+1)) I o) fun a i=>p (.loop n a) i o else operandS p L I o
 | .loop n a,I,o=>match (hereT L I).bind (opAt n) with
  | none=>one a I
  | some (op,sw)=>thenE (p (.bin (if n≤1 then n else n+1)) (I+1) o) fun b i =>
    if n≤1∨n=5 then one (node op 0 noS (if sw then b.app a else a.app b)) i else p (.loop n (node op 0 noS (if sw then b.app a else a.app b))) i o
 | .args l,I,o=>thenE (p (.bin 0) I o) fun a i=>if isT L i tRpar then some (.ok (l++[a],i+1)) else if isT L i tComma then p (.args (l++[a])) (i+1) o else errAt L 5 i
def P (L:List Tok):Nat→Orc
 | 0=>fun _ _ _=>none
 | f+1=>stepP L (P L f)
def parse (L:List Tok) (f from_:Nat):Option (Except (Int×Int) (Fo×Nat)):=match P L f (.bin 0) from_ 0 with
 | some (.error e)=>some (.error e)
 | some (.ok ([F],i))=>some (if 5000<F.size then .error (7,atP L from_) else if 40<F.depth then .error (6,atP L from_) else .ok (F,i))
 | _=>none
structure TokOk (t:Tok):Prop where
 num:t.k=2→t.t.data.toList.all Lx.isDig=true∧Lx.val t.t.data.toList≤2147483647∧t.t.size≤10∧t.t.data.toList≠[]
 name:t.k=1→t.t≠ByteArray.empty
structure Good (F:Fo):Prop where
 wf:F.wf=true
 one:F.count=1
 ops:F.ops.all (fun p=>p != 28)=true
theorem hereT_lt {L:List Tok} {i:Nat} {s:ByteArray} (h:hereT L i=some s):i<L.length:=by
 unfold hereT at h
 split at h
 ·rename_i t ht;exact (List.getElem?_eq_some_iff.1 ht).1
 ·cases h
theorem isT_lt {L:List Tok} {i:Nat} {s:ByteArray} (h:isT L i s=true):i<L.length:=hereT_lt (by simpa [isT] using h)
def ResOk (L:List Tok) (I:Nat) (have_:List Fo) (r:Res):Prop:=match r with
 | .error _=>True
 | .ok (l,i)=>(∀ F∈l,Good F)∧I≤i∧i≤L.length∧(cat l).size+l.length≤(cat have_).size+have_.length+3 * (i - I)
theorem opAt_is {n:Nat} {s:ByteArray} {op:Int} {sw:Bool} (h:opAt n s=some (op,sw)):6≤op∧op≤20:=by
 unfold opAt at h
 repeat' (split at h)
 all_goals first | (cases h;done) | (simp only[Option.some.injEq,Prod.mk.injEq] at h;omega)
theorem preAt_is {s:ByteArray} {op:Int} (h:preAt s=some op):op=4∨op=5∨(21≤op∧op≤25):=by
 unfold preAt at h
 repeat' (split at h)
 all_goals first | (cases h;done) | (simp only[Option.some.injEq] at h;omega)
theorem good_two {op:Int} {a b:Fo} (ho:6≤op∧op≤20) (ha:Good a) (hb:Good b):Good (node op 0 noS (a.app b)):=by
 refine⟨?_,rfl,?_⟩
 ·simp only[node,Fo.wf,Bool.and_eq_true,decide_eq_true_eq,Fo.count_app,ha.one,hb.one,Fo.wf_app,ha.wf,hb.wf,Fo.ops_app]
  refine⟨⟨⟨⟨⟨⟨by omega,by omega⟩,?_⟩,?_⟩,?_⟩,trivial,trivial⟩,trivial⟩
  ·unfold arB;rw[if_neg (by omega),if_neg (by omega),if_neg (by omega),if_pos ho];rfl
  ·have h1:(op==3)=false:=by rw[beq_eq_false_iff_ne];omega
   have h2:(op==27)=false:=by rw[beq_eq_false_iff_ne];omega
   have h3:¬ op=1:=by omega
   have h4:¬ op=2:=by omega
   have h5:¬ op=25:=by omega
   unfold plainB noS;rw[h1,h2,if_neg h3,if_neg h4,if_neg h5];rfl
  ·unfold argsB;rw[if_neg (by omega),if_neg (by omega),List.all_append,ha.ops,hb.ops];rfl
 ·simp[node,Fo.ops];omega
theorem good_one {op n:Int} {a:Fo} (ho:op=4∨op=5∨(21≤op∧op≤25)) (hn:0≤n∧n≤if op=25 then 1000 else 0) (ha:Good a):Good (node op n noS a):=by
 refine⟨?_,rfl,?_⟩
 ·simp only[node,Fo.wf,Bool.and_eq_true,decide_eq_true_eq,ha.one,ha.wf]
  refine⟨⟨⟨⟨⟨⟨by omega,by omega⟩,?_⟩,?_⟩,?_⟩,trivial⟩,trivial⟩
  ·unfold arB;rw[if_neg (by omega),if_neg (by omega),if_neg (by omega),if_neg (by omega),if_pos ho];rfl
  ·have h1:(op==3)=false:=by rw[beq_eq_false_iff_ne];omega
   have h2:(op==27)=false:=by rw[beq_eq_false_iff_ne];omega
   have h3:¬ op=1:=by omega
   have h4:¬ op=2:=by omega
   unfold plainB noS;rw[h1,h2,if_neg h3,if_neg h4,decide_eq_true hn.1,decide_eq_true hn.2];rfl
  ·unfold argsB;rw[if_neg (by omega),if_neg (by omega)];exact ha.ops
 ·simp[node,Fo.ops];omega
theorem good_three {a b c:Fo} (ha:Good a) (hb:Good b) (hc:Good c):Good (node 26 0 noS (a.app (b.app c))):=by
 refine⟨?_,rfl,rfl⟩
 simp only[node,Fo.wf,Bool.and_eq_true,decide_eq_true_eq,Fo.count_app,ha.one,hb.one,hc.one,Fo.wf_app,ha.wf,hb.wf,hc.wf,Fo.ops_app]
 refine⟨⟨⟨⟨⟨⟨by omega,by omega⟩,rfl⟩,rfl⟩,?_⟩,trivial,trivial,trivial⟩,trivial⟩
 unfold argsB;rw[if_neg (by omega),if_neg (by omega),List.all_append,List.all_append,ha.ops,hb.ops,hc.ops];rfl
theorem chain_wf:∀ (l:List Fo),(∀ F∈l,Good F)→(chain .no l).wf=true∧(chain .no l).ops.all (fun p=>p==28)=true:=by
 intro l
 induction l using snoc_ind with
 | h0=>intro _;exact⟨rfl,rfl⟩
 | h1 l F ih =>
  intro h
  obtain⟨i1,i2⟩:=ih (fun G hG=>h G (by simp[hG]))
  have hF:=h F (by simp)
  have hc:=chain_count l
  rw[chain_snoc]
  refine⟨?_,rfl⟩
  simp only[Fo.wf,Bool.and_eq_true,decide_eq_true_eq,Fo.count_app,hF.one,Fo.wf_app,hF.wf,i1,Fo.ops_app,hc]
  have hops:∃ p,F.ops=[p]∧p≠28:=by
   have h1:=hF.ops
   have h2:=Fo.ops_len F
   rw[hF.one] at h2
   match hq:F.ops,h2 with
   | [p],_=>rw[hq] at h1;exact⟨p,rfl,by simpa using h1⟩
  obtain⟨p,hp,hp2⟩:=hops
  refine⟨⟨⟨⟨⟨⟨by omega,by omega⟩,?_⟩,rfl⟩,?_⟩,trivial,trivial⟩,trivial⟩
  ·split <;> rfl
  ·rw[hp]
   by_cases hl:l=[]
   ·subst hl;simp[chain,Fo.ops,argsB,hp2]
   ·rw[if_neg hl] at hc
    have h3:=Fo.ops_len (chain .no l)
    rw[hc] at h3
    match hq:(chain .no l).ops,h3 with
    | [q],_ =>
     rw[hq] at i2
     simp at i2;subst i2
     simp[argsB,hp2]
theorem chain_size (l:List Fo):(chain .no l).size=(cat l).size+l.length:=by
 induction l using snoc_ind with
 | h0=>rfl
 | h1 l F ih=>rw[chain_snoc,cat_snoc];simp[Fo.size,Fo.size_app,ih];omega
theorem good_call {s:ByteArray} {l:List Fo} (hs:s≠ByteArray.empty) (h:∀ F∈l,Good F):Good (joinF 27 0 s l):=by
 obtain⟨h1,h2⟩:=chain_wf l h
 refine⟨?_,rfl,rfl⟩
 simp only[joinF,if_true,Fo.wf,Bool.and_eq_true,decide_eq_true_eq,h1,chain_count]
 refine⟨⟨⟨⟨⟨⟨by omega,by omega⟩,?_⟩,?_⟩,?_⟩,trivial⟩,trivial⟩
 ·split <;> rfl
 ·unfold plainB;simp[hs]
 ·unfold argsB;rw[if_pos rfl];exact h2
theorem good_leaf {op n:Int} {s:ByteArray} (h:(op=1∧0≤n∧n≤2147483647∧s=noS)∨(op=2∧0≤n∧n≤1∧s=noS)∨(op=3∧n=0∧s≠ByteArray.empty)):Good (node op n s .no):=by
 rcases h with ⟨rfl,h1,h2,rfl⟩ | ⟨rfl,h1,h2,rfl⟩ | ⟨rfl,rfl,h1⟩
 ·refine⟨?_,rfl,rfl⟩
  simp[node,Fo.wf,arB,Fo.count,plainB,argsB,Fo.ops,noS,h1,h2]
 ·refine⟨?_,rfl,rfl⟩
  simp[node,Fo.wf,arB,Fo.count,plainB,argsB,Fo.ops,noS,h1,h2]
 ·refine⟨?_,rfl,rfl⟩
  simp[node,Fo.wf,arB,Fo.count,plainB,argsB,Fo.ops,h1]
def Tag.have_:Tag→List Fo
 | .bin _=>[]
 | .loop _ a=>[a]
 | .args l=>l
theorem thenE_some {r:Option Res} {f:Fo→Nat→Option Res} {q:Res} (h:thenE r f=some q):(∃ e,r=some (.error e)∧q=.error e)∨∃ a i,r=some (.ok ([a],i))∧f a i=some q:=by
 unfold thenE at h
 split at h
 ·cases h
 ·rename_i e
  exact Or.inl ⟨e,rfl,(Option.some.inj h).symm⟩
 ·rename_i a i
  exact Or.inr ⟨a,i,rfl,h⟩
 ·cases h
theorem needT_some {L:List Tok} {s:ByteArray} {i:Nat} {f:Nat→Option Res} {q:Res} (h:needT L s i f=some q):q=.error (5,atP L i)∨(isT L i s=true∧f (i+1)=some q):=by
 unfold needT errAt at h
 split at h
 ·rename_i h1;exact Or.inr ⟨h1,h⟩
 ·exact Or.inl (Option.some.inj h).symm
theorem ok_one {L:List Tok} {I i:Nat} {F:Fo} {H:List Fo} (hF:Good F) (h1:I≤i) (h2:i≤L.length) (h3:F.size+1≤(cat H).size+H.length+3 * (i - I)):ResOk L I H (.ok ([F],i)) :=
 ⟨fun G hG=>by rw[List.mem_singleton.1 hG];exact hF,h1,h2,by simp[cat,Fo.app_no];omega⟩
theorem one_some {F:Fo} {i:Nat} {q:Res} (h:one F i=some q):q=.ok ([F],i):=(Option.some.inj h).symm
def OrcOk (L:List Tok) (p:Orc):Prop:=∀ (g:Tag) (I o:Nat) (r:Res),I≤L.length→(∀ F∈g.have_,Good F)→p g I o=some r→ResOk L I g.have_ r
theorem OrcOk.bin {L:List Tok} {p:Orc} (h:OrcOk L p) {n I o i:Nat} {a:Fo} (hI:I≤L.length) (hp:p (.bin n) I o=some (.ok ([a],i))):Good a∧I≤i∧i≤L.length∧a.size+1≤3 * (i - I):=by
 obtain⟨h1,h2,h3,h4⟩:=h (.bin n) I o _ hI (fun F hF=>by simp[Tag.have_] at hF) hp
 refine⟨h1 a (by simp),h2,h3,?_⟩
 simpa [cat,Fo.app_no,Tag.have_,Fo.size] using h4
theorem sign_ok {L:List Tok} {p:Orc} (h:OrcOk L p) {s:ByteArray} {I o:Nat} {q:Res} (hI:I<L.length) (hq:signS p L s I o=some q):ResOk L I [] q:=by
 unfold signS at hq
 split at hq
 ·rename_i op hop
  split at hq
  ·split at hq
   ·rename_i u hu
    have hu2:=(List.getElem?_eq_some_iff.1 hu).1
    split at hq
    ·rename_i h25 hk
     rcases thenE_some hq with ⟨e,_,rfl⟩ | ⟨a,i,h1,h2⟩
     ·trivial
     ·obtain⟨g1,g2,g3,g4⟩:=h.bin (by omega) h1
      rw[one_some h2]
      exact ok_one (good_one (Or.inr (Or.inr ⟨by omega,by omega⟩)) ⟨by omega,by simp;omega⟩ g1) (by omega) g3 (by simp[node,cat,Fo.size];omega)
    ·cases hq;trivial
   ·cases hq;trivial
  ·rename_i h25
   rcases thenE_some hq with ⟨e,_,rfl⟩ | ⟨a,i,h1,h2⟩
   ·trivial
   ·obtain⟨g1,g2,g3,g4⟩:=h.bin (by omega) h1
    rw[one_some h2]
    exact ok_one (good_one (preAt_is hop) ⟨by omega,by rw[if_neg h25];omega⟩ g1) (by omega) g3 (by simp[node,cat,Fo.size];omega)
 ·split at hq
  ·rw[one_some hq];exact ok_one (good_leaf (Or.inr (Or.inl ⟨rfl,by omega,by omega,rfl⟩))) (by omega) (by omega) (by simp[node,cat,Fo.size])
  split at hq
  ·rw[one_some hq];exact ok_one (good_leaf (Or.inr (Or.inl ⟨rfl,by omega,by omega,rfl⟩))) (by omega) (by omega) (by simp[node,cat,Fo.size])
  split at hq
  ·rcases thenE_some hq with ⟨e,_,rfl⟩ | ⟨a,i,h1,h2⟩
   ·trivial
   ·obtain⟨g1,g2,g3,g4⟩:=h.bin (by omega) h1
    rcases needT_some h2 with rfl | ⟨h3,h4⟩
    ·trivial
    ·have:=isT_lt h3
     rw[one_some h4];exact ok_one g1 (by omega) (by omega) (by simp[cat,Fo.size];omega)
  split at hq
  ·rcases thenE_some hq with ⟨e,_,rfl⟩ | ⟨a,i,h1,h2⟩
   ·trivial
   obtain⟨g1,g2,g3,g4⟩:=h.bin (by omega) h1
   rcases needT_some h2 with rfl | ⟨h3,h4⟩
   ·trivial
   have hi:=isT_lt h3
   rcases thenE_some h4 with ⟨e,_,rfl⟩ | ⟨b,j,k1,k2⟩
   ·trivial
   obtain⟨e1,e2,e3,e4⟩:=h.bin (by omega) k1
   rcases needT_some k2 with rfl | ⟨k3,k4⟩
   ·trivial
   have hj:=isT_lt k3
   rcases thenE_some k4 with ⟨e,_,rfl⟩ | ⟨c,m,l1,l2⟩
   ·trivial
   obtain⟨f1,f2,f3,f4⟩:=h.bin (by omega) l1
   rw[one_some l2]
   exact ok_one (good_three g1 e1 f1) (by omega) f3 (by simp[node,cat,Fo.size,Fo.size_app];omega)
  ·cases hq;trivial
theorem call_ok {L:List Tok} {s:ByteArray} {I:Nat} {r:Option Res} {q:Res} (hs:s≠ByteArray.empty) (hr:∀ x,r=some x→ResOk L (I+2) [] x) (hq:callS s r=some q):ResOk L I [] q:=by
 unfold callS at hq
 split at hq
 ·cases hq
 ·cases hq;trivial
 ·rename_i l i
  obtain⟨h1,h2,h3,h4⟩:=hr _ rfl
  rw[one_some hq]
  refine ok_one (good_call hs h1) (by omega) h3 ?_
  simp only[joinF,if_true,Fo.size,chain_size,cat,List.length_nil] at h4 ⊢
  omega
theorem operand_ok {L:List Tok} (hL:∀ t∈L,TokOk t) {p:Orc} (h:OrcOk L p) {I o:Nat} {q:Res} (hq:operandS p L I o=some q):ResOk L I [] q:=by
 unfold operandS at hq
 split at hq
 ·cases hq;trivial
 split at hq
 ·cases hq;trivial
 rename_i t ht
 have hI:=(List.getElem?_eq_some_iff.1 ht).1
 have hT:=hL t (List.mem_of_getElem? ht)
 split at hq
 ·rename_i hk
  rw[one_some hq]
  exact ok_one (good_leaf (Or.inl ⟨rfl,by omega,by have:=(hT.num hk).2.1;omega,rfl⟩)) (by omega) (by omega) (by simp[node,cat,Fo.size])
 split at hq
 ·rename_i hk
  have hn:=hT.name hk
  split at hq
  ·rename_i h1
   have h1:=isT_lt h1
   split at hq
   ·rename_i h2
    have h2:=isT_lt h2
    rw[one_some hq]
    exact ok_one (good_call hn (fun F hF=>by simp at hF)) (by omega) (by omega) (by simp[joinF,chain,cat,Fo.size])
   ·exact call_ok hn (fun x hx=>h (.args []) (I+2) (o+1) x (by omega) (fun F hF=>by simp[Tag.have_] at hF) hx) hq
  ·rw[one_some hq]
   exact ok_one (good_leaf (Or.inr (Or.inr ⟨rfl,rfl,hn⟩))) (by omega) (by omega) (by simp[node,cat,Fo.size])
 split at hq
 ·exact sign_ok h hI hq
 ·cases hq;trivial
theorem step_ok {L:List Tok} (hL:∀ t∈L,TokOk t) {p:Orc} (h:OrcOk L p):OrcOk L (stepP L p):=by
 intro g I o r hI hg hr
 cases g with
 | bin n =>
  simp only[stepP] at hr
  split at hr
  ·rcases thenE_some hr with ⟨e,_,rfl⟩ | ⟨a,i,h1,h2⟩
   ·trivial
   obtain⟨g1,g2,g3,g4⟩:=h.bin hI h1
   have h5:=h (.loop n a) i o r g3 (fun F hF=>by simp[Tag.have_] at hF;rw[hF];exact g1) h2
   cases r with
   | error e=>trivial
   | ok x =>
    obtain⟨l,j⟩:=x
    obtain⟨k1,k2,k3,k4⟩:=h5
    refine⟨k1,by omega,k3,?_⟩
    simp only[Tag.have_,cat,Fo.app_no,List.length_singleton,List.length_nil,Fo.size] at k4 ⊢
    omega
  ·exact operand_ok hL h hr
 | loop n a =>
  have ha:=hg a (by simp[Tag.have_])
  simp only[stepP] at hr
  split at hr
  ·rw[one_some hr];exact ok_one ha (Nat.le_refl _) hI (by simp[Tag.have_,cat,Fo.app_no])
  ·rename_i op sw hop
   obtain⟨s,hs,hop⟩:=Option.bind_eq_some_iff.1 hop
   have hlt:=hereT_lt hs
   have ho:=opAt_is hop
   rcases thenE_some hr with ⟨e,_,rfl⟩ | ⟨b,i,h1,h2⟩
   ·trivial
   obtain⟨g1,g2,g3,g4⟩:=h.bin (by omega) h1
   have hgood:Good (node op 0 noS (if sw then b.app a else a.app b)):=by
    cases sw
    ·exact good_two ho ha g1
    ·exact good_two ho g1 ha
   have hsz:(node op 0 noS (if sw then b.app a else a.app b)).size=a.size+b.size+1:=by
    cases sw <;> simp[node,Fo.size,Fo.size_app] <;> omega
   split at h2
   ·rw[one_some h2];exact ok_one hgood (by omega) g3 (by rw[hsz];simp[Tag.have_,cat,Fo.app_no];omega)
   ·have h5:=h _ i o r g3 (fun F hF=>by simp only[Tag.have_,List.mem_singleton] at hF;rw[hF];exact hgood) h2
    cases r with
    | error e=>trivial
    | ok x =>
     obtain⟨l,j⟩:=x
     obtain⟨k1,k2,k3,k4⟩:=h5
     refine⟨k1,by omega,k3,?_⟩
     simp only[Tag.have_,cat,Fo.app_no,List.length_singleton,hsz] at k4 ⊢
     omega
 | args l =>
  simp only[Tag.have_] at hg
  simp only[stepP] at hr
  rcases thenE_some hr with ⟨e,_,rfl⟩ | ⟨a,i,h1,h2⟩
  ·trivial
  obtain⟨g1,g2,g3,g4⟩:=h.bin hI h1
  have hall:∀ F∈l++[a],Good F:=fun F hF=>by
   rcases List.mem_append.1 hF with hF | hF
   ·exact hg F hF
   ·rw[List.mem_singleton.1 hF];exact g1
  split at h2
  ·rename_i h3
   have h3:=isT_lt h3
   cases h2
   refine⟨hall,by omega,by omega,?_⟩
   simp only[Tag.have_,cat_snoc,Fo.size_app,List.length_append,List.length_singleton];omega
  split at h2
  ·rename_i h3
   have h3:=isT_lt h3
   have h5:=h (.args (l++[a])) (i+1) o r (by omega) hall h2
   cases r with
   | error e=>trivial
   | ok x =>
    obtain⟨m,j⟩:=x
    obtain⟨k1,k2,k3,k4⟩:=h5
    refine⟨k1,by omega,k3,?_⟩
    simp only[Tag.have_,cat_snoc,Fo.size_app,List.length_append,List.length_singleton] at k4 ⊢
    omega
  ·cases h2;trivial
theorem P_ok {L:List Tok} (hL:∀ t∈L,TokOk t):∀ f,OrcOk L (P L f)
 | 0=>fun _ _ _ _ _ _ h=>by cases h
 | f+1=>step_ok hL (P_ok hL f)
def Le (p q:Orc):Prop:=∀ g I o r,p g I o=some r→q g I o=some r
end Px
end Go.Proofs.YtmacepicoandkaaGreatDoor
namespace Go.Proofs.YtmacepicoandkaaGreatDoor
namespace Px
open Tx
theorem thenE_le {r r':Option Res} {f f':Fo→Nat→Option Res} (hr:∀ x,r=some x→r'=some x) (hf:∀ a i x,f a i=some x→f' a i=some x):∀ x,thenE r f=some x→thenE r' f'=some x:=by
 intro x h
 rcases thenE_some h with ⟨e,h1,rfl⟩ | ⟨a,i,h1,h2⟩
 ·rw[hr _ h1];rfl
 ·rw[hr _ h1];exact hf _ _ _ h2
theorem needT_le {L:List Tok} {s:ByteArray} {i:Nat} {f f':Nat→Option Res} (hf:∀ i x,f i=some x→f' i=some x):∀ x,needT L s i f=some x→needT L s i f'=some x:=by
 intro x h
 unfold needT at h ⊢
 split at h
 ·rename_i h1;rw[if_pos h1];exact hf _ _ h
 ·rename_i h1;rw[if_neg h1];exact h
theorem callS_le {s:ByteArray} {r r':Option Res} (hr:∀ x,r=some x→r'=some x):∀ x,callS s r=some x→callS s r'=some x:=by
 intro x h
 cases hq:r with
 | none=>rw[hq] at h;cases h
 | some y=>rw[hr y hq];rw[hq] at h;exact h
theorem sign_le {L:List Tok} {p q:Orc} (h:Le p q) (s:ByteArray) (I o:Nat):∀ x,signS p L s I o=some x→signS q L s I o=some x:=by
 intro x hx
 unfold signS at hx ⊢
 split at hx
 ·rename_i op hop
  split at hx
  ·rename_i h25
   rw[if_pos h25]
   split at hx
   ·rename_i u hu
    split at hx
    ·rename_i h3;rw[if_pos h3];exact thenE_le (h _ _ _) (fun _ _ _ h=>h) _ hx
    ·rename_i h3;rw[if_neg h3];exact hx
   ·exact hx
  ·rename_i h25
   rw[if_neg h25];exact thenE_le (h _ _ _) (fun _ _ _ h=>h) _ hx
 ·split at hx
  ·rename_i h1;rw[if_pos h1];exact hx
  rename_i h1;rw[if_neg h1]
  split at hx
  ·rename_i h1;rw[if_pos h1];exact hx
  rename_i h1;rw[if_neg h1]
  split at hx
  ·rename_i h1;rw[if_pos h1];exact thenE_le (h _ _ _) (fun _ _ _ h=>h) _ hx
  rename_i h1;rw[if_neg h1]
  split at hx
  ·rename_i h1;rw[if_pos h1]
   exact thenE_le (h _ _ _) (fun a i x=>needT_le (fun i x=>thenE_le (h _ _ _) (fun b i x=>needT_le (fun i x=>thenE_le (h _ _ _) (fun _ _ _ h=>h) x) x) x) x) _ hx
  ·rename_i h1;rw[if_neg h1];exact hx
theorem step_le {L:List Tok} {p q:Orc} (h:Le p q):Le (stepP L p) (stepP L q):=by
 intro g I o x hx
 cases g with
 | bin n =>
  simp only[stepP] at hx ⊢
  split at hx
  ·rename_i h1;rw[if_pos h1];exact thenE_le (h _ _ _) (fun a i x=>h _ _ _ x) _ hx
  ·rename_i h1;rw[if_neg h1]
   unfold operandS at hx ⊢
   split at hx
   ·rename_i h2;rw[if_pos h2];exact hx
   rename_i h2;rw[if_neg h2]
   split at hx
   ·exact hx
   split at hx
   ·rename_i h3;rw[if_pos h3];exact hx
   rename_i h3;rw[if_neg h3]
   split at hx
   ·rename_i h4;rw[if_pos h4]
    split at hx
    ·rename_i h5;rw[if_pos h5]
     split at hx
     ·rename_i h6;rw[if_pos h6];exact hx
     ·rename_i h6;rw[if_neg h6];exact callS_le (h _ _ _) _ hx
    ·rename_i h5;rw[if_neg h5];exact hx
   rename_i h4;rw[if_neg h4]
   split at hx
   ·rename_i h5;rw[if_pos h5];exact sign_le h _ _ _ _ hx
   ·rename_i h5;rw[if_neg h5];exact hx
 | loop n a =>
  simp only[stepP] at hx ⊢
  split at hx
  ·exact hx
  ·refine thenE_le (h _ _ _) (fun b i x hx=>?_) _ hx
   split at hx
   ·rename_i h1;rw[if_pos h1];exact hx
   ·rename_i h1;rw[if_neg h1];exact h _ _ _ _ hx
 | args l =>
  simp only[stepP] at hx ⊢
  refine thenE_le (h _ _ _) (fun b i x hx=>?_) _ hx
  split at hx
  ·rename_i h1;rw[if_pos h1];exact hx
  rename_i h1;rw[if_neg h1]
  split at hx
  ·rename_i h2;rw[if_pos h2];exact h _ _ _ _ hx
  ·rename_i h2;rw[if_neg h2];exact hx
theorem P_succ (L:List Tok):∀ f,Le (P L f) (P L (f+1))
 | 0=>fun _ _ _ _ h=>by cases h
 | f+1=>step_le (P_succ L f)
theorem P_more (L : List Tok) {f g : Nat} (h : f ≤ g) : Le (P L f) (P L g) := by
  induction g with
  | zero => obtain rfl : f = 0 := by omega
            exact fun _ _ _ _ h => h
  | succ g ih =>
    by_cases e : f = g + 1
    · subst e; exact fun _ _ _ _ h => h
    · exact fun t I o r hr => P_succ L g t I o r (ih (by omega) t I o r hr)
theorem P_one (L:List Tok):∀ (f:Nat) (g:Tag) (I o:Nat) (l:List Fo) (i:Nat),(∀ l',g≠.args l')→P L f g I o=some (.ok (l,i))→∃ a,l=[a]:=by
 intro f
 induction f with
 | zero=>intro g I o l i _ h;cases h
 | succ f ihf =>
  intro g I o l i hga h
  cases g with
  | args l'=>exact absurd rfl (hga l')
  | loop n a =>
   simp only[P,stepP] at h
   split at h
   ·cases h;exact⟨_,rfl⟩
   ·rcases thenE_some h with ⟨e,_,h1⟩ | ⟨a,i,h1,h2⟩
    ·cases h1
    ·split at h2
     ·cases h2;exact⟨_,rfl⟩
     ·exact ihf _ _ _ _ _ (fun l'=>by simp) h2
  | bin n =>
   simp only[P,stepP] at h
   split at h
   ·rcases thenE_some h with ⟨e,_,h1⟩ | ⟨a,i,h1,h2⟩
    ·cases h1
    ·exact ihf _ _ _ _ _ (fun l'=>by simp) h2
   ·unfold operandS at h
    split at h
    ·cases h
    split at h
    ·cases h
    split at h
    ·cases h;exact⟨_,rfl⟩
    split at h
    ·split at h
     ·split at h
      ·cases h;exact⟨_,rfl⟩
      ·unfold callS at h
       split at h
       ·cases h
       ·cases h
       ·cases h;exact⟨_,rfl⟩
     ·cases h;exact⟨_,rfl⟩
    split at h
    ·unfold signS at h
     split at h
     ·split at h
      ·split at h
       ·split at h
        ·rcases thenE_some h with ⟨e,_,h1⟩ | ⟨a,i,h1,h2⟩
         ·cases h1
         ·cases h2;exact⟨_,rfl⟩
        ·cases h
       ·cases h
      ·rcases thenE_some h with ⟨e,_,h1⟩ | ⟨a,i,h1,h2⟩
       ·cases h1
       ·cases h2;exact⟨_,rfl⟩
     ·split at h
      ·cases h;exact⟨_,rfl⟩
      split at h
      ·cases h;exact⟨_,rfl⟩
      split at h
      ·rcases thenE_some h with ⟨e,_,h1⟩ | ⟨a,i,h1,h2⟩
       ·cases h1
       ·rcases needT_some h2 with h3 | ⟨_,h3⟩
        ·cases h3
        ·cases h3;exact⟨_,rfl⟩
      split at h
      ·rcases thenE_some h with ⟨e,_,h1⟩ | ⟨a,i,h1,h2⟩
       ·cases h1
       rcases needT_some h2 with h3 | ⟨_,h3⟩
       ·cases h3
       rcases thenE_some h3 with ⟨e,_,h1⟩ | ⟨a,i,h1,h2⟩
       ·cases h1
       rcases needT_some h2 with h3 | ⟨_,h3⟩
       ·cases h3
       rcases thenE_some h3 with ⟨e,_,h1⟩ | ⟨a,i,h1,h2⟩
       ·cases h1
       cases h2;exact⟨_,rfl⟩
      ·cases h
    ·cases h
def Ans (L:List Tok) (g:Tag) (I o:Nat):Prop:=∃ f r,P L f g I o=some r
def rank:Tag→Nat
 | .bin n=>10 - n
 | .loop _ _=>15
 | .args _=>16
theorem good_size {F:Fo} (h:Good F):1≤F.size:=one_size h.one
theorem ans_all {L : List Tok} (hL : ∀ t ∈ L, TokOk t) : ∀ (m : Nat) (g : Tag) (I o : Nat), 20 * (L.length - I) + rank g ≤ m → I ≤ L.length → (∀ n, g = .bin n → n ≤ 8) → (∀ F ∈ g.have_, Good F) → Ans L g I o := by
  intro m
  induction m with
  | zero =>
    intro g I o hm hI hg _
    cases g with
    | bin n => have := hg n rfl; simp [rank] at hm; omega
    | loop n a => simp [rank] at hm
    | args l => simp [rank] at hm
  | succ m ih =>
    intro g I o hm hI hg hG
    -- an expression's answer, and what follows
    have sub : ∀ (n I' o' : Nat), 20 * (L.length - I') + (10 - n) ≤ m → I' ≤ L.length → n ≤ 8 → ∃ f r, P L f (.bin n) I' o' = some r ∧ ∀ l i, r = .ok (l, i) → ∃ a, l = [a] ∧ Good a ∧ I' < i ∧ i ≤ L.length := by
      intro n I' o' h1 h2 h3
      obtain ⟨f, r, hr⟩ := ih (.bin n) I' o' h1 h2 (fun k hk => by cases hk; exact h3) (fun F hF => by simp [Tag.have_] at hF)
      refine ⟨f, r, hr, fun l i he => ?_⟩
      subst he
      have h5 := P_ok hL f (.bin n) I' o' _ h2 (fun F hF => by simp [Tag.have_] at hF) hr
      obtain ⟨k1, k2, k3, k4⟩ := h5
      have hl : ∃ a, l = [a] := P_one L f _ _ _ _ _ (fun l' => by simp) hr
      obtain ⟨a, rfl⟩ := hl
      have ha := k1 a (by simp)
      have hs := good_size ha
      simp only [Tag.have_, cat, Fo.app_no, List.length_singleton, List.length_nil, Fo.size] at k4
      exact ⟨a, rfl, ha, by omega, k3⟩
    have then_ : ∀ (n I' o' : Nat) (k : Orc → Fo → Nat → Option Res), (∀ p q, Le p q → ∀ a i x, k p a i = some x → k q a i = some x) → 20 * (L.length - I') + (10 - n) ≤ m → I' ≤ L.length → n ≤ 8 →
        (∀ a i, Good a → I' < i → i ≤ L.length → ∃ f x, k (P L f) a i = some x) → ∃ f x, thenE (P L f (.bin n) I' o') (k (P L f)) = some x := by
      intro n I' o' k hk h1 h2 h3 hc
      obtain ⟨f, r, hr, hl⟩ := sub n I' o' h1 h2 h3
      cases r with
      | error e => exact ⟨f, .error e, by rw [hr]; rfl⟩
      | ok y =>
        obtain ⟨l, i⟩ := y
        obtain ⟨a, rfl, ha, hi1, hi2⟩ := hl l i rfl
        obtain ⟨f2, x, hx⟩ := hc a i ha hi1 hi2
        refine ⟨max f f2, x, ?_⟩
        rw [P_more L (Nat.le_max_left f f2) _ _ _ _ hr]
        exact hk _ _ (P_more L (Nat.le_max_right f f2)) _ _ _ hx
    have kc : ∀ (k : Fo → Nat → Option Res), ∀ p q : Orc, Le p q → ∀ a i x, (fun (_ : Orc) => k) p a i = some x → (fun (_ : Orc) => k) q a i = some x := fun k p q _ a i x h => h
    suffices h : ∃ f r, stepP L (P L f) g I o = some r by
      obtain ⟨f, r, hr⟩ := h
      exact ⟨f + 1, r, hr⟩
    cases g with
    | bin n =>
      have hn := hg n rfl
      simp only [rank] at hm
      simp only [stepP]
      by_cases hn8 : n < 8
      · simp only [if_pos hn8]
        refine then_ (n + 1) I o (fun p a i => p (.loop n a) i o) (fun p q h a i x hx => h _ _ _ _ hx) (by omega) hI (by omega) (fun a i ha h1 h2 => ?_)
        exact ih (.loop n a) i o (by simp [rank]; omega) h2 (fun k hk => by cases hk) (fun F hF => by simp [Tag.have_] at hF; rw [hF]; exact ha)
      · simp only [if_neg hn8]
        unfold operandS
        split
        · exact ⟨0, _, rfl⟩
        split
        · exact ⟨0, _, rfl⟩
        rename_i t ht
        have hlt := (List.getElem?_eq_some_iff.1 ht).1
        split
        · exact ⟨0, _, rfl⟩
        split
        · split
          · rename_i h1
            have h1 := isT_lt h1
            split
            · exact ⟨0, _, rfl⟩
            · obtain ⟨f, r, hr⟩ := ih (.args []) (I + 2) (o + 1) (by simp [rank]; omega) (by omega) (fun k hk => by cases hk) (fun F hF => by simp [Tag.have_] at hF)
              refine ⟨f, ?_⟩
              rw [hr]
              cases r with
              | error e => exact ⟨_, rfl⟩
              | ok y => exact ⟨_, rfl⟩
          · exact ⟨0, _, rfl⟩
        split
        · unfold signS
          split
          · split
            · split
              · rename_i u hu
                have hlt2 := (List.getElem?_eq_some_iff.1 hu).1
                split
                · exact then_ 8 (I + 2) (o + 1) (fun _ a i => one (node 25 (Lx.val u.t.data.toList) noS a) i) (kc _) (by omega) (by omega) (by omega) (fun a i _ _ _ => ⟨0, _, rfl⟩)
                · exact ⟨0, _, rfl⟩
              · exact ⟨0, _, rfl⟩
            · rename_i op _ _
              exact then_ 8 (I + 1) (o + 1) (fun _ a i => one (node op 0 noS a) i) (kc _) (by omega) (by omega) (by omega) (fun a i _ _ _ => ⟨0, _, rfl⟩)
          · split
            · exact ⟨0, _, rfl⟩
            split
            · exact ⟨0, _, rfl⟩
            split
            · refine then_ 0 (I + 1) (o + 1) (fun _ a i => needT L tRpar i fun i => one a i) (kc _) (by omega) (by omega) (by omega) (fun a i _ _ _ => ⟨0, ?_⟩)
              unfold needT; split
              · exact ⟨_, rfl⟩
              · exact ⟨_, rfl⟩
            split
            · refine then_ 0 (I + 1) (o + 1) (fun p a i => needT L tThen i fun i => thenE (p (.bin 0) i (o + 1)) fun b i => needT L tElse i fun i => thenE (p (.bin 0) i (o + 1)) fun c i => one (node 26 0 noS (a.app (b.app c))) i)
                (fun p q h a i x => needT_le (fun i x => thenE_le (h _ _ _) (fun b i x => needT_le (fun i x => thenE_le (h _ _ _) (fun _ _ _ h => h) x) x) x) x) (by omega) (by omega) (by omega) (fun a i ha h1 h2 => ?_)
              unfold needT
              split
              · rename_i h3
                have h3 := isT_lt h3
                refine then_ 0 (i + 1) (o + 1) (fun p b i => if isT L i tElse = true then thenE (p (.bin 0) (i + 1) (o + 1)) (fun c i => one (node 26 0 noS (a.app (b.app c))) i) else errAt L 5 i)
                  (fun p q h b i x hx => ?_) (by omega) (by omega) (by omega) (fun b j hb h4 h5 => ?_)
                · revert hx; intro hx
                  split at hx
                  · rename_i h6; rw [if_pos h6]; exact thenE_le (h _ _ _) (fun _ _ _ h => h) _ hx
                  · rename_i h6; rw [if_neg h6]; exact hx
                · split
                  · rename_i h6
                    have h6 := isT_lt h6
                    exact then_ 0 (j + 1) (o + 1) (fun _ c i => one (node 26 0 noS (a.app (b.app c))) i) (kc _) (by omega) (by omega) (by omega) (fun c i _ _ _ => ⟨0, _, rfl⟩)
                  · exact ⟨0, _, rfl⟩
              · exact ⟨0, _, rfl⟩
            · exact ⟨0, _, rfl⟩
        · exact ⟨0, _, rfl⟩
    | loop n a =>
      simp only [rank] at hm
      have ha := hG a (by simp [Tag.have_])
      simp only [stepP]
      split
      · exact ⟨0, _, rfl⟩
      · rename_i op sw hop
        obtain ⟨s, hs, hop⟩ := Option.bind_eq_some_iff.1 hop
        have hlt := hereT_lt hs
        have ho := opAt_is hop
        have hn : n < 8 := by
          unfold opAt at hop
          split at hop <;> first | omega | cases hop
        refine then_ (if n ≤ 1 then n else n + 1) (I + 1) o (fun p b i => if n ≤ 1 ∨ n = 5 then one (node op 0 noS (if sw then b.app a else a.app b)) i else p (.loop n (node op 0 noS (if sw then b.app a else a.app b))) i o)
          (fun p q h b i x hx => ?_) (by split <;> omega) (by omega) (by split <;> omega) (fun b i hb h1 h2 => ?_)
        · revert hx; intro hx
          split at hx
          · rename_i h1; rw [if_pos h1]; exact hx
          · rename_i h1; rw [if_neg h1]; exact h _ _ _ _ hx
        · split
          · exact ⟨0, _, rfl⟩
          · refine ih _ i o (by simp [rank]; omega) h2 (fun k hk => by cases hk) (fun F hF => ?_)
            simp only [Tag.have_, List.mem_singleton] at hF
            rw [hF]
            cases sw
            · exact good_two ho ha hb
            · exact good_two ho hb ha
    | args l =>
      simp only [rank] at hm
      simp only [Tag.have_] at hG
      simp only [stepP]
      refine then_ 0 I o (fun p a i => if isT L i tRpar then some (.ok (l ++ [a], i + 1)) else if isT L i tComma then p (.args (l ++ [a])) (i + 1) o else errAt L 5 i)
        (fun p q h b i x hx => ?_) (by omega) hI (by omega) (fun a i ha h1 h2 => ?_)
      · revert hx; intro hx
        split at hx
        · rename_i h1; rw [if_pos h1]; exact hx
        rename_i h1; rw [if_neg h1]
        split at hx
        · rename_i h2; rw [if_pos h2]; exact h _ _ _ _ hx
        · rename_i h2; rw [if_neg h2]; exact hx
      · split
        · exact ⟨0, _, rfl⟩
        split
        · rename_i h3
          have h3 := isT_lt h3
          refine ih _ (i + 1) o (by simp [rank]; omega) (by omega) (fun k hk => by cases hk) (fun F hF => ?_)
          simp only [Tag.have_] at hF
          rcases List.mem_append.1 hF with hF | hF
          · exact hG F hF
          · rw [List.mem_singleton.1 hF]; exact ha
        · exact ⟨0, _, rfl⟩
end Px
end Go.Proofs.YtmacepicoandkaaGreatDoor
namespace Go.Proofs.YtmacepicoandkaaGreatDoor
namespace Px
open Tx
theorem ok_lt {L:List Tok} (hL:∀ t∈L,TokOk t) {f n I o i:Nat} {a:Fo} (hI:I≤L.length) (h:P L f (.bin n) I o=some (.ok ([a],i))):I<i∧i≤L.length∧Good a:=by
 obtain⟨g1,g2,g3,g4⟩:=(P_ok hL f).bin hI h
 have:=good_size g1
 exact⟨by omega,g3,g1⟩
structure Emb (L L':List Tok) (d:Nat):Prop where
 same:∀ i t,L[i]?=some t→∃ t',L'[d+i]?=some t'∧t'.k=t.k∧t'.t=t.t
 stop:∀ n,(hereT L' (d+L.length)).bind (opAt n)=none
 par:hereT L' (d+L.length)≠some tLpar
theorem Emb.here {L L':List Tok} {d:Nat} (h:Emb L L' d) {i:Nat} (hi:i<L.length):hereT L' (d+i)=hereT L i:=by
 obtain⟨t',h1,h2,h3⟩:=h.same i _ (List.getElem?_eq_getElem hi)
 unfold hereT
 rw[h1,List.getElem?_eq_getElem hi]
 simp only[h2,h3]
theorem Emb.isT {L L':List Tok} {d:Nat} (h:Emb L L' d) {i:Nat} (hi:i<L.length) (s:ByteArray):isT L' (d+i) s=isT L i s:=by
 unfold Px.isT;rw[h.here hi]
def EmbR (k d:Nat) (l:List Fo) (i:Nat) (r:Option Res):Prop:=r=some (.ok (l,d+i))∨(0<k∧∃ a,r=some (.error (6,a)))
theorem EmbR.then_ {k d i j:Nat} {a:Fo} {l:List Fo} {r:Option Res} {f:Fo→Nat→Option Res} (h:EmbR k d [a] i r) (hf:EmbR k d l j (f a (d+i))):EmbR k d l j (thenE r f):=by
 rcases h with rfl | ⟨hk,e,rfl⟩
 ·exact hf
 ·exact Or.inr ⟨hk,e,rfl⟩
theorem EmbR.one_ {k d i:Nat} (a:Fo):EmbR k d [a] i (one a (d+i)):=Or.inl rfl
theorem Emb.need {L L':List Tok} {d k:Nat} (h:Emb L L' d) {s:ByteArray} {i j:Nat} {l:List Fo} {f:Nat→Option Res} (hi:Px.isT L i s=true) (hf:EmbR k d l j (f (d+(i+1)))):EmbR k d l j (needT L' s (d+i) f):=by
 unfold needT
 rw[h.isT (isT_lt hi),hi,if_pos rfl];exact hf
structure Pre (L L':List Tok) (N:Nat):Prop where
 len:L'.length=N
 same:∀ i,i<N→L'[i]?=L[i]?
theorem Pre.here {L L':List Tok} {N:Nat} (h:Pre L L' N) {i:Nat} (hi:i<N):hereT L' i=hereT L i:=by unfold hereT;rw[h.same i hi]
theorem Pre.isT {L L':List Tok} {N:Nat} (h:Pre L L' N) {i:Nat} (hi:i<N) (s:ByteArray):Px.isT L' i s=Px.isT L i s:=by unfold Px.isT;rw[h.here hi]
theorem Pre.not {L L':List Tok} {N:Nat} (h:Pre L L' N) {i:Nat} (hi:N≤i) (s:ByteArray):Px.isT L' i s=false:=by
 unfold Px.isT hereT;rw[List.getElem?_eq_none (by rw[h.len];exact hi)];simp
end Px
end Go.Proofs.YtmacepicoandkaaGreatDoor
namespace Go.Proofs.YtmacepicoandkaaGreatDoor
namespace Px
open Tx
def tokR (N:Nat) (x:Lx.R):Tok:=⟨x.k,⟨x.t.toArray⟩,N - x.m⟩
theorem mem_while {p:UInt8→Bool} {c:UInt8} : ∀ {l:Lx.Bs},c∈l.takeWhile p→p c=true
 | [],h=>by simp at h
 | x :: l,h=>by
  rw[List.takeWhile_cons] at h
  split at h
  ·rename_i hx
   rcases List.mem_cons.1 h with rfl | h
   ·exact hx
   ·exact mem_while h
  ·simp at h
theorem tok_ok {x:Lx.R} (h:Lx.Is x.k x.t) (N:Nat):TokOk (tokR N x):=by
 refine⟨fun hk=>?_,fun hk=>?_⟩
 ·have hk:x.k=2:=hk
  have h1:=h.self
  have e:(tokR N x).t.data.toList=x.t:=by simp[tokR]
  have e2:(tokR N x).t.size=x.t.length:=by simp[tokR,ByteArray.size]
  rw[e,e2]
  rw[hk] at h1
  unfold Lx.first at h1
  simp only at h1
  split at h1
  ·split at h1
   ·cases h1
   ·split at h1
    ·cases h1
    ·split at h1
     ·split at h1
      ·cases h1
      ·cases h1
     ·cases h1
  ·rename_i hne
   split at h1
   ·cases h1
   ·rename_i hbig
    injection h1 with _ h2
    have hall:x.t.all Lx.isDig=true:=by
     rw[← h2,List.all_eq_true]
     exact fun c hc=>mem_while hc
    rw[h2] at hbig hne
    unfold Lx.tooBig at hbig
    simp only[Bool.or_eq_true,decide_eq_true_eq,not_or,Nat.not_lt] at hbig
    exact⟨hall,hbig.1.2,hbig.1.1,by simpa using hne⟩
 ·have e:x.t≠[]:=h.ne
  intro h2
  have:=congrArg (fun b:ByteArray=>b.data.toList) h2
  simp[tokR] at this
  exact e this
theorem toks_ok (s:Lx.Bs) (N:Nat):∀ t∈(Lx.lexS s).1.map (tokR N),TokOk t:=by
 intro t ht
 obtain⟨x,hx,rfl⟩:=List.mem_map.1 ht
 exact tok_ok (Lx.lexS_is s x hx) N
def ErrIn (L:List Tok) (r:Option Res):Prop:=∀ c p,r=some (.error (c,p))→(c=5∨c=6)∧∃ i,p=atP L i
theorem ErrIn.at_ {L:List Tok} {c:Int} {i:Nat} (h:c=5∨c=6):ErrIn L (errAt L c i):=by
 intro c' p e
 unfold errAt at e
 cases e;exact⟨h,i,rfl⟩
theorem ErrIn.one_ {L:List Tok} {F:Fo} {i:Nat} : ErrIn L (one F i):=by
 intro c p e;unfold one at e;cases e
theorem ErrIn.then_ {L:List Tok} {r:Option Res} {f:Fo→Nat→Option Res} (h:ErrIn L r) (hf:∀ a i,ErrIn L (f a i)):ErrIn L (thenE r f):=by
 intro c p e
 rcases thenE_some e with ⟨e',h1,h2⟩ | ⟨a,i,_,h2⟩
 ·cases h2;exact h c p h1
 ·exact hf a i c p h2
theorem ErrIn.need {L:List Tok} {s:ByteArray} {i:Nat} {f:Nat→Option Res} (hf:∀ i,ErrIn L (f i)):ErrIn L (needT L s i f):=by
 unfold needT
 split
 ·exact hf _
 ·exact ErrIn.at_ (Or.inl rfl)
theorem sign_err {L:List Tok} {p:Orc} (h:∀ g I o,ErrIn L (p g I o)) (s:ByteArray) (I o:Nat):ErrIn L (signS p L s I o):=by
 unfold signS
 split
 ·split
  ·split
   ·split
    ·exact (h _ _ _).then_ fun _ _=>ErrIn.one_
    ·exact ErrIn.at_ (Or.inl rfl)
   ·exact ErrIn.at_ (Or.inl rfl)
  ·exact (h _ _ _).then_ fun _ _=>ErrIn.one_
 ·split
  ·exact ErrIn.one_
  split
  ·exact ErrIn.one_
  split
  ·exact (h _ _ _).then_ fun _ _=>ErrIn.need fun _=>ErrIn.one_
  split
  ·exact (h _ _ _).then_ fun _ _=>ErrIn.need fun _=>(h _ _ _).then_ fun _ _=>ErrIn.need fun _=>(h _ _ _).then_ fun _ _=>ErrIn.one_
  ·exact ErrIn.at_ (Or.inl rfl)
theorem call_err {L:List Tok} {s:ByteArray} {r:Option Res} (h:ErrIn L r):ErrIn L (callS s r):=by
 intro c p e
 unfold callS at e
 split at e
 ·cases e
 ·cases e;exact h c p rfl
 ·unfold one at e;cases e
theorem operand_err {L:List Tok} {p:Orc} (h:∀ g I o,ErrIn L (p g I o)) (I o:Nat):ErrIn L (operandS p L I o):=by
 unfold operandS
 split
 ·exact ErrIn.at_ (Or.inr rfl)
 split
 ·exact ErrIn.at_ (Or.inl rfl)
 split
 ·exact ErrIn.one_
 split
 ·split
  ·split
   ·exact ErrIn.one_
   ·exact call_err (h _ _ _)
  ·exact ErrIn.one_
 split
 ·exact sign_err h _ _ _
 ·exact ErrIn.at_ (Or.inl rfl)
theorem P_err (L:List Tok):∀ f g I o,ErrIn L (P L f g I o)
 | 0=>fun g I o c p h=>by cases h
 | f+1=>fun g I o=>by
  have h:=P_err L f
  show ErrIn L (stepP L (P L f) g I o)
  unfold stepP
  split
  ·split
   ·exact (h _ _ _).then_ fun _ _=>h _ _ _
   ·exact operand_err h _ _
  ·split
   ·exact ErrIn.one_
   ·refine (h _ _ _).then_ fun _ _=>?_
    split
    ·exact ErrIn.one_
    ·exact h _ _ _
  ·refine (h _ _ _).then_ fun _ _=>?_
   split
   ·intro c p e;cases e
   split
   ·exact h _ _ _
   ·exact ErrIn.at_ (Or.inl rfl)
def ParR (L:List Tok) (from_:Nat) (r:Except (Int×Int) (Fo×Nat)):Prop:=∃ f,parse L f from_=some r
theorem parse_more {L:List Tok} {f g i:Nat} (h:f≤g) {r:Except (Int×Int) (Fo×Nat)} (hr:parse L f i=some r):parse L g i=some r:=by
 unfold parse at hr ⊢
 cases hq:P L f (.bin 0) i 0 with
 | none=>rw[hq] at hr;cases hr
 | some x=>rw[P_more L h _ _ _ _ hq];rw[hq] at hr;exact hr
theorem ParR.one {L:List Tok} {i:Nat} {r r':Except (Int×Int) (Fo×Nat)} (h:ParR L i r) (h':ParR L i r'):r=r':=by
 obtain⟨f,hf⟩:=h
 obtain⟨g,hg⟩:=h'
 have h1:=parse_more (Nat.le_max_left f g) hf
 have h2:=parse_more (Nat.le_max_right f g) hg
 rw[h1] at h2;exact Option.some.inj h2
theorem ParR.all {L : List Tok} (hL : ∀ t ∈ L, TokOk t) {i : Nat} (hi : i ≤ L.length) : ∃ r, ParR L i r := by
  obtain ⟨f, r, hr⟩ := ans_all hL _ (.bin 0) i 0 (Nat.le_refl _) hi (fun n hn => by cases hn; omega) (fun F hF => by simp [Tag.have_] at hF)
  have hok := P_ok hL f (.bin 0) i 0 r hi (fun F hF => by simp [Tag.have_] at hF) hr
  cases r with
  | error e => exact ⟨.error e, f, by unfold parse; rw [hr]⟩
  | ok x =>
    obtain ⟨l, j⟩ := x
    -- one expression
    have : ∃ F, l = [F] := P_one L f _ _ _ _ _ (fun l' => by simp) hr
    obtain ⟨F, rfl⟩ := this
    exact ⟨_, f, by unfold parse; rw [hr]⟩
def RdR (L:List Tok) (r:Except (Int×Int) Fo):Prop:=∃ x,ParR L 0 x∧r=match x with
 | .error e=>.error e
 | .ok (F,i)=>if i<L.length then .error (5,atP L i) else .ok F
theorem RdR.one {L:List Tok} {r r':Except (Int×Int) Fo} (h:RdR L r) (h':RdR L r'):r=r':=by
 obtain⟨x,h1,rfl⟩:=h
 obtain⟨y,h2,rfl⟩:=h'
 rw[h1.one h2]
theorem RdR.all {L:List Tok} (hL:∀ t∈L,TokOk t):∃ r,RdR L r:=by
 obtain⟨x,hx⟩:=ParR.all hL (Nat.zero_le _)
 exact⟨_,x,hx,rfl⟩
theorem parse_ok {L:List Tok} {f i j:Nat} {F:Fo} (h:parse L f i=some (.ok (F,j))):P L f (.bin 0) i 0=some (.ok ([F],j))∧F.size≤5000∧F.depth≤40:=by
 unfold parse at h
 split at h
 ·cases h
 ·rename_i G k hG
  split at h
  ·cases h
  split at h
  ·cases h
  ·rename_i h1 h2
   cases h;exact⟨hG,by omega,by omega⟩
 ·cases h
theorem RdR.ok {L:List Tok} (hL:∀ t∈L,TokOk t) {F:Fo} (h:RdR L (.ok F)):∃ f,P L f (.bin 0) 0 0=some (.ok ([F],L.length))∧F.size≤5000∧F.depth≤40∧Good F:=by
 obtain⟨x,⟨f,hf⟩,h2⟩:=h
 match x,h2 with
 | .error e,h2=>simp at h2
 | .ok (G,i),h2 =>
  simp only at h2
  split at h2
  ·cases h2
  ·rename_i hi
   cases h2
   obtain⟨h3,h4,h5⟩:=parse_ok hf
   obtain⟨h6,h7,h8⟩:=ok_lt hL (Nat.zero_le _) h3
   have:i=L.length:=by omega
   subst this
   exact⟨f,h3,h4,h5,h8⟩
theorem fault_par {L:List Tok} {c p:Int} (h:RdR L (.error (c,p))):c≠0∧(p = -1∨∃ t∈L,p=t.p):=by
 have hat:∀ i,atP L i = -1∨∃ t∈L,atP L i=t.p:=fun i=>by
  unfold atP
  split
  ·rename_i t ht;exact Or.inr ⟨t,List.mem_of_getElem? ht,rfl⟩
  ·exact Or.inl rfl
 obtain⟨x,⟨f,hf⟩,h2⟩:=h
 match x,h2 with
 | .error e,h2 =>
  simp only at h2
  cases h2
  unfold parse at hf
  split at hf
  ·rename_i e he
   cases hf
   obtain⟨h3,i,h4⟩:=P_err L f _ _ _ c p he
   exact⟨by omega,by rw[h4];exact hat i⟩
  ·simp only[Option.some.injEq] at hf
   split at hf
   ·cases hf;exact⟨by omega,hat _⟩
   split at hf
   ·cases hf;exact⟨by omega,hat _⟩
   ·cases hf
  ·cases hf
 | .ok (G,i),h2 =>
  simp only at h2
  split at h2
  ·cases h2;exact⟨by omega,hat i⟩
  ·cases h2
end Px
end Go.Proofs.YtmacepicoandkaaGreatDoor
