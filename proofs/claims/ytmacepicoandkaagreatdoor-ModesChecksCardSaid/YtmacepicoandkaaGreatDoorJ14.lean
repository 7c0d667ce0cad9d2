/- Plain mathematics of ordered decision diagrams: what a list of nodes means; two nodes that mean the same are one; counting; the first row. Plain mathematics of diagrams, more: rows of values by number; how often a function is true; its first row. -/
set_option linter.unusedVariables false
set_option linter.unusedSimpArgs false
namespace Go.Proofs.YtmacepicoandkaaGreatDoor
namespace Dd
abbrev Nd:=Nat×Nat×Nat
def T (ns:List Nd) (f:Nat):Nat:=(ns.getD f (0,0,0)).1
def L (ns:List Nd) (f:Nat):Nat:=(ns.getD f (0,0,0)).2.1
def H (ns:List Nd) (f:Nat):Nat:=(ns.getD f (0,0,0)).2.2
structure WF (vars:Nat) (ns:List Nd):Prop where
 two:2≤ns.length
 n0:ns.getD 0 (0,0,0)=(vars,0,0)
 n1:ns.getD 1 (0,0,0)=(vars,1,1)
 nd:∀ f,2≤f→f<ns.length→L ns f≠H ns f∧L ns f<f∧H ns f<f∧T ns f<vars∧T ns f<T ns (L ns f)∧T ns f<T ns (H ns f)
 inj:∀ f g,2≤f→2≤g→f<ns.length→g<ns.length→ns.getD f (0,0,0)=ns.getD g (0,0,0)→f=g
def ev (ns:List Nd) (env:Nat→Bool):Nat→Nat→Bool
 | 0,f=>f==1
 | k+1,f=>if f≤1 then f==1 else if env (T ns f) then ev ns env k (H ns f) else ev ns env k (L ns f)
def den (ns:List Nd) (env:Nat→Bool) (f:Nat):Bool:=ev ns env f f
theorem ev_low (ns:List Nd) (env:Nat→Bool) (k f:Nat) (h:f≤1):ev ns env k f=(f==1):=by
 cases k <;> simp[ev,h]
theorem ev_fuel {vars:Nat} {ns:List Nd} (W:WF vars ns) (env:Nat→Bool):∀ k f,f<ns.length→f≤k→ev ns env k f=ev ns env f f:=by
 intro k
 induction k using Nat.strongRecOn with
 | _ k ih =>
  intro f hf hk
  by_cases h1:f≤1
  ·rw[ev_low _ _ _ _ h1,ev_low _ _ _ _ h1]
  ·obtain⟨_,hl,hh,_⟩:=W.nd f (by omega) hf
   cases k with
   | zero=>omega
   | succ k =>
    cases f with
    | zero=>omega
    | succ f =>
     simp only[ev,h1,if_false]
     rw[ih k (by omega) _ (by omega) (by omega),ih k (by omega) _ (by omega) (by omega)]
     by_cases hkf:k=f
     ·subst hkf
      rw[← ih k (by omega) (H ns (k+1)) (by omega) (by omega),← ih k (by omega) (L ns (k+1)) (by omega) (by omega)]
     ·rw[← ih f (by omega) (H ns (f+1)) (by omega) (by omega),← ih f (by omega) (L ns (f+1)) (by omega) (by omega)]
theorem den_zero (ns:List Nd) (env:Nat→Bool):den ns env 0=false:=by simp[den,ev]
theorem den_one (ns:List Nd) (env:Nat→Bool):den ns env 1=true:=by simp[den,ev]
theorem den_step {vars:Nat} {ns:List Nd} (W:WF vars ns) (env:Nat→Bool) {f:Nat} (h2:2≤f) (hf:f<ns.length) :
  den ns env f=if env (T ns f) then den ns env (H ns f) else den ns env (L ns f):=by
 obtain⟨_,hl,hh,_⟩:=W.nd f h2 hf
 unfold den
 cases f with
 | zero=>omega
 | succ f =>
  have h1:¬ (f+1≤1):=by omega
  simp only[ev,h1,if_false]
  rw[ev_fuel W env f (H ns (f+1)) (by omega) (by omega),ev_fuel W env f (L ns (f+1)) (by omega) (by omega)]
def upd (env:Nat→Bool) (v:Nat) (b:Bool):Nat→Bool:=fun i=>if i=v then b else env i
theorem upd_same (env:Nat→Bool) (v:Nat):upd env v (env v)=env:=by
 funext i;unfold upd;split <;> simp_all
theorem T_le {vars:Nat} {ns:List Nd} (W:WF vars ns) {f:Nat} (hf:f<ns.length):T ns f≤vars:=by
 by_cases h:2≤f
 ·have:=W.nd f h hf;omega
 ·have:f=0∨f=1:=by omega
  rcases this with rfl | rfl
  ·simp[T,W.n0,-List.getD_eq_getElem?_getD]
  ·simp[T,W.n1,-List.getD_eq_getElem?_getD]
theorem T_const {vars:Nat} {ns:List Nd} (W:WF vars ns) {f:Nat} (hf:f≤1):T ns f=vars:=by
 have:f=0∨f=1:=by omega
 rcases this with rfl | rfl
 ·simp[T,W.n0,-List.getD_eq_getElem?_getD]
 ·simp[T,W.n1,-List.getD_eq_getElem?_getD]
theorem L_const {vars:Nat} {ns:List Nd} (W:WF vars ns) {f:Nat} (hf:f≤1):L ns f=f∧H ns f=f:=by
 have:f=0∨f=1:=by omega
 rcases this with rfl | rfl
 ·simp[L,H,W.n0,-List.getD_eq_getElem?_getD]
 ·simp[L,H,W.n1,-List.getD_eq_getElem?_getD]
theorem indep {vars:Nat} {ns:List Nd} (W:WF vars ns) (env:Nat→Bool) (v:Nat) (b:Bool):∀ f,f<ns.length→v<T ns f→den ns (upd env v b) f=den ns env f:=by
 intro f
 induction f using Nat.strongRecOn with
 | _ f ih =>
  intro hf hv
  by_cases h2:2≤f
  ·obtain⟨_,hl,hh,_,htl,hth⟩:=W.nd f h2 hf
   rw[den_step W _ h2 hf,den_step W _ h2 hf,ih _ hl (by omega) (by omega),ih _ hh (by omega) (by omega)]
   have:upd env v b (T ns f)=env (T ns f):=by unfold upd;rw[if_neg (by omega)]
   rw[this]
  ·unfold den;rw[ev_low _ _ _ _ (by omega),ev_low _ _ _ _ (by omega)]
theorem den_congr {vars:Nat} {ns:List Nd} (W:WF vars ns) {env env':Nat→Bool} (h:∀ i,i<vars→env i=env' i):∀ f,f<ns.length→den ns env f=den ns env' f:=by
 intro f
 induction f using Nat.strongRecOn with
 | _ f ih =>
  intro hf
  by_cases h2:2≤f
  ·obtain⟨_,hl,hh,ht,_⟩:=W.nd f h2 hf
   rw[den_step W _ h2 hf,den_step W _ h2 hf,ih _ hl (by omega),ih _ hh (by omega),h _ ht]
  ·unfold den;rw[ev_low _ _ _ _ (by omega),ev_low _ _ _ _ (by omega)]
def half (ns:List Nd) (f t:Nat) (b:Bool):Nat:=if T ns f≠t then f else if b then H ns f else L ns f
theorem half_lt {vars:Nat} {ns:List Nd} (W:WF vars ns) {f t:Nat} {b:Bool} (hf:f<ns.length):half ns f t b<ns.length:=by
 unfold half
 split
 ·exact hf
 ·by_cases h2:2≤f
  ·have:=W.nd f h2 hf;split <;> omega
  ·have:=L_const W (show f≤1 by omega);split <;> omega
theorem half_den {vars:Nat} {ns:List Nd} (W:WF vars ns) (env:Nat→Bool) {f t:Nat} {b:Bool} (hf:f<ns.length) (ht:t≤T ns f) (htv:t<vars) :
  den ns env (half ns f t b)=den ns (upd env t b) f:=by
 unfold half
 by_cases e:T ns f=t
 ·have h2:2≤f:=by
   rcases Nat.lt_or_ge f 2 with h | h
   ·have:=T_const W (f:=f) (by omega);omega
   ·exact h
  obtain⟨_,hl,hh,_,htl,hth⟩:=W.nd f h2 hf
  rw[if_neg (by simpa using e),den_step W _ h2 hf]
  have:upd env t b (T ns f)=b:=by simp[upd,e]
  rw[this]
  cases b
  ·simp only[if_false,Bool.false_eq_true];rw[indep W _ _ _ _ (by omega) (by omega)]
  ·simp only[if_true];rw[indep W _ _ _ _ (by omega) (by omega)]
 ·rw[if_pos e,indep W _ _ _ _ hf (by omega)]
theorem half_T {vars:Nat} {ns:List Nd} (W:WF vars ns) {f t:Nat} {b:Bool} (hf:f<ns.length) (ht:t≤T ns f) (htv:t<vars):t<T ns (half ns f t b):=by
 unfold half
 by_cases e:T ns f=t
 ·have h2:2≤f:=by
   rcases Nat.lt_or_ge f 2 with h | h
   ·have:=T_const W (f:=f) (by omega);omega
   ·exact h
  obtain⟨_,hl,hh,_,htl,hth⟩:=W.nd f h2 hf
  rw[if_neg (by simpa using e)];split <;> omega
 ·rw[if_pos e];omega
theorem getD_app {ns xs:List Nd} {f:Nat} (hf:f<ns.length):(ns++xs).getD f (0,0,0)=ns.getD f (0,0,0):=by
 simp[List.getD,List.getElem?_append_left hf]
theorem T_app {ns xs:List Nd} {f:Nat} (hf:f<ns.length):T (ns++xs) f=T ns f:=by unfold T;rw[getD_app hf]
theorem L_app {ns xs:List Nd} {f:Nat} (hf:f<ns.length):L (ns++xs) f=L ns f:=by unfold L;rw[getD_app hf]
theorem H_app {ns xs:List Nd} {f:Nat} (hf:f<ns.length):H (ns++xs) f=H ns f:=by unfold H;rw[getD_app hf]
theorem half_app {ns xs:List Nd} {f t:Nat} {b:Bool} (hf:f<ns.length):half (ns++xs) f t b=half ns f t b:=by
 unfold half;rw[T_app hf,L_app hf,H_app hf]
theorem den_app {vars:Nat} {ns xs:List Nd} (W:WF vars ns) (W':WF vars (ns++xs)) (env:Nat→Bool):∀ f,f<ns.length→den (ns++xs) env f=den ns env f:=by
 intro f
 induction f using Nat.strongRecOn with
 | _ f ih =>
  intro hf
  by_cases h2:2≤f
  ·obtain⟨_,hl,hh,_⟩:=W.nd f h2 hf
   rw[den_step W _ h2 hf,den_step W' _ h2 (by simp;omega),T_app hf,L_app hf,H_app hf,ih _ hl (by omega),ih _ hh (by omega)]
  ·unfold den;rw[ev_low _ _ _ _ (by omega),ev_low _ _ _ _ (by omega)]
theorem WF_new (vars:Nat):WF vars [(vars,0,0),(vars,1,1)]:=by
 refine⟨by simp,by simp,by simp,?_,?_⟩
 ·intro f h2 hf;simp at hf;omega
 ·intro f g h2 _ hf;simp at hf;omega
theorem WF_push {vars:Nat} {ns:List Nd} (W:WF vars ns) {t l h:Nat} (hl:l<ns.length) (hh:h<ns.length) (hne:l≠h) (ht:t<vars) (htl:t<T ns l) (hth:t<T ns h)
  (hno:∀ f,2≤f→f<ns.length→ns.getD f (0,0,0)≠(t,l,h)):WF vars (ns++[(t,l,h)]):=by
 have hlast:(ns++[(t,l,h)]).getD ns.length (0,0,0)=(t,l,h):=by simp[List.getD]
 have two:=W.two
 refine⟨by simp;omega,by rw[getD_app (by omega)];exact W.n0,by rw[getD_app (by omega)];exact W.n1,?_,?_⟩
 ·intro f h2 hf
  simp at hf
  by_cases e:f=ns.length
  ·subst e
   have e1:T (ns++[(t,l,h)]) ns.length=t:=by unfold T;rw[hlast]
   have e2:L (ns++[(t,l,h)]) ns.length=l:=by unfold L;rw[hlast]
   have e3:H (ns++[(t,l,h)]) ns.length=h:=by unfold H;rw[hlast]
   rw[e1,e2,e3,T_app hl,T_app hh]
   exact⟨hne,hl,hh,ht,htl,hth⟩
  ·have hf':f<ns.length:=by omega
   have:=W.nd f h2 hf'
   rw[T_app hf',L_app hf',H_app hf',T_app (by omega),T_app (by omega)]
   exact this
 ·intro f g h2 g2 hf hg e
  simp at hf hg
  by_cases ef:f=ns.length
  ·by_cases eg:g=ns.length
   ·omega
   ·subst ef
    rw[hlast,getD_app (by omega)] at e
    exact absurd e.symm (hno g g2 (by omega))
  ·by_cases eg:g=ns.length
   ·subst eg
    rw[hlast,getD_app (by omega)] at e
    exact absurd e (hno f h2 (by omega))
   ·rw[getD_app (by omega),getD_app (by omega)] at e
    exact W.inj f g h2 g2 (by omega) (by omega) e
end Dd
end Go.Proofs.YtmacepicoandkaaGreatDoor
namespace Go.Proofs.YtmacepicoandkaaGreatDoor
namespace Dd
def rowEnv (vars k:Nat):Nat→Bool:=fun i=>k.testBit (vars - 1 - i)
def rowList (vars k:Nat):List Bool:=(List.range vars).map (rowEnv vars k)
theorem den_from {vars:Nat} {ns:List Nd} (W:WF vars ns) {env env':Nat→Bool} : ∀ f,f<ns.length→(∀ i,T ns f≤i→i<vars→env i=env' i)→den ns env f=den ns env' f:=by
 intro f
 induction f using Nat.strongRecOn with
 | _ f ih =>
  intro hf h
  by_cases h2:2≤f
  ·obtain⟨_,hl,hh,ht,htl,hth⟩:=W.nd f h2 hf
   rw[den_step W _ h2 hf,den_step W _ h2 hf,ih _ hl (by omega) (fun i hi hv=>h i (by omega) hv),ih _ hh (by omega) (fun i hi hv=>h i (by omega) hv),h _ (Nat.le_refl _) ht]
  ·unfold den;rw[ev_low _ _ _ _ (by omega),ev_low _ _ _ _ (by omega)]
def cnt (vars:Nat) (ns:List Nd) (t f:Nat):Nat:=(List.range (2 ^ (vars - t))).countP fun j=>den ns (rowEnv vars j) f
theorem row_low {vars m j:Nat} (hj:j<2 ^ m) {i:Nat} (hi:m≤vars - 1 - i):rowEnv vars j i=false :=
 Nat.testBit_lt_two_pow (Nat.lt_of_lt_of_le hj (Nat.pow_le_pow_right (by omega) hi))
theorem row_add_other {vars m j i:Nat} (hi:vars - 1 - i<m):rowEnv vars (2 ^ m+j) i=rowEnv vars j i:=by
 unfold rowEnv;exact Nat.testBit_two_pow_add_gt hi j
theorem row_add_same {vars m j i:Nat} (hj:j<2 ^ m) (hi:vars - 1 - i=m):rowEnv vars (2 ^ m+j) i=true:=by
 unfold rowEnv;rw[hi,Nat.testBit_two_pow_add_eq,Nat.testBit_lt_two_pow hj];rfl
theorem den_upper {vars:Nat} {ns:List Nd} (W:WF vars ns) {t f j:Nat} (hf:f<ns.length) (ht:t<T ns f) (htv:t<vars):den ns (rowEnv vars (2 ^ (vars - 1 - t)+j)) f=den ns (rowEnv vars j) f :=
 den_from W f hf fun i hi hv=>row_add_other (by omega)
structure Wit (vars:Nat) (ns:List Nd) (f k f':Nat):Prop where
 lt:f'<ns.length
 pos:f'≠0
 div:∃ a,k=2 ^ (vars - T ns f') * a
 small:k<2 ^ vars
 none:∀ j,j<k→den ns (rowEnv vars j) f=false
 rest:∀ j,j<2 ^ (vars - T ns f')→den ns (rowEnv vars (k+j)) f=den ns (rowEnv vars j) f'
theorem Wit.start {vars:Nat} {ns:List Nd} (_W:WF vars ns) {f:Nat} (hf:f<ns.length) (h0:f≠0):Wit vars ns f 0 f :=
 ⟨hf,h0,⟨0,by simp⟩,Nat.pow_pos (by omega),by intro j hj;omega,by intro j _;simp⟩
theorem Wit.fin {vars:Nat} {ns:List Nd} (_W:WF vars ns) {f k:Nat} (h:Wit vars ns f k 1):den ns (rowEnv vars k) f=true:=by
 have:=h.rest 0 (Nat.pow_pos (by omega))
 rw[den_one] at this
 simpa using this
theorem pow_sub {vars a b:Nat} (h:a≤b) (hb:b≤vars):2 ^ (vars - a)=2 ^ (vars - b) * 2 ^ (b - a):=by
 rw[← Nat.pow_add];congr 1;omega
theorem Wit.low {vars:Nat} {ns:List Nd} (W:WF vars ns) {f k f':Nat} (h:Wit vars ns f k f') (h2:2≤f') (hl:L ns f'≠0):Wit vars ns f k (L ns f'):=by
 obtain⟨_,hlt,hht,ht,htl,hth⟩:=W.nd f' h2 h.lt
 have hle:=T_le W (f:=L ns f') (by have:=h.lt;omega)
 have hp:=pow_sub (Nat.le_of_lt htl) hle
 refine⟨by have:=h.lt;omega,hl,?_,h.small,h.none,?_⟩
 ·obtain⟨a,ha⟩:=h.div
  exact⟨2 ^ (T ns (L ns f') - T ns f') * a,by rw[ha,hp,Nat.mul_assoc]⟩
 ·intro j hj
  have hj':j<2 ^ (vars - T ns f'):=Nat.lt_of_lt_of_le hj (Nat.pow_le_pow_right (by omega) (by omega))
  rw[h.rest j hj',den_step W _ h2 h.lt,row_low hj (by omega)];simp
theorem Wit.bit {vars:Nat} {ns:List Nd} (W:WF vars ns) {f k f':Nat} (h:Wit vars ns f k f') (h2:2≤f'):(k+2 ^ (vars - 1 - T ns f')<2 ^ vars)∧∀ i,i<vars→rowEnv vars (k+2 ^ (vars - 1 - T ns f')) i=if i=T ns f' then true else rowEnv vars k i:=by
 obtain⟨_,hlt,hht,ht,htl,hth⟩:=W.nd f' h2 h.lt
 obtain⟨a,ha⟩:=h.div
 have hlt2:2 ^ (vars - 1 - T ns f')<2 ^ (vars - T ns f'):=Nat.pow_lt_pow_right (by omega) (by omega)
 have e:k+2 ^ (vars - 1 - T ns f')=2 ^ (vars - T ns f') * a+2 ^ (vars - 1 - T ns f'):=by rw[ha]
 constructor
 ·have hs:=h.small
  rw[ha] at hs
  have hd:2 ^ vars=2 ^ (vars - T ns f') * 2 ^ (T ns f'):=by rw[← Nat.pow_add];congr 1;omega
  rw[hd] at hs ⊢
  have:a<2 ^ T ns f':=Nat.lt_of_mul_lt_mul_left hs
  rw[ha]
  have h3:2 ^ (vars - T ns f') * (a+1)≤2 ^ (vars - T ns f') * 2 ^ T ns f':=Nat.mul_le_mul_left _ this
  rw[Nat.mul_add,Nat.mul_one] at h3
  omega
 ·intro i hi
  unfold rowEnv
  rw[e,Nat.testBit_two_pow_mul_add _ hlt2,ha]
  by_cases ei:i=T ns f'
  ·subst ei
   rw[if_pos (by omega),if_pos rfl,Nat.testBit_two_pow_self]
  ·rw[if_neg ei]
   by_cases hlt3:vars - 1 - i<vars - T ns f'
   ·rw[if_pos hlt3,Nat.testBit_two_pow_of_ne (by omega)]
    have:=Nat.testBit_two_pow_mul_add a (b:=0) (i:=vars - T ns f') (Nat.pow_pos (by omega)) (vars - 1 - i)
    rw[if_pos hlt3] at this
    simpa using this.symm
   ·rw[if_neg hlt3]
    have:=Nat.testBit_two_pow_mul_add a (b:=0) (i:=vars - T ns f') (Nat.pow_pos (by omega)) (vars - 1 - i)
    rw[if_neg hlt3] at this
    simpa using this.symm
theorem Wit.high {vars:Nat} {ns:List Nd} (W:WF vars ns) {f k f':Nat} (h:Wit vars ns f k f') (h2:2≤f') (hl:L ns f'=0):Wit vars ns f (k+2 ^ (vars - 1 - T ns f')) (H ns f'):=by
 obtain⟨hne,hlt,hht,ht,htl,hth⟩:=W.nd f' h2 h.lt
 have hle:=T_le W (f:=H ns f') (by have:=h.lt;omega)
 have hp:=pow_sub (Nat.le_of_lt hth) hle
 have hp2:=pow_sub (vars:=vars) (a:=T ns f'+1) (b:=T ns (H ns f')) (by omega) hle
 have e1:vars - (T ns f'+1)=vars - 1 - T ns f':=by omega
 rw[e1] at hp2
 refine⟨by have:=h.lt;omega,by omega,?_,(h.bit W h2).1,?_,?_⟩
 ·obtain⟨a,ha⟩:=h.div
  exact⟨2 ^ (T ns (H ns f') - T ns f') * a+2 ^ (T ns (H ns f') - (T ns f'+1)),by rw[ha,Nat.mul_add,← Nat.mul_assoc,← hp,← hp2]⟩
 ·intro j hj
  by_cases hk:j<k
  ·exact h.none j hk
  ·have hj2:j - k<2 ^ (vars - 1 - T ns f'):=by omega
   have hj3:j - k<2 ^ (vars - T ns f'):=Nat.lt_of_lt_of_le hj2 (Nat.pow_le_pow_right (by omega) (by omega))
   have e:j=k+(j - k):=by omega
   rw[e,h.rest _ hj3,den_step W _ h2 h.lt,row_low hj2 (by omega),hl];simp[den_zero]
 ·intro j hj
  have hj2:j<2 ^ (vars - 1 - T ns f'):=Nat.lt_of_lt_of_le hj (Nat.pow_le_pow_right (by omega) (by omega))
  have hj3:2 ^ (vars - 1 - T ns f')+j<2 ^ (vars - T ns f'):=by
   have:2 ^ (vars - T ns f')=2 ^ (vars - 1 - T ns f')+2 ^ (vars - 1 - T ns f'):=by
    have q:vars - T ns f'=(vars - 1 - T ns f')+1:=by omega
    rw[q,Nat.pow_succ];omega
   omega
  rw[Nat.add_assoc,h.rest _ hj3,den_step W _ h2 h.lt,row_add_same hj2 rfl,if_pos rfl,den_upper W (by have:=h.lt;omega) hth ht]
end Dd
end Go.Proofs.YtmacepicoandkaaGreatDoor
