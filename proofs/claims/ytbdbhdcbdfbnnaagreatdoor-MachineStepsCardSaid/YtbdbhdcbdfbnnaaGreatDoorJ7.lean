/- The evaluator: regions that draw their order: each step in the midst. The evaluator: regions that draw their order: single operations. The evaluator: regions that draw their order: one operation more. The evaluator: regions that draw their order: one call or write more. The evaluator: regions that draw their order. -/
import Derived.Orders
import Derived.Test.YtbdbhdcbdfbnnaaGreatDoorJ6
set_option linter.unusedVariables false
set_option linter.unusedSimpArgs false
set_option linter.unusedVariables false
set_option linter.unusedSimpArgs false
namespace Go.Proofs.YtbdbhdcbdfbnnaaGreatDoor.Ev
def below (r:Rho) (m:Nat):Rho:=fun b=>if b<m then r b else none
theorem below_le (r:Rho) (m:Nat):(below r m).le r:=fun b x h=>by
 unfold below at h;split at h
 ·exact h
 ·exact absurd h (by simp)
theorem below_mono {r s:Rho} (h:r.le s) {m k:Nat} (hk:m≤k):(below r m).le (below s k):=fun b x hb=>by
 unfold below at hb ⊢;split at hb
 ·rw[if_pos (by omega)];exact h _ _ hb
 ·exact absurd hb (by simp)
theorem below_fresh (r:Rho) (m:Nat):Fresh m (below r m):=fun b hb=>by unfold below;rw[if_neg (by omega)]
theorem below_some {r:Rho} {m b:Nat} {x:BI} (h:below r m b=some x):b<m∧r b=some x:=by
 unfold below at h;split at h
 ·rename_i hb;exact⟨hb,h⟩
 ·exact absurd h (by simp)
def setL (L:Nat→Bool) (i:Nat):Nat→Bool:=fun j=>if j=i then true else L j
section
variable {P : Program} {ih : K} {ops : Array Oper} {n nx : Nat} {tm : Tr AV} {hp : Hp} {T : Nat → Ds} {L : Nat → Bool} {r : Rho} {w : World} {a : Act}
structure Inv (P:Program) (ops:Array Oper) (n:Nat) (hp:Hp) (T:Nat→Ds) (r:Rho) (w:World) (a:Act) (L:Nat→Bool) (r':Rho) (a':Act) (w':World):Prop where
 size:a'.tmps.size=n
 defs:a'.defers=a.defers
 slot:∀ t,Rel (below r' (T (lw ops L t ops.size)).nx) (slot (T (lw ops L t ops.size)).tm t) (a'.tmps.getD t undef)
 gam:∀ k,lc ops T L ops.size≤k→k≤ops.size→Gam (hd ops hp T L k) (below r' (T k).nx) w'
 real:∀ b x,r' b=some x→x.blk<w'.heap.size
 ext:Ext r r' w
 fr:Fr r w w'
 dom:∀ b,r' b≠none→b<(T (lc ops T L ops.size)).nx∨∃ j,lc ops T L ops.size≤j∧j<ops.size∧isK ops T .make j∧L j=true∧b=(T j).nx
 apt:∀ j,lc ops T L ops.size≤j→isK ops T .make j→L j=true→∃ y,r' (T j).nx=some y∧y.ro=false∧∀ b x,b≠(T j).nx→r' b=some x→x.blk≠y.blk
 low:∀ c,L c=true→isK ops T .chain c→∀ b k,getB (T (c+1)).hp b=some k→b<(T (c+1)).nx
theorem lw_set_other {i:Nat} {t:Tmp} (h:(ops[i]?).bind (·.dst)≠some t):∀ k,lw ops (setL L i) t k=lw ops L t k:=by
 intro k
 induction k with
 | zero=>rfl
 | succ k ihk =>
  unfold lw
  by_cases e:k=i
  ·subst e;rw[if_neg fun q=>h q.2,if_neg fun q=>h q.2,ihk]
  ·have:setL L i k=L k:=by unfold setL;rw[if_neg e]
   rw[this,ihk]
theorem lw_set_same {i:Nat} {t:Tmp} (h:(ops[i]?).bind (·.dst)=some t):∀ k,i<k→(∀ j,i<j→j<k→(ops[j]?).bind (·.dst)=some t→L j=false)→lw ops (setL L i) t k=i+1:=by
 intro k
 induction k with
 | zero=>intro hi;omega
 | succ k ihk =>
  intro hi hj
  unfold lw
  by_cases e:k=i
  ·subst e
   have:setL L k k=true:=by unfold setL;rw[if_pos rfl]
   rw[if_pos ⟨this,h⟩]
  ·have:setL L i k=L k:=by unfold setL;rw[if_neg e]
   rw[if_neg fun q=>by rw[this,hj k (by omega) (by omega) q.2] at q;exact absurd q.1 (by decide)]
   exact ihk (by omega) fun j q1 q2=>hj j q1 (by omega)
theorem lc_set_other {i:Nat} (h:¬ isK ops T .chain i):∀ k,lc ops T (setL L i) k=lc ops T L k:=by
 intro k
 induction k with
 | zero=>rfl
 | succ k ihk =>
  unfold lc
  by_cases e:k=i
  ·subst e;rw[if_neg fun q=>h q.2,if_neg fun q=>h q.2,ihk]
  ·have:setL L i k=L k:=by unfold setL;rw[if_neg e]
   rw[this,ihk]
theorem lc_set_same {i:Nat} (h:isK ops T .chain i):∀ k,i<k→(∀ j,i<j→j<k→isK ops T .chain j→L j=false)→lc ops T (setL L i) k=i+1:=by
 intro k
 induction k with
 | zero=>intro hi;omega
 | succ k ihk =>
  intro hi hj
  unfold lc
  by_cases e:k=i
  ·subst e
   have:setL L k k=true:=by unfold setL;rw[if_pos rfl]
   rw[if_pos ⟨this,h⟩]
  ·have:setL L i k=L k:=by unfold setL;rw[if_neg e]
   rw[if_neg fun q=>by rw[this,hj k (by omega) (by omega) q.2] at q;exact absurd q.1 (by decide)]
   exact ihk (by omega) fun j q1 q2=>hj j q1 (by omega)
theorem slot_setT (dst:Option Tmp) (v:AV) (tm:Tr AV) (t:Tmp):slot (setT dst v tm) t=if dst=some t then v else slot tm t:=by
 unfold setT
 cases dst with
 | none=>simp
 | some d =>
  simp only[slot_set,Option.some.injEq]
  by_cases h:t=d
  ·subst h;simp
  ·rw[if_neg h,if_neg fun e=>h e.symm]
theorem slot_keep (R : Run P ih ops n tm hp nx T) {t : Tmp} {b : Nat} : ∀ i, b ≤ i → i ≤ ops.size → (∀ j, b ≤ j → j < i → (ops[j]?).bind (·.dst) ≠ some t) → slot (T i).tm t = slot (T b).tm t := by
  intro i
  induction i with
  | zero => intro h _ _; have : b = 0 := by omega
            subst this; rfl
  | succ i ihi =>
    intro h1 h2 h3
    by_cases e : b = i + 1
    · subst e; rfl
    · have ho : ops[i]? = some ops[i] := Array.getElem?_eq_getElem (by omega)
      obtain ⟨_, v, hS⟩ := R.cases ho
      rw [hS.tm_eq, slot_setT, if_neg fun q => h3 i (by omega) (by omega) (by rw [ho]; exact q)]
      exact ihi (by omega) (by omega) fun j q1 q2 => h3 j q1 (by omega)
theorem looks (R:Run P ih ops n tm hp nx T) (hc:Closed ops L) {i:Nat} {o:Oper} (ho:ops[i]?=some o) (hL:L i=false) (ha:∀ j,bit (anc ops i) j=true→L j=true) {t:Tmp} (ht:t∈Oper.looksAt ops o∨o.dst=some t) :
  (∀ j,j<i→(ops[j]?).bind (·.dst)=some t→L j=true)∧(∀ j,i<j→(ops[j]?).bind (·.dst)=some t→L j=false):=by
 refine⟨fun j hj hd=>?_,fun j hj hd=>?_⟩
 ·cases hp':ops[j]? with
  | none=>rw[hp'] at hd;exact absurd hd (by simp)
  | some p =>
   rw[hp'] at hd
   have hd:p.dst=some t:=hd
   rcases R.pairs i j o p ho hp' hj with h | h
   ·exact ha j h
   ·obtain⟨s1,s2,s3⟩:=Oper.apart_spec h
    rcases ht with ht | ht
    ·exact absurd ht (s1 t hd)
    ·exact absurd ht (s2 t hd)
 ·cases hp':ops[j]? with
  | none=>rw[hp'] at hd;exact absurd hd (by simp)
  | some p =>
   rw[hp'] at hd
   have hd:p.dst=some t:=hd
   cases hj':L j with
   | false=>rfl
   | true =>
    rcases R.pairs j i p o hp' ho hj with h | h
    ·have:=closed_anc' hc hj' h;rw[hL] at this;exact absurd this (by decide)
    ·obtain⟨s1,s2,s3⟩:=Oper.apart_spec h
     rcases ht with ht | ht
     ·exact absurd ht (s3 t hd)
     ·exact absurd hd (s2 t ht)
theorem lw_le (R:Run P ih ops n tm hp nx T) {i:Nat} (hL:L i=false) {t:Tmp} (h:∀ j,i<j→(ops[j]?).bind (·.dst)=some t→L j=false):lw ops L t ops.size≤i:=by
 obtain⟨h1,h2,h3⟩:=lw_spec (ops:=ops) (L:=L) t ops.size
 cases hb:lw ops L t ops.size with
 | zero=>omega
 | succ b =>
  obtain⟨q1,q2⟩:=h2 b hb
  have:¬ i<b:=fun hlt=>by rw[h b hlt q2] at q1;exact absurd q1 (by decide)
  have:b≠i:=fun e=>by subst e;rw[hL] at q1;exact absurd q1 (by decide)
  omega
def acO (l:List Tmp) (n:Nat) (a:Act):Act:={ tmps:=(Array.range n).map fun t=>if t∈l then a.tmps.getD t undef else undef,defers:=[] }
theorem acO_get (l:List Tmp) (n:Nat) (a:Act) (t:Tmp):(acO l n a).tmps.getD t undef=if t<n then (if t∈l then a.tmps.getD t undef else undef) else undef:=by
 unfold acO
 simp only[Array.getD_eq_getD_getElem?,Array.getElem?_map,Array.getElem?_range]
 by_cases h:t<n
 ·simp[h]
 ·simp[h]
theorem acO_mem {l:List Tmp} {n:Nat} {a:Act} (hs:a.tmps.size=n) {t:Tmp} (ht:t∈l):(acO l n a).tmps.getD t undef=a.tmps.getD t undef:=by
 rw[acO_get]
 by_cases h:t<n
 ·rw[if_pos h,if_pos ht]
 ·rw[if_neg h,Array.getD_eq_getD_getElem?,Array.getElem?_eq_none (show a.tmps.size≤t by rw[hs];exact Nat.not_lt.1 h)];rfl
theorem acO_ok (R:Run P ih ops n tm hp nx T) (hc:Closed ops L) {r':Rho} {a':Act} {w':World} (I:Inv P ops n hp T r w a L r' a' w') {i:Nat} {o:Oper} (ho:ops[i]?=some o) (hL:L i=false)
  (ha:∀ j,bit (anc ops i) j=true→L j=true):TmOk (below r' (T i).nx) n (qAt ops T i o) (acO (Oper.looksAt ops o) n a'):=by
 have hi:i<ops.size:=(Array.getElem?_eq_some_iff.1 ho).1
 refine⟨by simp[acO],fun t=>?_,?_⟩
 ·unfold qAt
  rw[slot_only]
  by_cases ht:t∈Oper.looksAt ops o
  ·rw[if_pos ht,acO_mem I.size ht]
   obtain⟨w1,w2⟩:=looks R hc ho hL ha (.inl ht)
   have hle:=lw_le R hL w2
   have hk:=slot_keep R (t:=t) (b:=lw ops L t ops.size) i hle (by omega) fun j q1 q2 q3=>(lw_spec (ops:=ops) (L:=L) t ops.size).2.2 j q1 (by omega) ⟨w1 j q2 q3,q3⟩
   rw[hk]
   exact (I.slot t).mono (below_mono (Rho.le_refl _) (R.nx_mono hle (by omega))) _ _
  ·rw[if_neg ht,acO_get]
   have:(if t<n then (if t∈Oper.looksAt ops o then a'.tmps.getD t undef else undef) else undef)=undef:=by
    rw[if_neg ht];split <;> rfl
   rw[this]
   exact rel_undef
 ·unfold qAt
  rw[df_only];rfl
theorem acO_exec {a':Act} (hs:a'.tmps.size=n) {o:Oper} (hsel:∀ cs b,o.op≠.select cs b):execOp (acO (Oper.looksAt ops o) n a').eval o=execOp a'.eval o:=by
 refine execOp_congr o hsel fun x hx=>?_
 cases x with
 | tmp t =>
  have ht:t∈Oper.looksAt ops o:=List.mem_append_left _ (List.mem_filterMap.2 ⟨.tmp t,by simpa using hx,rfl⟩)
  exact acO_mem hs ht
 | _=>rfl
theorem acO_wanted {a':Act} (hs:a'.tmps.size=n) {o:Oper} : Region.wanted o (yielded ops (acO (Oper.looksAt ops o) n a').tmps)=Region.wanted o (yielded ops a'.tmps):=by
 unfold Region.wanted
 cases hg:o.guard with
 | none=>rfl
 | some p =>
  obtain⟨j,want⟩:=p
  have hy:yielded ops (acO (Oper.looksAt ops o) n a').tmps j=yielded ops a'.tmps j:=by
   unfold yielded
   cases hd:(ops[j]?).bind (·.dst) with
   | none=>rfl
   | some d =>
    have hm:d∈Oper.looksAt ops o:=by
     unfold Oper.looksAt
     rw[hg]
     refine List.mem_append_right _ ?_
     simp only[hd,Option.toList_some]
     exact List.mem_cons_self
    have e:(acO (Oper.looksAt ops o) n a').tmps[d]?=a'.tmps[d]?:=by
     have:=acO_mem hs hm
     by_cases hdn:d<n
     ·simp only[acO,Array.getElem?_map,Array.getElem?_range,hdn,if_true,Option.map_some,hm]
      rw[Array.getD_eq_getD_getElem?,Array.getElem?_eq_getElem (show d<a'.tmps.size by rw[hs];exact hdn)]
      rfl
     ·rw[Array.getElem?_eq_none (show (acO (Oper.looksAt ops o) n a').tmps.size≤d by simp only[acO,Array.size_map,Array.size_range];exact Nat.not_lt.1 hdn),Array.getElem?_eq_none (show a'.tmps.size≤d by rw[hs];exact Nat.not_lt.1 hdn)]
    simp only[Option.bind_some,e]
  simp only[hy]
theorem slot_step (R:Run P ih ops n tm hp nx T) {r' r'':Rho} {a':Act} (hslot:∀ t,Rel (below r' (T (lw ops L t ops.size)).nx) (slot (T (lw ops L t ops.size)).tm t) (a'.tmps.getD t undef)) (hs:a'.tmps.size=n) (hle:r'.le r'')
  {i:Nat} {o:Oper} (ho:ops[i]?=some o) (hdst:dstOk o.dst n=true) (h2:∀ t,o.dst=some t→∀ j,i<j→(ops[j]?).bind (·.dst)=some t→L j=false) {v:AV} (hS:Stp P ih ops T i o v) {x:Value} (hx:Rel (below r'' (T (i+1)).nx) v x) :
  (a'.put o.dst x).tmps.size=n∧∀ t,Rel (below r'' (T (lw ops (setL L i) t ops.size)).nx) (slot (T (lw ops (setL L i) t ops.size)).tm t) ((a'.put o.dst x).tmps.getD t undef):=by
 have hi:i<ops.size:=(Array.getElem?_eq_some_iff.1 ho).1
 refine⟨by cases hd:o.dst <;> simp[Act.put,hs],fun t=>?_⟩
 by_cases hd:o.dst=some t
 ·rw[lw_set_same (by rw[ho];exact hd) ops.size hi fun j q1 q2 q3=>h2 t hd j q1 q3,hS.tm_eq,slot_setT,if_pos hd]
  rw[hd] at hdst ⊢
  have htn:t<n:=blt_lt (show Nat.blt t n=true from hdst)
  have:(a'.put (some t) x).tmps.getD t undef=x:=by
   simp only[Act.put,Array.getD_eq_getD_getElem?]
   rw[Array.getElem?_setIfInBounds_self,if_pos (show t<a'.tmps.size by rw[hs];exact htn)];rfl
  rw[this];exact hx
 ·rw[lw_set_other (by rw[ho];exact hd)]
  have:(a'.put o.dst x).tmps.getD t undef=a'.tmps.getD t undef:=by
   cases hd':o.dst with
   | none=>rfl
   | some d =>
    have:d≠t:=fun e=>hd (by rw[hd',e])
    simp only[Act.put,Array.getD_eq_getD_getElem?]
    rw[Array.getElem?_setIfInBounds_ne this]
  rw[this]
  exact (hslot t).mono (below_mono hle (Nat.le_refl _)) _ _
end
end Go.Proofs.YtbdbhdcbdfbnnaaGreatDoor.Ev
set_option linter.unusedVariables false
set_option linter.unusedSimpArgs false
namespace Go.Proofs.YtbdbhdcbdfbnnaaGreatDoor.Ev
section
variable {P : Program} {r : Rho} {n : Nat} {tm : Tr AV} {a : Act} {w : World} {o : Oper} {hp hp' : Hp} {nx nx' : Nat} {v : AV}
theorem pureR_inv {e:Option AV} (h:pureR e hp nx=.ok v hp' nx'):e=some v:=by
 cases e with
 | none=>exact absurd (show R.no=.ok v hp' nx' from h) (by simp)
 | some u=>injection (show R.ok u hp nx=.ok v hp' nx' from h) with h;rw[h]
theorem runR_inv {α:Type} {e:Option α} {f:α→R} (h:runR e f=.ok v hp' nx'):∃ x,e=some x∧f x=.ok v hp' nx':=by
 cases e with
 | none=>exact absurd (show R.no=.ok v hp' nx' from h) (by simp)
 | some u=>exact⟨u,rfl,h⟩
theorem newR_inv {e:Option (AV×Blk)} (h:newR e hp nx=.ok v hp' nx'):∃ k,e=some (v,k)∧hp'=setB (some k) nx hp:=by
 cases e with
 | none=>exact absurd (show R.no=.ok v hp' nx' from h) (by simp)
 | some p =>
  injection (show R.ok p.1 (setB (some p.2) nx hp) (Nat.succ nx)=.ok v hp' nx' from h) with h1 h2 h3
  exact⟨p.2,by rw[← h1],h2.symm⟩
theorem arg1_inv {f:AV→R} {vs:List AV} (h:arg1 f vs=.ok v hp' nx'):∃ x,vs=[x]∧f x=.ok v hp' nx':=by
 unfold arg1 at h;split at h
 ·exact⟨_,rfl,h⟩
 ·exact absurd h (by simp)
theorem arg2_inv {f:AV→AV→R} {vs:List AV} (h:arg2 f vs=.ok v hp' nx'):∃ x y,vs=[x,y]∧f x y=.ok v hp' nx':=by
 unfold arg2 at h;split at h
 ·exact⟨_,_,rfl,h⟩
 ·exact absurd h (by simp)
theorem xNo_inv {α:Prop} (h:R.no=.ok v hp' nx'):α:=absurd h (by simp)
theorem value_clc (f:Operand):clCall (.value f)=.chain∨clCall (.value f)=.calm:=by
 cases f <;> first | exact .inl rfl | skip
 rename_i g
 show sel (isCalm g) Cl.calm Cl.chain=.chain∨sel (isCalm g) Cl.calm Cl.chain=.calm
 cases isCalm g
 ·exact .inl rfl
 ·exact .inr rfl
theorem value_cl (f:Operand) {xs:Array Operand} {ts:Array TypeId} (h:clOf (.call ⟨.value f,xs,ts⟩)=.pure∨clOf (.call ⟨.value f,xs,ts⟩)=.read):False:=by
 have h:clCall (.value f)=.pure∨clCall (.value f)=.read:=h
 rcases value_clc f with e | e <;> rw[e] at h <;> rcases h with h | h <;> exact Cl.noConfusion h
theorem value_clm (f:Operand) {xs:Array Operand} {ts:Array TypeId} (h:clOf (.call ⟨.value f,xs,ts⟩)=.make):False:=by
 have h:clCall (.value f)=.make:=h
 rcases value_clc f with e | e <;> rw[e] at h <;> exact Cl.noConfusion h
theorem still_ok (ht:TmOk r n tm a) (hg:Glob P r) (g:Gam (getB hp) r w) (hc:clOf o.op=.pure∨clOf o.op=.read) (h:opX o.op P tm hp nx=.ok v hp' nx'):Owes P o a r w v:=by
 cases hop:o.op <;> rw[hop] at hc h <;> first | (exfalso;rcases hc with hc | hc <;> exact Cl.noConfusion hc) | skip
 case move x=>exact move_ok ht hg (.inl hop) (pureR_inv h)
 case assign x=>exact move_ok ht hg (.inr hop) (pureR_inv h)
 case pick c x y=>exact pick_ok ht hg hop (pureR_inv h)
 case build t ps=>exact build_ok ht hg hop (pureR_inv h)
 case load t x=>exact load_ok ht hg g hop (pureR_inv h)
 case nilCheck x=>exact nilCheck_ok ht hg hop (pureR_inv h)
 case binOp op t x y t'=>exact bin_ok ht hg hop (pureR_inv h)
 case unOp op t x=>exact un_ok ht hg hop (pureR_inv h)
 case convert s d x=>exact conv_ok ht hg hop (pureR_inv h)
 case makeInterface t x=>exact iface_ok ht hg hop (pureR_inv h)
 case makeFunc fn x y =>
  cases fn <;> first | exact func_ok ht hg hop (pureR_inv h) | exact xNo_inv h
 case slice t x lo hi mx=>exact slice_ok ht hg hop (pureR_inv h)
 case fieldAddr s x f=>exact fieldAddr_ok ht hg hop (pureR_inv h)
 case field s x f=>exact field_ok ht hg hop (pureR_inv h)
 case indexAddr t x i=>exact indexAddr_ok ht hg hop (pureR_inv h)
 case index t x i=>exact index_ok ht hg hop (pureR_inv h)
 case lookup t x i ok=>exact lookup_ok ht hg g hop (pureR_inv h)
 case typeAssert x t' t ok=>exact assert_ok ht hg hop (pureR_inv h)
 case extract x i=>exact extract_ok ht hg hop (pureR_inv h)
 case call c =>
  obtain⟨callee,xs,ts⟩:=c
  cases callee with
  | value f=>exact (value_cl f hc).elim
  | invoke f name=>(exfalso;rcases hc with hc | hc <;> exact Cl.noConfusion hc)
  | builtin b =>
   obtain⟨vs,h1,h2⟩:=runR_inv (show runR (opnds P tm xs.toList) (fun vs=>builtinR b P ts vs hp nx)=.ok v hp' nx' from h)
   cases b <;> first | (exfalso;rcases hc with hc | hc <;> exact Cl.noConfusion hc) | skip
   case cap =>
    obtain⟨e,h3,h4⟩:=runR_inv h2
    obtain⟨x,h5,h6⟩:=arg1_inv h4
    subst h5;exact cap_ok ht hg hop h3 h1 (pureR_inv h6)
   case len =>
    obtain⟨e,h3,h4⟩:=runR_inv h2
    obtain⟨x,h5,h6⟩:=arg1_inv h4
    subst h5;exact len_ok ht hg g hop h3 h1 (pureR_inv h6)
   case max =>
    obtain⟨x,y,h5,h6⟩:=arg2_inv h2
    subst h5;exact max_ok ht hg hop h1 (pureR_inv h6)
   case min =>
    obtain⟨x,y,h5,h6⟩:=arg2_inv h2
    subst h5;exact min_ok ht hg hop h1 (pureR_inv h6)
theorem make_run (ht:TmOk r n tm a) (hg:Glob P r) (hc:clOf o.op=.make) (h:opX o.op P tm .leaf nx=.ok v hp' nx') {b:Blk} (hb:getB hp' nx=some b) (w:World) :
  ∃ obj u,(execOp a.eval o).run P w=.ok (.value u) (w.alloc obj)∧∀ s:Rho,r.le s→s nx=some ⟨w.heap.size,0,0,false⟩→Rel s v u∧BOk s (w.alloc obj) ⟨w.heap.size,0,0,false⟩ b:=by
 have blk:∀ k:Blk,hp'=setB (some k) nx .leaf→b=k:=fun k e=>by
  rw[e,getB_put] at hb
  have:(if nx=nx then some k else getB .leaf nx)=some b:=hb
  rw[if_pos rfl] at this
  injection this with this
  exact this.symm
 cases hop:o.op <;> rw[hop] at hc h <;> first | (exfalso;exact Cl.noConfusion hc) | skip
 case alloc t =>
  obtain⟨k,h1,h2⟩:=newR_inv h
  obtain⟨z,h3,h4⟩:=bnd_some h1
  obtain⟨sz,h5,h6⟩:=bnd_some h4
  injection h6 with h6;injection h6 with h6 h7
  have:=blk k h2
  subst this;subst h6;subst h7
  obtain⟨i,u,z1,z2,z3⟩:=zero_ok h3
  refine⟨.cells u.cells t,.pointer (some ⟨w.heap.size,0,none⟩),?_,fun s hle hs=>⟨rel_ptr.2 ⟨_,hs,rfl⟩,bok_new (cells_ok (rel_avOf _ _ z3)) _ _ _ _ ?_⟩⟩
  ·simp only[execOp,hop,Instr.alloc,Sem.run_bind,run_zero z1 z2,Result.andThen_ok,newVar,newRow,run_newObj,Sem.run_pure];rfl
  ·have:=(cells_ok (rel_avOf (r:=r) _ _ z3)).length
   simp at this;omega
 case box t x =>
  obtain⟨k,h1,h2⟩:=newR_inv h
  obtain⟨z,h3,h4⟩:=bnd_some h1
  obtain⟨sz,h5,h6⟩:=bnd_some h4
  injection h6 with h6;injection h6 with h6 h7
  have:=blk k h2
  subst this;subst h6;subst h7
  have hx:=opnd_ok ht hg h3
  refine⟨.cells (a.eval x).cells t,.pointer (some ⟨w.heap.size,0,none⟩),?_,fun s hle hs=>⟨rel_ptr.2 ⟨_,hs,rfl⟩,bok_new (cells_ok (hx.mono hle _ _)) _ _ _ _ ?_⟩⟩
  ·simp only[execOp,hop,Instr.box,Sem.run_bind,Result.andThen_ok,newVar,newRow,run_newObj,Sem.run_pure];rfl
  ·have:=(cells_ok hx).length
   simp at this;omega
 case buildSlice t m parts =>
  obtain⟨k,h1,h2⟩:=newR_inv h
  obtain⟨e,h3,h4⟩:=bnd_some h1
  obtain⟨ps,h5,h6⟩:=bnd_some h4
  obtain⟨cs,h7,h8⟩:=bnd_some h6
  obtain⟨h9,h10⟩:=sel_none h8
  injection h10 with h10;injection h10 with h10 h11
  have:=blk k h2
  subst this;subst h10;subst h11
  obtain⟨c',el,q1,q2,q3⟩:=buildSlice_run ht hg hop h3 h5 h7 h9 w
  refine⟨.cells c' el,.slice (some ⟨w.heap.size,0,none⟩) m m,q1,fun s hle hs=>⟨rel_slice.2 ⟨_,_,hs,rfl,fun _=>rfl⟩,bok_new (q2.mono hle _ _) _ _ _ _ q3⟩⟩
 case makeSlice t x y =>
  obtain⟨k,h1,h2⟩:=newR_inv h
  obtain⟨e,h3,h4⟩:=bnd_some h1
  obtain⟨l,h5,h6⟩:=bnd_some h4
  obtain⟨c,h7,h8⟩:=bnd_some h6
  obtain⟨h9,h10⟩:=sel_none h8
  injection h10 with h10;injection h10 with h10 h11
  have:=blk k h2
  subst this;subst h10;subst h11
  obtain⟨c',el,q1,q2,q3⟩:=makeSlice_run ht hg hop h3 h5 h7 h9 w
  refine⟨.cells c' el,.slice (some ⟨w.heap.size,0,none⟩) l c,q1,fun s hle hs=>⟨rel_slice.2 ⟨_,_,hs,rfl,fun _=>rfl⟩,bok_new (q2.mono hle _ _) _ _ _ _ q3⟩⟩
 case call c =>
  obtain⟨callee,xs,ts⟩:=c
  cases callee with
  | value f=>exact (value_clm f hc).elim
  | invoke f name=>(exfalso;exact Cl.noConfusion hc)
  | builtin b=>cases b <;> (exfalso;exact Cl.noConfusion hc)
theorem lowA_ok {m:Nat} {x:Value} (h:lowA m v=true) (hx:Rel r v x):Rel (below r m) v x:=by
 have low:∀ {b:Nat},Nat.blt b m=true→below r m b=r b:=fun h=>by unfold below;rw[if_pos (blt_lt h)]
 cases v <;> first | exact absurd (show false=true from h) (by decide) | skip
 case bool b=>exact rel_bool.2 (rel_bool.1 hx)
 case int k b=>exact rel_int.2 (rel_int.1 hx)
 case str b=>exact rel_str.2 (rel_str.1 hx)
 case ptr b off=>obtain⟨y,h1,h2⟩:=rel_ptr.1 hx;exact rel_ptr.2 ⟨y,by rw[low h];exact h1,h2⟩
 case nilPtr=>exact rel_nilPtr.2 (rel_nilPtr.1 hx)
 case slice b off l c e=>obtain⟨y,q,h1,h2⟩:=rel_slice.1 hx;exact rel_slice.2 ⟨y,q,by rw[low h];exact h1,h2⟩
 case nilSlice=>exact rel_nilSlice.2 (rel_nilSlice.1 hx)
 case map b=>obtain⟨y,h1,h2⟩:=rel_map.1 hx;exact rel_map.2 ⟨y,by rw[low h];exact h1,h2⟩
 case nilMap=>exact rel_nilMap.2 (rel_nilMap.1 hx)
 case nilFunc=>exact rel_nilFunc.2 (rel_nilFunc.1 hx)
 case nilIface=>exact rel_nilIface.2 (rel_nilIface.1 hx)
theorem lowAs_ok {m:Nat} : ∀ {l:List AV} {x:List Value},lowAs m l=true→Rels r l x→Rels (below r m) l x:=by
 intro l
 induction l with
 | nil=>intro x _ h;exact Rels_nil.2 (Rels_nil.1 h)
 | cons a l ih =>
  intro x h hx
  obtain⟨u,us,h1,h2,h3⟩:=Rels_cons.1 hx
  have h':sel (lowA m a) (lowAs m l) false=true:=h
  cases hl:lowA m a with
  | false=>rw[hl] at h';exact absurd (show false=true from h') (by decide)
  | true=>rw[hl] at h';exact Rels_cons.2 ⟨u,us,h1,lowA_ok hl h2,ih h' h3⟩
theorem lowV_ok {m:Nat} {x:Value} (h:lowV m v=true) (hx:Rel r v x):Rel (below r m) v x:=by
 cases v <;> first | exact lowA_ok h hx | skip
 case agg l=>obtain⟨y,h1,h2⟩:=rel_agg.1 hx;exact rel_agg.2 ⟨y,h1,lowAs_ok h h2⟩
end
end Go.Proofs.YtbdbhdcbdfbnnaaGreatDoor.Ev
set_option linter.unusedVariables false
set_option linter.unusedSimpArgs false
namespace Go.Proofs.YtbdbhdcbdfbnnaaGreatDoor.Ev
section
variable {P : Program} {ih : K} {ops : Array Oper} {n nx : Nat} {tm : Tr AV} {hp : Hp} {T : Nat → Ds} {L : Nat → Bool} {r r' : Rho} {w w' : World} {a a' : Act}
theorem setL_same (L:Nat→Bool) (i:Nat):setL L i i=true:=by unfold setL;rw[if_pos rfl]
theorem setL_other (L:Nat→Bool) {i j:Nat} (h:j≠i):setL L i j=L j:=by unfold setL;rw[if_neg h]
theorem put_defers (a:Act) (d:Option Tmp) (x:Value):(a.put d x).defers=a.defers:=by cases d <;> rfl
theorem hd_lc (R:Run P ih ops n tm hp nx T) (k:Nat):hd ops hp T L (lc ops T L k)=getB (T (lc ops T L k)).hp:=by
 cases hb:lc ops T L k with
 | zero=>rw[R.start];rfl
 | succ b =>
  have:=(lc_spec (ops:=ops) (T:=T) (L:=L) k).2.1 b hb
  unfold hd
  rw[if_pos this]
theorem later (R:Run P ih ops n tm hp nx T) (hc:Closed ops L) {i:Nat} (hL:L i=false) (hk:isK ops T .make i∨isK ops T .chain i):∀ c,i<c→isK ops T .chain c→L c=false:=by
 intro c hlt hcc
 cases h:L c with
 | false=>rfl
 | true =>
  have:=R.chain_all hc hcc (fun j hj=>closed_anc' hc h hj) i hlt hk
  rw[hL] at this;exact absurd this (by decide)
theorem lc_le {i:Nat} (hL:L i=false) (h:∀ c,i<c→isK ops T .chain c→L c=false):lc ops T L ops.size≤i:=by
 obtain⟨h1,h2,h3⟩:=lc_spec (ops:=ops) (T:=T) (L:=L) ops.size
 cases hb:lc ops T L ops.size with
 | zero=>omega
 | succ b =>
  obtain⟨q1,q2⟩:=h2 b hb
  have:¬ i<b:=fun hlt=>by rw[h b hlt q2] at q1;exact absurd q1 (by decide)
  have:b≠i:=fun e=>by subst e;rw[hL] at q1;exact absurd q1 (by decide)
  omega
theorem Run.make_nx (R:Run P ih ops n tm hp nx T) {j:Nat} (h:isK ops T .make j):j<ops.size∧(T (j+1)).nx=(T j).nx+1:=by
 obtain⟨o,ho,hw,hc⟩:=h
 refine⟨(Array.getElem?_eq_some_iff.1 ho).1,?_⟩
 obtain⟨_,v,hS⟩:=R.cases ho
 cases hS with
 | no hw' hT=>rw[hw] at hw';exact absurd hw' (by simp)
 | pure _ _ _ hw' hc' hX hT=>rw[hc] at hc';exact absurd hc' (by simp)
 | calm _ _ _ hw' hc' hX hT=>rw[hc] at hc';exact absurd hc' (by simp)
 | make _ _ _ _ hw' hc' hX hb hT=>rw[hT]
 | read _ _ _ hw' hc' hX hk hT=>rw[hc] at hc';exact absurd hc' (by simp)
 | chain _ _ _ hw' hc' _ _ hX hn hwa hT=>rw[hc] at hc';exact absurd hc' (by simp)
theorem names (R:Run P ih ops n tm hp nx T) (I:Inv P ops n hp T r w a L r' a' w') {i:Nat} (hi:i<ops.size) (hL:L i=false) (hlc:lc ops T L ops.size≤i) {b:Nat} (hb:r' b≠none) :
  b<(T i).nx∨∃ j,i<j∧j<ops.size∧isK ops T .make j∧L j=true∧b=(T j).nx∧(T (i+1)).nx≤b:=by
 rcases I.dom b hb with h | ⟨j,h1,h2,h3,h4,h5⟩
 ·exact .inl (Nat.lt_of_lt_of_le h (R.nx_mono hlc (by omega)))
 ·have hne:j≠i:=fun e=>by subst e;rw[hL] at h4;exact absurd h4 (by decide)
  by_cases hlt:j<i
  ·left
   have:=(R.make_nx h3).2
   have:=R.nx_mono (show j+1≤i by omega) (by omega)
   omega
  ·have:=R.nx_mono (show i+1≤j by omega) (by omega)
   exact .inr ⟨j,by omega,h2,h3,h4,h5,by omega⟩
theorem quiet (R:Run P ih ops n tm hp nx T) (I:Inv P ops n hp T r w a L r' a' w') {i:Nat} {o:Oper} (ho:ops[i]?=some o) (hdst:dstOk o.dst n=true)
  (h2:∀ t,o.dst=some t→∀ j,i<j→(ops[j]?).bind (·.dst)=some t→L j=false) {v:AV} (hS:Stp P ih ops T i o v) {x:Value} (hx:Rel (below r' (T (i+1)).nx) v x)
  (hm:¬ isK ops T .make i) (hch:¬ isK ops T .chain i):Inv P ops n hp T r w a (setL L i) r' (a'.put o.dst x) w':=by
 obtain⟨s1,s2⟩:=slot_step R I.slot I.size (Rho.le_refl r') ho hdst h2 hS hx
 have hlc:lc ops T (setL L i) ops.size=lc ops T L ops.size:=lc_set_other hch _
 have keep:∀ j,(isK ops T .make j∨isK ops T .chain j)→setL L i j=L j:=fun j hj=>setL_other L fun e=>by
  subst e;exact hj.elim hm hch
 have hhd:∀ k,hd ops hp T (setL L i) k=hd ops hp T L k:=fun k=>hd_congr k fun j _ hj=>keep j hj
 refine { size:=s1,defs:=(put_defers _ _ _).trans I.defs,slot:=s2,gam:=fun k h1 h2=>?_,real:=I.real,ext:=I.ext,fr:=I.fr,dom:=fun b hb=>?_,apt:=fun j h1 h2 h3=>?_,low:=fun c h1 h2=>?_ }
 ·rw[hhd];rw[hlc] at h1;exact I.gam k h1 h2
 ·rw[hlc]
  rcases I.dom b hb with h | ⟨j,h1,h2,h3,h4,h5⟩
  ·exact .inl h
  ·exact .inr ⟨j,h1,h2,h3,by rw[keep j (.inl h3)];exact h4,h5⟩
 ·rw[hlc] at h1
  exact I.apt j h1 h2 (by rw[← keep j (.inl h2)];exact h3)
 ·exact I.low c (by rw[← keep c (.inr h2)];exact h1) h2
theorem Gam.grow {h:H} {w1:World} (g:Gam h r w) (hh:∀ i,i<w.heap.size→w1.heap[i]?=w.heap[i]?) (hs:w.heap.size≤w1.heap.size):Gam h r w1 :=
 ⟨fun b k hb=>let ⟨x,h1,h2⟩:=g.blk b k hb;⟨x,h1,h2.kept (Rho.le_refl r) (hh _ (g.real _ _ h1))⟩,fun b x hb=>Nat.lt_of_lt_of_le (g.real b x hb) hs,g.sep⟩
theorem Inv.grow {w1:World} (I:Inv P ops n hp T r w a L r' a' w') (h1:w1.os=w'.os) (h2:w1.tape=w'.tape) (h3:w1.output=w'.output) (hs:w'.heap.size≤w1.heap.size) (hh:∀ i,i<w'.heap.size→w1.heap[i]?=w'.heap[i]?):Inv P ops n hp T r w a L r' a' w1 :=
 {size:=I.size,defs:=I.defs,slot:=I.slot,gam:=fun k q1 q2=>(I.gam k q1 q2).grow hh hs,real:=fun b x hb=>Nat.lt_of_lt_of_le (I.real b x hb) hs,ext:=I.ext,
  fr:=⟨h1.trans I.fr.os,h2.trans I.fr.tape,h3.trans I.fr.output,Nat.le_trans I.fr.size hs,fun i hi hn=>(hh i (Nat.lt_of_lt_of_le hi I.fr.size)).trans (I.fr.blk i hi hn)⟩,dom:=I.dom,apt:=I.apt,low:=I.low }
theorem Gam.more {h:H} (g:Gam h r w) (obj:Obj):Gam h r (w.alloc obj) :=
 ⟨fun b k hb=>let ⟨x,h1,h2⟩:=g.blk b k hb;⟨x,h1,h2.kept (Rho.le_refl r) (heap_alloc_lt (g.real _ _ h1))⟩,fun b x hb=>by rw[World.size_alloc];have:=g.real b x hb;omega,g.sep⟩
theorem hd_make_low {i:Nat} : ∀ k,k≤i→hd ops hp T (setL L i) k=hd ops hp T L k:=fun k hk=>hd_congr k fun j hj _=>setL_other L (by omega)
open Classical in
theorem hd_make_high (R:Run P ih ops n tm hp nx T) {i:Nat} (hL:L i=false) (hk:isK ops T .make i) (hnc:¬ isK ops T .chain i) (hlat:∀ c,i<c→isK ops T .chain c→L c=false) {b:Blk}
  (hb:headB (T (i+1)).pend=b) :
  ∀ k,i<k→k≤ops.size→hd ops hp T (setL L i) k=putH (hd ops hp T L k) (T i).nx b:=by
 intro k
 induction k with
 | zero=>intro h;omega
 | succ k ihk =>
  intro h1 h2
  by_cases e:k=i
  ·subst e
   have hl:=hd_make_low (ops:=ops) (hp:=hp) (T:=T) (L:=L) (i:=k) k (Nat.le_refl _)
   have e1:hd ops hp T (setL L k) (k+1)=putH (hd ops hp T (setL L k) k) (T k).nx b:=by
    conv=>lhs;unfold hd
    rw[if_neg fun h=>hnc h.2,if_pos ⟨setL_same L k,hk⟩,hb]
   have e2:hd ops hp T L (k+1)=hd ops hp T L k:=by
    conv=>lhs;unfold hd
    rw[if_neg fun h=>hnc h.2,if_neg fun h=>by rw[hL] at h;exact absurd h.1 (by decide)]
   rw[e1,e2,hl]
  ·have ih':=ihk (by omega) (by omega)
   have hs:setL L i k=L k:=setL_other L e
   have e1:hd ops hp T (setL L i) (k+1)=if L k=true∧isK ops T .make k then putH (hd ops hp T (setL L i) k) (T k).nx (headB (T (k+1)).pend) else hd ops hp T (setL L i) k:=by
    conv=>lhs;unfold hd
    rw[hs,if_neg fun h=>by rw[hlat k (by omega) h.2] at h;exact absurd h.1 (by decide)]
   have e2:hd ops hp T L (k+1)=if L k=true∧isK ops T .make k then putH (hd ops hp T L k) (T k).nx (headB (T (k+1)).pend) else hd ops hp T L k:=by
    conv=>lhs;unfold hd
    rw[if_neg fun h=>by rw[hlat k (by omega) h.2] at h;exact absurd h.1 (by decide)]
   rw[e1,e2,ih']
   split
   ·have hm:=(R.make_nx hk).2
    have hle:=R.nx_mono (show i+1≤k by omega) (by omega)
    funext c
    unfold putH
    by_cases c1:c=(T k).nx
    ·rw[if_pos c1,if_neg (by omega),if_pos c1]
    ·rw[if_neg c1]
     by_cases c2:c=(T i).nx
     ·rw[if_pos c2,if_pos c2]
     ·rw[if_neg c2,if_neg c2,if_neg c1]
   ·rfl
theorem make_inv (R:Run P ih ops n tm hp nx T) (hc:Closed ops L) (I:Inv P ops n hp T r w a L r' a' w') {i:Nat} {o:Oper} (ho:ops[i]?=some o) (hL:L i=false) (hdst:dstOk o.dst n=true)
  (h2:∀ t,o.dst=some t→∀ j,i<j→(ops[j]?).bind (·.dst)=some t→L j=false) {v:AV} (hS:Stp P ih ops T i o v) (hk:isK ops T .make i) (hnc:¬ isK ops T .chain i) {b:Blk}
  (hb:headB (T (i+1)).pend=b) {obj:Obj} {u:Value}
  (hu:∀ s:Rho,(below r' (T i).nx).le s→s (T i).nx=some ⟨w'.heap.size,0,0,false⟩→Rel s v u∧BOk s (w'.alloc obj) ⟨w'.heap.size,0,0,false⟩ b) :
  Inv P ops n hp T r w a (setL L i) (r'.put (T i).nx ⟨w'.heap.size,0,0,false⟩) (a'.put o.dst u) (w'.alloc obj):=by
 have hi:=(R.make_nx hk).1
 have hnx:=(R.make_nx hk).2
 have hlat:=later R hc hL (.inl hk)
 have hle:=lc_le (ops:=ops) hL hlat
 have hlc:lc ops T (setL L i) ops.size=lc ops T L ops.size:=lc_set_other hnc _
 have hnew:r' (T i).nx=none:=by
  cases h:r' (T i).nx with
  | none=>rfl
  | some y =>
   rcases names R I hi hL hle (b:=(T i).nx) (by rw[h];simp) with h | ⟨j,h1,h2,h3,h4,h5,h6⟩ <;> omega
 have hrr:=Rho.put_le (r:=r') ⟨w'.heap.size,0,0,false⟩ hnew
 have hput:∀ c,c≠(T i).nx→(r'.put (T i).nx ⟨w'.heap.size,0,0,false⟩) c=r' c:=fun c hc=>by unfold Rho.put;rw[if_neg hc]
 have hsame:=Rho.put_same r' (T i).nx ⟨w'.heap.size,0,0,false⟩
 have hx:Rel (below (r'.put (T i).nx ⟨w'.heap.size,0,0,false⟩) (T (i+1)).nx) v u :=
  (hu _ (below_mono hrr (by omega)) (by unfold below;rw[if_pos (by omega)];exact hsame)).1
 obtain⟨s1,s2⟩:=slot_step R I.slot I.size hrr ho hdst h2 hS hx
 refine { size:=s1,defs:=(put_defers _ _ _).trans I.defs,slot:=s2,gam:=fun k h1 h2=>?_,real:=fun c x hcx=>?_,ext:=I.ext.trans (Ext.alloc hnew 0) I.fr.size,fr:=I.fr.trans I.ext (Fr.alloc r' w' obj),dom:=fun c hcx=>?_,apt:=fun j h1 h2 h3=>?_,low:=fun c g1 g2=>?_ }
 ·rw[hlc] at h1
  by_cases hki:k≤i
  ·have hm:=R.nx_mono hki (by omega)
   have e:below (r'.put (T i).nx ⟨w'.heap.size,0,0,false⟩) (T k).nx=below r' (T k).nx:=by
    funext c;unfold below
    split
    ·exact hput c (by omega)
    ·rfl
   rw[hd_make_low k hki,e]
   exact (I.gam k h1 h2).more obj
  ·have hm:=R.nx_mono (show i+1≤k by omega) h2
   have e:below (r'.put (T i).nx ⟨w'.heap.size,0,0,false⟩) (T k).nx=(below r' (T k).nx).put (T i).nx ⟨w'.heap.size,0,0,false⟩:=by
    funext c
    by_cases hcn:c=(T i).nx
    ·subst hcn;rw[Rho.put_same];unfold below;rw[if_pos (by omega)];exact hsame
    ·have:((below r' (T k).nx).put (T i).nx ⟨w'.heap.size,0,0,false⟩) c=below r' (T k).nx c:=by unfold Rho.put;rw[if_neg hcn]
     rw[this];unfold below;rw[hput c hcn]
   rw[hd_make_high R hL hk hnc hlat hb k (by omega) h2,e]
   refine (I.gam k h1 h2).alloc (by unfold below;rw[hnew];split <;> rfl) obj b 0 (hu _ (fun c x hcx=>?_) (Rho.put_same _ _ _)).2
   obtain⟨q1,q2⟩:=below_some hcx
   unfold Rho.put;rw[if_neg (by omega)]
   unfold below;rw[if_pos (by omega)];exact q2
 ·rw[World.size_alloc]
  by_cases hcn:c=(T i).nx
  ·subst hcn;rw[hsame] at hcx;injection hcx with hcx;subst hcx;show w'.heap.size<_;omega
  ·rw[hput c hcn] at hcx;have:=I.real c x hcx;omega
 ·rw[hlc]
  by_cases hcn:c=(T i).nx
  ·exact .inr ⟨i,hle,hi,hk,setL_same L i,hcn⟩
  ·rw[hput c hcn] at hcx
   rcases I.dom c hcx with h | ⟨j,q1,q2,q3,q4,q5⟩
   ·exact .inl h
   ·exact .inr ⟨j,q1,q2,q3,by unfold setL;split <;> first | rfl | exact q4,q5⟩
 ·rw[hlc] at h1
  by_cases hji:j=i
  ·subst hji
   refine⟨_,hsame,rfl,fun c x hcn hcx e=>?_⟩
   rw[hput c hcn] at hcx
   have:=I.real c x hcx
   have e':x.blk=w'.heap.size:=e
   omega
  ·rw[setL_other L hji] at h3
   obtain⟨y,q1,q2,q3⟩:=I.apt j h1 h2 h3
   refine⟨y,hrr _ _ q1,q2,fun c x hcn hcx=>?_⟩
   by_cases hci:c=(T i).nx
   ·subst hci;rw[hsame] at hcx;injection hcx with hcx;subst hcx
    have:=I.real _ y q1
    show w'.heap.size≠y.blk
    omega
   ·rw[hput c hci] at hcx;exact q3 c x hcn hcx
 ·have hne:c≠i:=fun e=>hnc (e ▸ g2)
  exact I.low c (by rw[← setL_other L hne];exact g1) g2
end
end Go.Proofs.YtbdbhdcbdfbnnaaGreatDoor.Ev
set_option linter.unusedVariables false
set_option linter.unusedSimpArgs false
namespace Go.Proofs.YtbdbhdcbdfbnnaaGreatDoor.Ev
def mergeR (r1 r':Rho) (m:Nat):Rho:=fun b=>if b<m then r1 b else r' b
theorem mergeR_low {r1 r':Rho} {m b:Nat} (h:b<m):mergeR r1 r' m b=r1 b:=by unfold mergeR;rw[if_pos h]
theorem mergeR_high {r1 r':Rho} {m b:Nat} (h:¬ b<m):mergeR r1 r' m b=r' b:=by unfold mergeR;rw[if_neg h]
section
variable {P : Program} {ih : K} {ops : Array Oper} {n nx : Nat} {tm : Tr AV} {hp : Hp} {T : Nat → Ds} {L : Nat → Bool} {r r' r1 : Rho} {w w' w'' : World} {a a' : Act}
open Classical in
theorem hd_chain_high (R:Run P ih ops n tm hp nx T) (h0:∀ b k,getB hp b=some k→b<nx) (hlow:∀ c,L c=true→isK ops T .chain c→∀ b k,getB (T (c+1)).hp b=some k→b<(T (c+1)).nx)
  {i:Nat} (hL:L i=false) (hk:isK ops T .chain i) (hnm:¬ isK ops T .make i) (hlat:∀ c,i<c→isK ops T .chain c→L c=false) (hg:∀ b k,getB (T (i+1)).hp b=some k→b<(T (i+1)).nx) :
  ∀ k,i<k→k≤ops.size→hd ops hp T (setL L i) k=fun b=>if b<(T (i+1)).nx then getB (T (i+1)).hp b else hd ops hp T L k b:=by
 intro k
 induction k with
 | zero=>intro h;omega
 | succ k ihk =>
  intro h1 h2
  by_cases e:k=i
  ·subst e
   have e1:hd ops hp T (setL L k) (k+1)=getB (T (k+1)).hp:=by
    conv=>lhs;unfold hd
    rw[if_pos ⟨setL_same L k,hk⟩]
   rw[e1]
   funext b
   split
   ·rfl
   ·rename_i hb
    have n1:getB (T (k+1)).hp b=none:=by
     cases hq:getB (T (k+1)).hp b with
     | none=>rfl
     | some kk=>exact absurd (hg b kk hq) hb
    have n2:hd ops hp T L (k+1) b=none:=by
     cases hq:hd ops hp T L (k+1) b with
     | none=>rfl
     | some kk=>exact absurd (hd_dom R h0 hlow (k+1) h2 b kk hq) hb
    rw[n1,n2]
  ·have ih':=ihk (by omega) (by omega)
   have hs:setL L i k=L k:=setL_other L e
   conv=>lhs;unfold hd
   rw[hs,if_neg fun h=>by rw[hlat k (by omega) h.2] at h;exact absurd h.1 (by decide),ih']
   have e2:∀ b,hd ops hp T L (k+1) b=(if L k=true∧isK ops T .make k then putH (hd ops hp T L k) (T k).nx (headB (T (k+1)).pend) else hd ops hp T L k) b:=fun b=>by
    conv=>lhs;unfold hd
    rw[if_neg fun h=>by rw[hlat k (by omega) h.2] at h;exact absurd h.1 (by decide)]
   funext b
   rw[e2 b]
   split
   ·have hle:=R.nx_mono (show i+1≤k by omega) (by omega)
    unfold putH
    by_cases c1:b=(T k).nx
    ·rw[if_pos c1,if_neg (by omega),if_pos c1]
    ·rw[if_neg c1,if_neg c1]
   ·rfl
theorem chain_inv (R : Run P ih ops n tm hp nx T) (h0 : ∀ b k, getB hp b = some k → b < nx) (hf : Fresh nx r) (hc : Closed ops L) (I : Inv P ops n hp T r w a L r' a' w') {i : Nat} {o : Oper} (ho : ops[i]? = some o) (hL : L i = false) (hdst : dstOk o.dst n = true)
    (h2 : ∀ t, o.dst = some t → ∀ j, i < j → (ops[j]?).bind (·.dst) = some t → L j = false) {v : AV} (hS : Stp P ih ops T i o v) (hk : isK ops T .chain i) (hnm : ¬ isK ops T .make i) {u : Value}
    (hu : Rel r1 v u) (E : Ext (below r' (T i).nx) r1 w') (F : Fr (below r' (T i).nx) w' w'') (G : Gam (getB (T (i + 1)).hp) r1 w'') (hf1 : Fresh (T (i + 1)).nx r1) :
    Inv P ops n hp T r w a (setL L i) (mergeR r1 r' (T (i + 1)).nx) (a'.put o.dst u) w'' := by
  have hi : i < ops.size := (Array.getElem?_eq_some_iff.1 ho).1
  have hmi := R.nx_le hi
  have hn0 : nx ≤ (T i).nx := by have := R.nx_mono (Nat.zero_le i) (by omega); rw [R.start] at this; exact this
  have hlat := later R hc hL (.inr hk)
  have hle := lc_le (ops := ops) hL hlat
  have hlc : lc ops T (setL L i) ops.size = i + 1 := lc_set_same hk _ hi fun j q1 _ q3 => hlat j q1 q3
  have hfr1 : ∀ {b : Nat} {x : BI}, r1 b = some x → b < (T (i + 1)).nx := fun {b x} h => by
    by_cases hb : b < (T (i + 1)).nx
    · exact hb
    · rw [hf1 b (by omega)] at h; exact absurd h (by simp)
  have hg : ∀ b k, getB (T (i + 1)).hp b = some k → b < (T (i + 1)).nx := fun b k h => by
    obtain ⟨x, h1, _⟩ := G.blk b k h; exact hfr1 h1
  have hrr : r'.le (mergeR r1 r' (T (i + 1)).nx) := fun b x hb => by
    rcases names R I hi hL hle (b := b) (by rw [hb]; simp) with h | ⟨j, q1, q2, q3, q4, q5, q6⟩
    · rw [mergeR_low (by omega)]
      exact E.le _ _ (by unfold below; rw [if_pos h]; exact hb)
    · rw [mergeR_high (by omega)]; exact hb
  have hr1 : ∀ m, (T (i + 1)).nx ≤ m → r1.le (below (mergeR r1 r' (T (i + 1)).nx) m) := fun m hm b x hb => by
    have := hfr1 hb
    unfold below; rw [if_pos (by omega), mergeR_low this]; exact hb
  obtain ⟨s1, s2⟩ := slot_step R I.slot I.size hrr ho hdst h2 hS (hu.mono (hr1 _ (Nat.le_refl _)) _ _)
  have HD := hd_chain_high R h0 I.low hL hk hnm hlat hg
  -- what was made and is not yet handed to a call lies apart
  have sep : ∀ j y, i < j → j < ops.size → isK ops T .make j → L j = true → r' (T j).nx = some y → ∀ b x, r1 b = some x → x.blk ≠ y.blk := by
    intro j y q1 q2 q3 q4 q5 b x hb
    obtain ⟨y', p1, p2, p3⟩ := I.apt j (by omega) q3 q4
    rw [q5] at p1; injection p1 with p1; subst p1
    have hnj := R.nx_mono (show i + 1 ≤ j by omega) (by omega)
    have low : ∀ c z, below r' (T i).nx c = some z → z.blk ≠ y.blk := fun c z hz => by
      obtain ⟨e1, e2⟩ := below_some hz
      exact p3 c z (by omega) e2
    cases hq : below r' (T i).nx b with
    | some z =>
      have := E.le _ _ hq
      rw [hb] at this; injection this with this; subst this
      exact low b _ hq
    | none =>
      obtain ⟨e1, e2⟩ := E.new b x hq hb
      rcases e2 with e2 | ⟨b0, x0, e3, e4, e5⟩
      · have := I.real _ _ q5; omega
      · rw [← e5]; exact low b0 x0 e3
  have kept : ∀ j y, i < j → j < ops.size → isK ops T .make j → L j = true → r' (T j).nx = some y → w''.heap[y.blk]? = w'.heap[y.blk]? := by
    intro j y q1 q2 q3 q4 q5
    refine F.blk _ (I.real _ _ q5) fun b x hb _ => ?_
    exact sep j y q1 q2 q3 q4 q5 b x (E.le _ _ hb)
  have high : ∀ {b : Nat} {x : BI}, ¬ b < (T (i + 1)).nx → r' b = some x → ∃ j, i < j ∧ j < ops.size ∧ isK ops T .make j ∧ L j = true ∧ b = (T j).nx := fun {b x} hb hx => by
    rcases names R I hi hL hle (b := b) (by rw [hx]; simp) with h | ⟨j, q1, q2, q3, q4, q5, q6⟩
    · omega
    · exact ⟨j, q1, q2, q3, q4, q5⟩
  have EE : Ext r (below r' (T i).nx) w := by
    refine ⟨fun b x hb => ?_, fun b x e1 e2 => I.ext.new b x e1 (below_some e2).2⟩
    have : b < nx := by
      by_cases hlt : b < nx
      · exact hlt
      · rw [hf b (by omega)] at hb; exact absurd hb (by simp)
    unfold below; rw [if_pos (by omega)]; exact I.ext.le _ _ hb
  have E1 := EE.trans E I.fr.size
  refine { size := s1, defs := (put_defers _ _ _).trans I.defs, slot := s2, gam := fun k g1 g2 => ?_, real := fun c x hcx => ?_, ext := ⟨Rho.le_trans I.ext.le hrr, fun b x e1 e2 => ?_⟩, fr := I.fr.trans EE F, dom := fun c hcx => ?_, apt := fun j g1 g2 g3 => ?_, low := fun c g1 g2 => ?_ }
  · rw [hlc] at g1
    have hm := R.nx_mono g1 g2
    have gk := I.gam k (by omega) g2
    rw [HD k (by omega) g2]
    have up : ∀ {c : Nat} {x : BI}, below (mergeR r1 r' (T (i + 1)).nx) (T k).nx c = some x → (c < (T (i + 1)).nx → r1 c = some x) ∧ (¬ c < (T (i + 1)).nx → below r' (T k).nx c = some x) := fun {c x} h => by
      obtain ⟨e1, e2⟩ := below_some h
      refine ⟨fun hc => ?_, fun hc => ?_⟩
      · rwa [mergeR_low hc] at e2
      · rw [mergeR_high hc] at e2; unfold below; rw [if_pos e1]; exact e2
    refine ⟨fun b kk hb => ?_, fun b x hb => ?_, fun b kk x b' kk' x' p1 p2 p3 p4 p5 p6 p7 => ?_⟩
    · by_cases hlt : b < (T (i + 1)).nx
      · have hb : (if b < (T (i + 1)).nx then getB (T (i + 1)).hp b else hd ops hp T L k b) = some kk := hb
        rw [if_pos hlt] at hb
        obtain ⟨x, e1, e2⟩ := G.blk b kk hb
        exact ⟨x, hr1 _ hm _ _ e1, e2.kept (hr1 _ hm) rfl⟩
      · have hb : (if b < (T (i + 1)).nx then getB (T (i + 1)).hp b else hd ops hp T L k b) = some kk := hb
        rw [if_neg hlt] at hb
        obtain ⟨x, e1, e2⟩ := gk.blk b kk hb
        obtain ⟨j, q1, q2, q3, q4, q5⟩ := high hlt (below_some e1).2
        have e3 := (below_some e1).2
        rw [q5] at e3
        exact ⟨x, below_mono hrr (Nat.le_refl _) _ _ e1, e2.kept (below_mono hrr (Nat.le_refl _)) (kept j x q1 q2 q3 q4 e3)⟩
    · by_cases hlt : b < (T (i + 1)).nx
      · exact G.real _ _ ((up hb).1 hlt)
      · exact Nat.lt_of_lt_of_le (gk.real _ _ ((up hb).2 hlt)) F.size
    · have p1 : (if b < (T (i + 1)).nx then getB (T (i + 1)).hp b else hd ops hp T L k b) = some kk := p1
      have p4 : (if b' < (T (i + 1)).nx then getB (T (i + 1)).hp b' else hd ops hp T L k b') = some kk' := p4
      by_cases hb : b < (T (i + 1)).nx <;> by_cases hb' : b' < (T (i + 1)).nx
      · rw [if_pos hb] at p1; rw [if_pos hb'] at p4
        exact G.sep b kk x b' kk' x' p1 p2 ((up p3).1 hb) p4 ((up p5).1 hb') p6 p7
      · obtain ⟨e1, e2⟩ := below_some ((up p5).2 hb')
        obtain ⟨j, q1, q2, q3, q4, q5⟩ := high hb' e2
        rw [q5] at e2
        exact absurd p7.symm (sep j x' q1 q2 q3 q4 e2 b x ((up p3).1 hb))
      · obtain ⟨e1, e2⟩ := below_some ((up p3).2 hb)
        obtain ⟨j, q1, q2, q3, q4, q5⟩ := high hb e2
        rw [q5] at e2
        exact absurd p7 (sep j x q1 q2 q3 q4 e2 b' x' ((up p5).1 hb'))
      · rw [if_neg hb] at p1; rw [if_neg hb'] at p4
        exact gk.sep b kk x b' kk' x' p1 p2 ((up p3).2 hb) p4 ((up p5).2 hb') p6 p7
  · by_cases hlt : c < (T (i + 1)).nx
    · rw [mergeR_low hlt] at hcx; exact G.real _ _ hcx
    · rw [mergeR_high hlt] at hcx; exact Nat.lt_of_lt_of_le (I.real _ _ hcx) F.size
  · by_cases hlt : b < (T (i + 1)).nx
    · rw [mergeR_low hlt] at e2; exact E1.new b x e1 e2
    · rw [mergeR_high hlt] at e2; exact I.ext.new b x e1 e2
  · rw [hlc]
    by_cases hlt : c < (T (i + 1)).nx
    · exact .inl hlt
    · rw [mergeR_high hlt] at hcx
      rcases names R I hi hL hle hcx with h | ⟨j, q1, q2, q3, q4, q5, q6⟩
      · omega
      · exact .inr ⟨j, by omega, q2, q3, by rw [setL_other L (by omega)]; exact q4, q5⟩
  · rw [hlc] at g1
    rw [setL_other L (by omega)] at g3
    obtain ⟨y, q1, q2, q3⟩ := I.apt j (by omega) g2 g3
    refine ⟨y, hrr _ _ q1, q2, fun c x hcn hcx => ?_⟩
    by_cases hlt : c < (T (i + 1)).nx
    · rw [mergeR_low hlt] at hcx
      exact sep j y (by omega) (R.make_nx g2).1 g2 g3 q1 c x hcx
    · rw [mergeR_high hlt] at hcx; exact q3 c x hcn hcx
  · by_cases e : c = i
    · subst e; exact hg
    · exact I.low c (by rw [← setL_other L e]; exact g1) g2
end
end Go.Proofs.YtbdbhdcbdfbnnaaGreatDoor.Ev
set_option linter.unusedVariables false
set_option linter.unusedSimpArgs false
namespace Go.Proofs.YtbdbhdcbdfbnnaaGreatDoor.Ev
section
variable {P : Program} {ih : K} {ops : Array Oper} {n nx : Nat} {tm : Tr AV} {hp : Hp} {T : Nat → Ds} {L : Nat → Bool} {r r' : Rho} {w w' : World} {a a' : Act}
def Rd (P:Program) (o:Oper) (q:Tr AV) (v:AV) (h:Hp):Prop:=∃ hp' nx',opX o.op P q h 0=.ok v hp' nx'
theorem readIs_ok {o:Oper} {q:Tr AV} {v:AV} {h:Hp} (hr:readIs P o q v h=true):Rd P o q v h:=by
 unfold readIs at hr
 split at hr
 ·rename_i u hp' nx' hX
  rw[eqV_eq hr] at hX
  exact⟨hp',nx',hX⟩
 ·exact absurd hr (by decide)
theorem Stp.past {i:Nat} {o:Oper} {v:AV} (ho:ops[i]?=some o) (h:Stp P ih ops T i o v) :
  (isK ops T .chain i∧(T (i+1)).chs=i :: (T i).chs∧(T (i+1)).hist=(T i).hp :: (T i).hist∧waOk P (anc ops i) (T (i+1)).hp (T i).wa=true) ∨
  (¬ isK ops T .chain i∧(T (i+1)).chs=(T i).chs∧(T (i+1)).hist=(T i).hist∧(T (i+1)).hp=(T i).hp):=by
 cases h with
 | no hw hT=>exact .inr ⟨isK_no ho hw,by rw[hT],by rw[hT],by rw[hT]⟩
 | pure _ _ _ hw hc hX hT=>exact .inr ⟨fun h=>absurd ((isK_iff ho hw hc).1 h) (by simp),by rw[hT],by rw[hT],by rw[hT]⟩
 | calm _ _ _ hw hc hX hT=>exact .inr ⟨fun h=>absurd ((isK_iff ho hw hc).1 h) (by simp),by rw[hT],by rw[hT],by rw[hT]⟩
 | make _ _ _ _ hw hc hX hb hT=>exact .inr ⟨fun h=>absurd ((isK_iff ho hw hc).1 h) (by simp),by rw[hT],by rw[hT],by rw[hT]⟩
 | read _ _ _ hw hc hX hk hT=>exact .inr ⟨fun h=>absurd ((isK_iff ho hw hc).1 h) (by simp),by rw[hT],by rw[hT],by rw[hT]⟩
 | chain _ _ _ hw hc h1 h2 hX hn hwa hT=>exact .inl ⟨(isK_iff ho hw hc).2 rfl,by rw[hT],by rw[hT],by rw[hT];exact hwa⟩
theorem Stp.wa {i:Nat} {o:Oper} {v:AV} (h:Stp P ih ops T i o v):∀ x∈(T i).wa,x∈(T (i+1)).wa:=by
 intro x hx
 cases h with
 | no hw hT=>rw[hT];exact hx
 | pure _ _ _ hw hc hX hT=>rw[hT];exact hx
 | calm _ _ _ hw hc hX hT=>rw[hT];exact hx
 | make _ _ _ _ hw hc hX hb hT=>rw[hT];exact hx
 | read _ _ _ hw hc hX hk hT=>rw[hT];exact List.mem_cons_of_mem _ hx
 | chain _ _ _ hw hc h1 h2 hX hn hwa hT=>rw[hT];exact hx
theorem Run.wa (R : Run P ih ops n tm hp nx T) {x : Wa} {i : Nat} (hx : x ∈ (T i).wa) : ∀ k, i ≤ k → k ≤ ops.size → x ∈ (T k).wa := by
  intro k
  induction k with
  | zero => intro h _; have : i = 0 := by omega
            subst this; exact hx
  | succ k ihk =>
    intro h1 h2
    by_cases e : i = k + 1
    · subst e; exact hx
    · obtain ⟨_, v, hS⟩ := R.cases (Array.getElem?_eq_getElem (show k < ops.size by omega))
      exact hS.wa x (ihk (by omega) (by omega))
theorem waOk_ok {m:Nat} {h:Hp} : ∀ {l:List Wa},waOk P m h l=true→∀ x∈l,bit m x.i=true∨(Rd P x.o x.tm x.v h∧lowV x.nx x.v=true):=by
 intro l
 induction l with
 | nil=>intro _ x hx;exact absurd hx (by simp)
 | cons y l ih0 =>
  intro hh x hx
  have h':sel (or (bit m y.i) (and (readIs P y.o y.tm y.v h) (lowV y.nx y.v))) (waOk P m h l) false=true:=hh
  cases hb:or (bit m y.i) (and (readIs P y.o y.tm y.v h) (lowV y.nx y.v)) with
  | false=>rw[hb] at h';exact absurd (show false=true from h') (by decide)
  | true =>
   rw[hb] at h'
   rcases List.mem_cons.1 hx with rfl | hx
   ·cases hbit:bit m x.i with
    | true=>exact .inl rfl
    | false =>
     rw[hbit] at hb
     obtain⟨q1,q2⟩:=and2 (show and (readIs P x.o x.tm x.v h) (lowV x.nx x.v)=true from hb)
     exact .inr ⟨readIs_ok q1,q2⟩
   ·exact ih0 h' x hx
theorem back {m:Nat} {o:Oper} {q:Tr AV} {v:AV} (R:Run P ih ops n tm hp nx T) (ha:∀ j,bit m j=true→L j=true):∀ k,k≤ops.size→backOk P o q v m (T k).chs (T k).hist=true→Rd P o q v (T k).hp→Rd P o q v (T (lc ops T L k)).hp:=by
 intro k
 induction k with
 | zero=>intro _ _ h;exact h
 | succ k ihk =>
  intro h1 h2 h3
  have ho:ops[k]?=some ops[k]:=Array.getElem?_eq_getElem (by omega)
  obtain⟨_,u,hS⟩:=R.cases ho
  unfold lc
  rcases hS.past ho with ⟨c1,c2,c3,c4⟩ | ⟨c1,c2,c3,c4⟩
  ·by_cases hLk:L k=true
   ·rw[if_pos ⟨hLk,c1⟩];exact h3
   ·rw[if_neg fun h=>hLk h.1]
    rw[c2,c3] at h2
    have h4:sel (bit m k) true (sel (readIs P o q v (T k).hp) (backOk P o q v m (T k).chs (T k).hist) false)=true:=h2
    cases hb:bit m k with
    | true=>exact absurd (ha k hb) hLk
    | false =>
     rw[hb] at h4
     have h5:sel (readIs P o q v (T k).hp) (backOk P o q v m (T k).chs (T k).hist) false=true:=h4
     cases hr:readIs P o q v (T k).hp with
     | false=>rw[hr] at h5;exact absurd (show false=true from h5) (by decide)
     | true=>rw[hr] at h5;exact ihk (by omega) h5 (readIs_ok hr)
  ·rw[if_neg fun h=>c1 h.2]
   rw[c2,c3] at h2;rw[c4] at h3
   exact ihk (by omega) h2 h3
theorem lc_const {i : Nat} : ∀ k, i ≤ k → (∀ j, i ≤ j → j < k → ¬ (L j = true ∧ isK ops T .chain j)) → lc ops T L k = lc ops T L i := by
  intro k
  induction k with
  | zero => intro h _; have : i = 0 := by omega
            subst this; rfl
  | succ k ihk =>
    intro h1 h2
    by_cases e : i = k + 1
    · subst e; rfl
    · conv => lhs; unfold lc
      rw [if_neg (h2 k (by omega) (by omega))]
      exact ihk (by omega) fun j q1 q2 => h2 j q1 (by omega)
def roOf (s:Rho):Rho:=fun b=>match s b with | some x=>if x.ro=true then some x else none | none=>none
theorem roOf_some {s:Rho} (b:Nat) (x:BI) (h:roOf s b=some x):s b=some x∧x.ro=true:=by
 unfold roOf at h
 split at h
 ·split at h
  ·rename_i hb hr;injection h with h;subst h;exact⟨hb,hr⟩
  ·exact absurd h (by simp)
 ·exact absurd h (by simp)
theorem roOf_glob {P:Program} {s:Rho} (h:Glob P s):Glob P (roOf s):=fun g hg=>by
 obtain⟨xt,h1⟩:=h g hg
 refine⟨xt,?_⟩
 unfold roOf
 rw[h1]
 rfl
theorem step_ok (hk:KOk P ih) (R:Run P ih ops n tm hp nx T) (hg:Glob P r) (h0:∀ b k,getB hp b=some k→b<nx) (hf:Fresh nx r) (hc:Closed ops L) (I:Inv P ops n hp T r w a L r' a' w') {i:Nat} {o:Oper} (ho:ops[i]?=some o) (hL:L i=false)
  (hready:∀ e∈o.after.toList,Region.binds .any e=true→L e.on=true) {N:Act→World→Prop} {Q:Exit→Act→World→Prop} (hN:∀ r'' a'' w'',Inv P ops n hp T r w a (setL L i) r'' a'' w''→N a'' w''):wpOp P ops Q i N a' w':=by
 have hi:i<ops.size:=(Array.getElem?_eq_some_iff.1 ho).1
 have ha:=closed_anc hc i fun o' ho'=>by rw[ho] at ho';injection ho' with ho';subst ho';exact hready
 have ht:=acO_ok R hc I ho hL ha
 have hn0:∀ k,k≤ops.size→nx≤(T k).nx:=fun k hk=>by have:=R.nx_mono (Nat.zero_le k) hk;rw[R.start] at this;exact this
 have gl:∀ m,nx≤m→Glob P (below r' m):=fun m hm c hcg=>by
  obtain⟨xt,h1⟩:=hg c hcg
  have:c<nx:=by
   by_cases hlt:c<nx
   ·exact hlt
   ·rw[hf c (by omega)] at h1;exact absurd h1 (by simp)
  exact⟨xt,by unfold below;rw[if_pos (by omega)];exact I.ext.le _ _ h1⟩
 obtain⟨hdst,v,hS⟩:=R.cases ho
 have h2:∀ t,o.dst=some t→∀ j,i<j→(ops[j]?).bind (·.dst)=some t→L j=false:=fun t ht=>(looks R hc ho hL ha (.inr ht)).2
 have hwd:∀ {t},wanted? ops o.guard (qAt ops T i o)=some t→Region.wanted o (yielded ops a'.tmps)=t:=fun {t} h=>by
  rw[← acO_wanted I.size (o:=o)];exact wanted_ok ht h
 simp only[wpOp,ho]
 have hS':=hS
 cases hS with
 | no hw hT =>
  rw[hwd hw]
  exact hN _ _ _ (quiet R I ho hdst h2 hS' rel_undef (isK_no ho hw) (isK_no ho hw))
 | pure _ hp' nx' hw hcl hX hT =>
  rw[hwd hw,if_pos rfl]
  have gl0:Gam (getB .leaf) (below r' (T i).nx) w':=⟨fun b k h=>absurd (show getP (pos b) .leaf=some k from h) (by rw[getP_leaf];simp),fun b x h=>I.real b x (below_some h).2,fun b k x b' k' x' h=>absurd (show getP (pos b) .leaf=some k from h) (by rw[getP_leaf];simp)⟩
  obtain⟨x,hrun,hx⟩:=still_ok ht (gl _ (hn0 i (by omega))) gl0 (.inl hcl) hX
  rw[acO_exec I.size fun cs b e=>by rw[e] at hcl;exact Cl.noConfusion hcl] at hrun
  refine .inl ?_
  unfold Oper.wp
  rw[hrun]
  have e:(T (i+1)).nx=(T i).nx:=by rw[hT]
  exact hN _ _ _ (quiet R I ho hdst h2 hS' (by rw[e];exact hx) (fun h=>absurd ((isK_iff ho hw hcl).1 h) (by simp)) (fun h=>absurd ((isK_iff ho hw hcl).1 h) (by simp)))
 | calm _ hp' nx' hw hcl hX hT =>
  rw[hwd hw,if_pos rfl]
  obtain⟨f,args,hX,hv,hla,hlv⟩:=hX
  have gl0:Gam (getB .leaf) (below r' (T i).nx) w':=⟨fun b k h=>absurd (show getP (pos b) .leaf=some k from h) (by rw[getP_leaf];simp),fun b x h=>I.real b x (below_some h).2,fun b k x b' k' x' h=>absurd (show getP (pos b) .leaf=some k from h) (by rw[getP_leaf];simp)⟩
  have hsel:∀ cs b,o.op≠.select cs b:=fun cs b e=>by rw[e] at hcl;exact Cl.noConfusion hcl
  have hres:=opX_ok (o:=o) ht (gl _ (hn0 i (by omega))) gl0 (below_fresh r' (T i).nx)
  rw[hX] at hres
  obtain⟨us,hrun,hus⟩:=hres
  rw[acO_exec I.size hsel] at hrun
  have le0:∀ (s t:Rho),(below s 0).le t:=fun s t b x hb=>absurd (below_some hb).1 (by omega)
  have hro:∀ b x,roOf (below r' (T i).nx) b=some x→below r' (T i).nx b=some x∧x.ro=true:=roOf_some
  have hcl':=(hk.call _ _ _ _ _ _ _ _ _ hv (roOf (below r' (T i).nx)) w' us ((lowAs_ok hla hus).mono (le0 _ _) _ _) (roOf_glob (gl _ (hn0 i (by omega))))
   ⟨fun b k h=>absurd (show getP (pos b) .leaf=some k from h) (by rw[getP_leaf];simp),fun b x h=>gl0.real b x (hro b x h).1,fun b k x b' k' x' h=>absurd (show getP (pos b) .leaf=some k from h) (by rw[getP_leaf];simp)⟩
   (fun b hb=>by
    cases h:roOf (below r' (T i).nx) b with
    | none=>rfl
    | some x=>have:=(hro b x h).1;rw[below_fresh r' (T i).nx b hb] at this;exact absurd this (by simp))).1 rfl
  refine .inl ?_
  unfold Oper.wp
  rw[hrun]
  refine hcl'.mono ?_
  rintro e w1 ⟨x,r1,rfl,hx,E,F,G,hf1⟩
  have hh:∀ i,i<w'.heap.size→w1.heap[i]?=w'.heap[i]?:=fun j hj=>F.blk j hj fun b y hb hf'=>by
   have:=(hro b y hb).2;rw[this] at hf';exact absurd hf' (by decide)
  have e:(T (i+1)).nx=(T i).nx:=by rw[hT]
  exact hN _ _ _ (quiet R (I.grow F.os F.tape F.output F.size hh) ho hdst h2 hS' ((lowA_ok hlv hx).mono (le0 _ _) _ _) (fun h=>absurd ((isK_iff ho hw hcl).1 h) (by simp)) (fun h=>absurd ((isK_iff ho hw hcl).1 h) (by simp)))
 | make _ hp' nx' b hw hcl hX hb hT =>
  rw[hwd hw,if_pos rfl]
  obtain⟨obj,u,hrun,hu⟩:=make_run ht (gl _ (hn0 i (by omega))) hcl hX hb w'
  rw[acO_exec I.size fun cs b e=>by rw[e] at hcl;exact Cl.noConfusion hcl] at hrun
  refine .inl ?_
  unfold Oper.wp
  rw[hrun]
  exact hN _ _ _ (make_inv R hc I ho hL hdst h2 hS' ((isK_iff ho hw hcl).2 rfl) (fun h=>absurd ((isK_iff ho hw hcl).1 h) (by simp)) (b:=b) (by rw[hT];rfl) hu)
 | read _ hp' nx' hw hcl hX hkb hT =>
  rw[hwd hw,if_pos rfl]
  have hnc:¬ isK ops T .chain i:=fun h=>absurd ((isK_iff ho hw hcl).1 h) (by simp)
  have hnm:¬ isK ops T .make i:=fun h=>absurd ((isK_iff ho hw hcl).1 h) (by simp)
  have hlcN:=(lc_spec (ops:=ops) (T:=T) (L:=L) ops.size).1
  have glc:=I.gam _ (Nat.le_refl _) hlcN
  have hlc:=hd_lc (L:=L) R ops.size
  have e:(T (i+1)).nx=(T i).nx:=by rw[hT]
  have key:∃ x,(execOp (acO (Oper.looksAt ops o) n a').eval o).run P w'=.ok (.value x) w'∧Rel (below r' (T (i+1)).nx) v x:=by
   rw[e]
   by_cases hlt:lc ops T L ops.size≤i
   ·obtain⟨h1,n1,hX'⟩ : Rd P o (qAt ops T i o) v (T (lc ops T L ops.size)).hp:=by
     rw[lc_const (i:=i) ops.size (by omega) fun j q1 q2=>(lc_spec (ops:=ops) (T:=T) (L:=L) ops.size).2.2 j (by omega) q2]
     exact back R ha i (by omega) hkb ⟨hp',nx',hX⟩
    have gi:Gam (getB (T (lc ops T L ops.size)).hp) (below r' (T i).nx) w':=by
     refine (I.gam i hlt (by omega)).sub fun b k hb=>?_
     rw[← hlc] at hb
     have hdom:=hd_dom R h0 I.low _ hlcN b k hb
     rw[hd_low R hdom i hlt (by omega) fun j q1 q2=>(lc_spec (ops:=ops) (T:=T) (L:=L) ops.size).2.2 j q1 (by omega)]
     exact hb
    exact still_ok ht (gl _ (hn0 i (by omega))) gi (.inr hcl) hX'
   ·obtain⟨c,hcq⟩ : ∃ c,lc ops T L ops.size=c+1:=⟨lc ops T L ops.size - 1,by omega⟩
    obtain⟨hLc,hcc⟩:=(lc_spec (ops:=ops) (T:=T) (L:=L) ops.size).2.1 c hcq
    have hci:c≠i:=fun e=>hnc (e ▸ hcc)
    have hmem:(⟨i,o,qAt ops T i o,v,(T i).nx⟩ : Wa)∈(T c).wa:=R.wa (i:=i+1) (by rw[hT];exact List.mem_cons_self) c (by omega) (by omega)
    obtain⟨oc,hoc,hwc,hclc⟩:=hcc
    obtain⟨_,vc,hSc⟩:=R.cases hoc
    rcases hSc.past hoc with ⟨_,_,_,c4⟩ | ⟨c1,_⟩
    ·rcases waOk_ok c4 _ hmem with hbit | ⟨⟨h1,n1,hX'⟩,hlow⟩
     ·have:=closed_anc' hc hLc hbit
      rw[show (L i=true)=(false=true) by rw[hL]] at this
      exact absurd this (by decide)
     ·rw[← hcq] at hX'
      rw[hlc] at glc
      have ht':=ht.mono (below_mono (Rho.le_refl r') (R.nx_mono (show i≤lc ops T L ops.size by omega) hlcN))
      obtain⟨x,q1,q2⟩:=still_ok ht' (gl _ (hn0 _ hlcN)) glc (.inr hcl) hX'
      refine⟨x,q1,(lowV_ok hlow q2).mono (fun b y hb=>?_) _ _⟩
      obtain⟨p1,p2⟩:=below_some hb
      unfold below;rw[if_pos p1];exact (below_some p2).2
    ·exact absurd ⟨oc,hoc,hwc,hclc⟩ c1
  obtain⟨x,hrun,hx⟩:=key
  rw[acO_exec I.size fun cs b e=>by rw[e] at hcl;exact Cl.noConfusion hcl] at hrun
  refine .inl ?_
  unfold Oper.wp
  rw[hrun]
  exact hN _ _ _ (quiet R I ho hdst h2 hS' hx hnm hnc)
 | chain _ hp' nx' hw hcl g1 g2 hX hn hwa hT =>
  rw[hwd hw,if_pos rfl]
  have hkc:isK ops T .chain i:=(isK_iff ho hw hcl).2 rfl
  have hnm:¬ isK ops T .make i:=fun h=>absurd ((isK_iff ho hw hcl).1 h) (by simp)
  have hlt:=lc_le (ops:=ops) hL (later R hc hL (.inr hkc))
  have g:Gam (getB (unpend (T i).pend (T i).hp)) (below r' (T i).nx) w':=by
   rw[hd_text R i (by omega),← hd_congr (L:=L) i fun j hj hkj=>by rw[R.chain_all hc hkc ha j hj hkj]]
   exact I.gam i hlt (by omega)
  have e1:(T (i+1)).hp=hp':=by rw[hT]
  have e2:(T (i+1)).nx=nx':=by rw[hT]
  have hsel:∀ cs b,o.op≠.select cs b:=fun cs b e=>by
   rw[e] at hX
   rcases hX with hX | ⟨f,args,hX,_⟩
   ·exact absurd (show Ev.R.no=_ from hX) (by simp)
   ·exact absurd (show Ev.R.no=_ from hX) (by simp)
  have hres:=opX_ok (o:=o) ht (gl _ (hn0 i (by omega))) g (below_fresh r' (T i).nx)
  refine .inl ?_
  rcases hX with hX | ⟨f,args,hX,hcall⟩
  ·rw[hX] at hres
   obtain⟨x,w1,r1,hrun,hx,E,F,G,hf1⟩:=hres
   rw[acO_exec I.size hsel] at hrun
   have hI:=chain_inv R h0 hf hc I ho hL hdst h2 hS' hkc hnm hx E F (by rw[e1];exact G) (by rw[e2];exact hf1)
   unfold Oper.wp
   rcases hrun with hrun | ⟨hrun,rfl⟩
   ·rw[hrun];exact hN _ _ _ hI
   ·rw[hrun];exact hN _ _ _ hI
  ·rw[hX] at hres
   obtain⟨us,hrun,hus⟩:=hres
   rw[acO_exec I.size hsel] at hrun
   have hcl':=(hk.call _ _ _ _ _ _ _ _ _ hcall (below r' (T i).nx) w' us hus (gl _ (hn0 i (by omega))) g (below_fresh r' (T i).nx)).1 rfl
   unfold Oper.wp
   rw[hrun]
   refine hcl'.mono ?_
   rintro e w1 ⟨x,r1,rfl,hx,E,F,G,hf1⟩
   exact hN _ _ _ (chain_inv R h0 hf hc I ho hL hdst h2 hS' hkc hnm hx E F (by rw[e1];exact G) (by rw[e2];exact hf1))
end
end Go.Proofs.YtbdbhdcbdfbnnaaGreatDoor.Ev
