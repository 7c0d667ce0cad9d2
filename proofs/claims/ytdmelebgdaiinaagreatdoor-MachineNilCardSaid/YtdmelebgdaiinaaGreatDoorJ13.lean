/- The evaluator: all operations; rows of them. The evaluator: code. -/
import Derived.RangeFuncSeq
import Derived.RangeFuncLeaves
import Derived.RangeFuncRecord
import Derived.RangeFuncCalls
import Derived.OrdersIn
import Derived.Deep.Draws
import Derived.Test.YtdmelebgdaiinaaGreatDoorJ12
set_option linter.unusedVariables false
set_option linter.unusedSimpArgs false
set_option linter.unusedVariables false
set_option linter.unusedSimpArgs false
namespace Go.Proofs.YtdmelebgdaiinaaGreatDoor.Ev
section
variable {P : Program} {r : Rho} {n : Nat} {tm : Tr AV} {a : Act} {w : World} {o : Oper} {hp : Hp} {nx : Nat}
theorem builtin_ok (ht:TmOk r n tm a) (hg:Glob P r) (g:Gam (getB hp) r w) (hf:Fresh nx r) {b:Builtin} {xs:Array Operand} {ts:Array TypeId} (ho:o.op=.call ⟨.builtin b,xs,ts⟩) :
  ResOk P o a r w (xcBuiltin b xs ts P tm hp nx):=by
 refine runR_ok fun vs h=>?_
 cases b <;> first | exact trivial | skip
 case append=>exact append_ok ht hg g hf ho h
 case cap =>
  refine runR_ok fun e h1=>arg1_ok fun x hv=>pureR_ok g hf fun v h2=>?_
  subst hv;exact cap_ok ht hg ho h1 h h2
 case copy=>exact copy_ok ht hg g hf ho h
 case clear=>exact clear_ok ht hg g hf ho h
 case delete=>exact delete_ok ht hg g hf ho h
 case len =>
  refine runR_ok fun k h1=>arg1_ok fun x hv=>pureR_ok g hf fun v h2=>?_
  subst hv;exact len_ok ht hg g ho h1 h h2
 case max =>
  refine arg2_ok fun x y hv=>pureR_ok g hf fun v h2=>?_
  subst hv;exact max_ok ht hg ho h h2
 case min =>
  refine arg2_ok fun x y hv=>pureR_ok g hf fun v h2=>?_
  subst hv;exact min_ok ht hg ho h h2
theorem opX_ok (ht:TmOk r n tm a) (hg:Glob P r) (g:Gam (getB hp) r w) (hf:Fresh nx r):ResOk P o a r w (opX o.op P tm hp nx):=by
 cases hop:o.op <;> first | exact trivial | skip
 case move x=>exact pureR_ok g hf fun v h=>move_ok ht hg (.inl hop) h
 case assign x=>exact pureR_ok g hf fun v h=>move_ok ht hg (.inr hop) h
 case pick c x y=>exact pureR_ok g hf fun v h=>pick_ok ht hg hop h
 case alloc t=>exact alloc_ok g hf hop
 case box t x=>exact box_ok ht hg g hf hop
 case build t ps=>exact pureR_ok g hf fun v h=>build_ok ht hg hop h
 case buildSlice t m ps=>exact buildSlice_ok ht hg g hf hop
 case insert t m k v=>exact update_ok ht hg g hf (.inr hop)
 case load t x=>exact pureR_ok g hf fun v h=>load_ok ht hg g hop h
 case store t x v=>exact store_ok ht hg g hf hop
 case nilCheck x=>exact pureR_ok g hf fun v h=>nilCheck_ok ht hg hop h
 case binOp op t x y t'=>exact pureR_ok g hf fun v h=>bin_ok ht hg hop h
 case unOp op t x=>exact pureR_ok g hf fun v h=>un_ok ht hg hop h
 case convert s d x=>exact pureR_ok g hf fun v h=>conv_ok ht hg hop h
 case makeInterface t x=>exact pureR_ok g hf fun v h=>iface_ok ht hg hop h
 case makeFunc fn x y =>
  cases fn <;> first | exact trivial | exact pureR_ok g hf fun v h=>func_ok ht hg hop h
 case makeMap t x=>exact makeMap_ok g hf hop
 case makeSlice t x y=>exact makeSlice_ok ht hg g hf hop
 case slice t x lo hi mx=>exact pureR_ok g hf fun v h=>slice_ok ht hg hop h
 case fieldAddr s x f=>exact pureR_ok g hf fun v h=>fieldAddr_ok ht hg hop h
 case field s x f=>exact pureR_ok g hf fun v h=>field_ok ht hg hop h
 case indexAddr t x i=>exact pureR_ok g hf fun v h=>indexAddr_ok ht hg hop h
 case index t x i=>exact pureR_ok g hf fun v h=>index_ok ht hg hop h
 case lookup t x i ok=>exact pureR_ok g hf fun v h=>lookup_ok ht hg g hop h
 case mapUpdate t m k v=>exact update_ok ht hg g hf (.inl hop)
 case range t x=>exact range_ok ht hg g hf hop
 case next x s=>exact next_ok ht hg g hf hop
 case typeAssert x t' t ok=>exact pureR_ok g hf fun v h=>assert_ok ht hg hop h
 case extract x i=>exact pureR_ok g hf fun v h=>extract_ok ht hg hop h
 case call c =>
  obtain⟨callee,xs,ts⟩:=c
  cases callee with
  | value f=>exact value_ok ht hg g hf hop
  | invoke f name=>exact invoke_ok ht hg g hf hop
  | builtin b=>exact builtin_ok ht hg g hf hop
theorem slot_set (tm:Tr AV) (v:AV) (d t:Nat):slot (setP (some v) (pos (Nat.succ d)) tm) t=if t=d then v else slot tm t:=by
 unfold slot
 split
 ·rename_i h;subst h;rw[getP_setP_same]
 ·rename_i h;rw[getP_setP_other _ _ _ _ fun e=>h (by have:=pos_inj e;omega)]
theorem TmOk.put (ht:TmOk r n tm a) {v:AV} {x:Value} (hv:Rel r v x) {d:Nat} (hd:d<n):TmOk r n (setP (some v) (pos (Nat.succ d)) tm) (a.put (some d) x):=by
 have hs:=ht.size
 refine⟨by simp[Act.put,hs],fun t=>?_,?_⟩
 ·rw[slot_set]
  simp only[Act.put,Array.getD_eq_getD_getElem?]
  split
  ·rename_i h;subst h
   rw[Array.getElem?_setIfInBounds_self,if_pos (by omega)]
   exact hv
  ·rename_i h
   rw[Array.getElem?_setIfInBounds_ne (Ne.symm h)]
   have:=ht.slot t
   rwa [Array.getD_eq_getD_getElem?] at this
 ·rw[getP_setP_other _ _ _ _ (Ne.symm (pos_succ_ne d))]
  exact ht.defs
def St (P:Program) (r:Rho) (w:World) (n:Nat) (tm:Tr AV) (hp:Hp) (nx:Nat) (a':Act) (w':World):Prop :=
 ∃ r',TmOk r' n tm a'∧Ext r r' w∧Fr r w w'∧Gam (getB hp) r' w'∧Fresh nx r'
theorem St.trans {tm':Tr AV} {hp':Hp} {nx':Nat} {a' a'':Act} {w' w'':World} {r':Rho} (e:Ext r r' w) (f:Fr r w w') (h:St P r' w' n tm hp nx a'' w''):St P r w n tm hp nx a'' w'':=by
 obtain⟨s,h1,h2,h3,h4,h5⟩:=h
 exact⟨s,h1,e.trans h2 f.size,f.trans e h3,h4,h5⟩
theorem putD_ok {dst:Option Tmp} {v:AV} {o':Out} (h:putD dst v tm n hp nx=o'):(∃ m,o'=.fail m)∨∃ tm',o'=.norm tm' hp nx∧∀ {r:Rho} {a:Act} {x:Value},TmOk r n tm a→Rel r v x→TmOk r n tm' (a.put dst x):=by
 cases dst with
 | none=>exact .inr ⟨tm,h.symm,fun ht _=>ht⟩
 | some d =>
  cases hd:Nat.blt d n with
  | true =>
   refine .inr ⟨setP (some v) (pos (Nat.succ d)) tm,?_,fun ht hv=>ht.put hv (blt_lt hd)⟩
   rw[← h]
   show Bool.rec (motive:=fun _=>Out) _ _ (Nat.blt d n)=_
   rw[hd]
  | false =>
   refine .inl ⟨"put", ?_⟩
   rw[← h]
   show Bool.rec (motive:=fun _=>Out) _ _ (Nat.blt d n)=_
   rw[hd]
theorem wanted_ok (ht:TmOk r n tm a) {ops:Array Oper} {t:Bool} (h:wanted? ops o.guard tm=some t):Region.wanted o (yielded ops a.tmps)=t:=by
 unfold Region.wanted
 cases hgd:o.guard with
 | none=>rw[hgd] at h;injection (show some true=some t from h) with h
 | some p =>
  obtain⟨j,want⟩:=p
  rw[hgd] at h
  obtain⟨d,h1,h2⟩:=bnd_some (show bnd (bnd ops[j]? (·.dst)) (fun d=>wantedB (slot tm d) want)=some t from h)
  obtain⟨q,h3,h4⟩:=bnd_some h1
  have hs:=ht.slot d
  have hy:yielded ops a.tmps j=match a.tmps[d]? with | some (.bool b)=>some b | _=>none:=by
   unfold yielded
   rw[h3]
   simp only[Option.bind_some,h4]
   rfl
  simp only[hy]
  rw[Array.getD_eq_getD_getElem?] at hs
  cases hsl:slot tm d with
  | bool b =>
   rw[hsl] at h2 hs
   injection (show some (sel b want (not want))=some t from h2) with h2
   have hb:=rel_bool.1 hs
   cases hd:a.tmps[d]? with
   | none=>rw[hd] at hb;exact absurd hb (by simp[undef])
   | some u =>
    rw[hd] at hb
    simp only[Option.getD_some] at hb
    subst hb;subst h2
    cases b <;> cases want <;> rfl
  | tuple l =>
   rw[hsl] at h2 hs
   cases l with
   | cons _ _=>exact absurd h2 (by simp[wantedB])
   | nil =>
    injection (show some false=some t from h2) with h2
    subst h2
    obtain⟨x,hx,_⟩:=rel_tuple.1 hs
    cases hd:a.tmps[d]? with
    | none=>rfl
    | some u =>
     rw[hd] at hx
     simp only[Option.getD_some] at hx
     subst hx;rfl
  | _=>rw[hsl] at h2;exact absurd h2 (by simp[wantedB])
end
def IterOk (P:Program) (f:FuncId) (sz:Nat):Prop :=
 (∀ args w,(callFunc f args).run P w=.ok (.enter f args) w)∧∀ (l:Nat) (A:Addr) (len:Nat) (I:Nat→World→Prop) (W0:World),(∀ k W n,I k W→I k (W.drewN n))→len≤1000000 →
  (∃ a cap,W0.cell? A=some (.slice (some a) len cap)) →
  (∀ k W,I (k+1) W→∃ (b o m cap:Nat) (us:List Value),W.cell? A=some (.slice (some ⟨b,o,none⟩) m cap)∧k<m∧us.length=sz∧(∀ (i:Nat) (u:Value),us[i]?=some u→W.cell? ⟨b,o+k * sz+i,none⟩=some u) ∧
   ∀ n,YieldAt Fence.wide 0 P l #[.int .i64 (k:Int),.agg us.toArray] (W.drewN n) fun e W'=>e=.returned (.bool true)∧I k W') →
  I len W0→CallsIn Fence.wide 0 P f #[.func (.yield l) #[] #[],.pointer (some A)] W0 fun e W'=>(∃ v,e=.returned v)∧I 0 W'
def CallOk (P:Program) (mode:Nat) (f:FuncId) (args:List AV) (hp:Hp) (nx:Nat) (v:AV) (hp':Hp) (nx':Nat):Prop :=
 ∀ r w (us:Array Value),Rels r args us.toList→Glob P r→Gam (getB hp) r w→Fresh nx r →
  (mode=0→Calls P f us w fun e w'=>∃ x r',e=.returned x∧Rel r' v x∧Ext r r' w∧Fr r w w'∧Gam (getB hp') r' w'∧Fresh nx' r') ∧
  (mode=1→CallsD P f us .returning w fun e u w'=>∃ x r',e=.returned x∧u=.returning∧Rel r' v x∧Ext r r' w∧Fr r w w'∧Gam (getB hp') r' w'∧Fresh nx' r') ∧
  (mode=7→∀ k sz,v=.int k (.ofNat sz)→IterOk P f sz)
def Post (P:Program) (r:Rho) (w:World) (n:Nat):Out→Exit→Act→World→Prop
 | .norm tm hp nx=>fun e a' w'=>e=.normal∧St P r w n tm hp nx a' w'
 | .exit id tm hp nx=>fun e a' w'=>e=.exit id∧St P r w n tm hp nx a' w'
 | .ret tm hp nx=>fun e a' w'=>e=.ret∧St P r w n tm hp nx a' w'
 | _=>fun _ _ _=>True
def Out.good:Out→Bool | .norm _ _ _=>true | .exit _ _ _ _=>true | .ret _ _ _=>true | _=>false
def CodeOk (P:Program) (c:Code) (tm:Tr AV) (n:Nat) (hp:Hp) (nx:Nat) (out:Out):Prop :=
 ∀ r w a,TmOk r n tm a→Glob P r→Gam (getB hp) r w→Fresh nx r→out.good=true→c.wp P (Post P r w n out) a w
def LoopFrom (P:Program) (c:Code) (Q:Exit→Act→World→Prop) (a:Act) (w:World):Prop :=
 ∀ (b:Frame) (k:List Item) (cs:List Frame),∃ e a' w',Q e a' w'∧Arrives P (Go.lone (b.at a (.code c :: .inLoop c :: k)) cs w) b k cs e a' w'
def LoopOk (P:Program) (c:Code) (tm:Tr AV) (n:Nat) (hp:Hp) (nx:Nat) (out:Out):Prop :=
 ∀ r w a,TmOk r n tm a→Glob P r→Gam (getB hp) r w→Fresh nx r→out.good=true→LoopFrom P c (Post P r w n out) a w
structure KOk (P:Program) (ih:K):Prop where
 loop:∀ c tm n hp nx,LoopOk P c tm n hp nx (ih (.code (.loop c)) tm n hp nx)
 code:∀ c tm n hp nx,CodeOk P c tm n hp nx (ih (.code c) tm n hp nx)
 call:∀ f args tm mode hp nx v hp' nx',ih (.call f args) tm mode hp nx=.value v hp' nx'→CallOk P mode f args hp nx v hp' nx'
def CodeOkR (P:Program) (l:Nat) (c:Code) (tm:Tr AV) (n:Nat) (hp:Hp) (nx:Nat) (out:Out):Prop :=
 ∀ r w a,TmOk r n tm a→Glob P r→Gam (getB hp) r w→Fresh nx r→out.good=true→c.wpIn (Fence.wide.inRound l) 0 P (Post P r w n out) a w
def LoopFromR (P:Program) (l:Nat) (c:Code) (Q:Exit→Act→World→Prop) (a:Act) (w:World):Prop :=
 ∀ (b:Frame) (k:List Item) (cs:List Frame),b.roundOf=some l→∃ e a' w',Q e a' w'∧ArrivesIn (Machine.fenced P (Fence.wide.inRound l)) P (Go.lone (b.atR a (.code c :: .inLoop c :: k)) cs w) b k cs e a' w'
def LoopOkR (P:Program) (l:Nat) (c:Code) (tm:Tr AV) (n:Nat) (hp:Hp) (nx:Nat) (out:Out):Prop :=
 ∀ r w a,TmOk r n tm a→Glob P r→Gam (getB hp) r w→Fresh nx r→out.good=true→LoopFromR P l c (Post P r w n out) a w
structure KOkR (P:Program) (ih:K):Prop where
 loop:∀ l c tm n hp nx,okC c=true→LoopOkR P l c tm n hp nx (ih (.code (.loop c)) tm n hp nx)
 code:∀ l c tm n hp nx,okC c=true→CodeOkR P l c tm n hp nx (ih (.code c) tm n hp nx)
section
variable {P : Program} {r : Rho} {n : Nat} {tm : Tr AV} {a : Act} {w : World} {o : Oper} {hp : Hp} {nx : Nat} {ih : K}
theorem opS_ok (hk:KOk P ih) (ht:TmOk r n tm a) (hg:Glob P r) (g:Gam (getB hp) r w) (hf:Fresh nx r) {ops:Array Oper} {out:Out} (h:opS o ops ih P tm n hp nx=out) :
  (∃ m,out=.fail m)∨∃ tm' hp' nx',out=.norm tm' hp' nx'∧∀ (K:Act→World→Prop) (Q:Exit→Act→World→Prop),(∀ a' w',St P r w n tm' hp' nx' a' w'→K a' w') →
   if Region.wanted o (yielded ops a.tmps) then o.wp P a w K Q else K (a.put o.dst undef) w:=by
 unfold opS at h
 cases hw:wanted? ops o.guard tm with
 | none=>rw[hw] at h;exact .inl ⟨_,h.symm⟩
 | some t =>
  rw[hw] at h
  have hwd:=wanted_ok ht hw
  cases t with
  | false =>
   have h':putD o.dst (.tuple []) tm n hp nx=out:=h
   rcases putD_ok h' with hm | ⟨tm',h1,h2⟩
   ·exact .inl hm
   ·refine .inr ⟨tm',hp,nx,h1,fun K Q hK=>?_⟩
    rw[hwd]
    exact hK _ _ ⟨r,h2 ht rel_undef,Ext.refl _ _,Fr.refl _ _,g,hf⟩
  | true =>
   have h':finR P ih o tm n hp nx (opX o.op P tm hp nx)=out:=h
   have hres:=opX_ok (o:=o) ht hg g hf
   cases hR:opX o.op P tm hp nx with
   | ok v hp' nx' =>
    rw[hR] at h' hres
    have h'':putD o.dst v tm n hp' nx'=out:=h'
    rcases putD_ok h'' with hm | ⟨tm',h1,h2⟩
    ·exact .inl hm
    ·refine .inr ⟨tm',hp',nx',h1,fun K Q hK=>?_⟩
     rw[hwd,if_pos rfl]
     obtain⟨x,w',r',h3,h4,h5,h6,h7,h8⟩:=hres
     unfold Oper.wp
     rcases h3 with h3 | ⟨h3,rfl⟩
     ·rw[h3];exact hK _ _ ⟨r',h2 (ht.mono h5.le) h4,h5,h6,h7,h8⟩
     ·rw[h3];exact hK _ _ ⟨r',h2 (ht.mono h5.le) h4,h5,h6,h7,h8⟩
   | call f args =>
    rw[hR] at h' hres
    have h'':putO o.dst tm n (ih (.call f args) .leaf 0 hp nx)=out:=h'
    cases hc:ih (.call f args) .leaf 0 hp nx with
    | value v hp' nx' =>
     rw[hc] at h''
     rcases putD_ok (show putD o.dst v tm n hp' nx'=out from h'') with hm | ⟨tm',h1,h2⟩
     ·exact .inl hm
     ·refine .inr ⟨tm',hp',nx',h1,fun K Q hK=>?_⟩
      rw[hwd,if_pos rfl]
      obtain⟨us,h3,h4⟩:=hres
      have hcall:=(hk.call _ _ _ _ _ _ _ _ _ hc r w us h4 hg g hf).1 rfl
      unfold Oper.wp
      rw[h3]
      refine hcall.mono ?_
      rintro e w' ⟨x,r',rfl,h5,h6,h7,h8,h9⟩
      exact hK _ _ ⟨r',h2 (ht.mono h6.le) h5,h6,h7,h8,h9⟩
    | fail m=>rw[hc] at h'';exact .inl ⟨m,h''.symm⟩
    | norm _ _ _=>rw[hc] at h'';exact .inl ⟨_,h''.symm⟩
    | exit _ _ _ _=>rw[hc] at h'';exact .inl ⟨_,h''.symm⟩
    | ret _ _ _=>rw[hc] at h'';exact .inl ⟨_,h''.symm⟩
   | no =>
    rw[hR] at h'
    have h'':noR P o tm hp nx=out:=h'
    unfold noR at h''
    split at h''
    ·rename_i c hop
     cases hd:o.dst with
     | some d=>rw[hd] at h'';exact .inl ⟨_,h''.symm⟩
     | none =>
      rw[hd] at h''
      have h3:deferS P c tm hp nx=out:=h''
      unfold deferS at h3
      split at h3
      ·rename_i f ts
       cases hq:sel (getP .h tm).isSome none (opnd P f tm) with
       | none=>rw[hq] at h3;exact .inl ⟨_,h3.symm⟩
       | some v =>
        rw[hq] at h3
        obtain⟨h4,h5⟩:=sel_none' hq
        have hnone:getP .h tm=none:=by
         cases hgp:getP .h tm with
         | none=>rfl
         | some _=>rw[hgp] at h4;exact absurd h4 (by simp)
        have h3:dfOf v tm hp nx=out:=h3
        cases v with
        | func gf fs cs =>
         cases fs with
         | cons _ _=>exact .inl ⟨_,h3.symm⟩
         | nil =>
           refine .inr ⟨_,hp,nx,h3.symm,fun K Q hK=>?_⟩
           rw[hwd,if_pos rfl]
           obtain⟨x,y,e1,e2,e3⟩:=rel_func.1 (opnd_ok ht hg h5)
           have hx:x=#[]:=by rw[← Array.toList_inj];exact Rels_nil.1 e2
           subst hx
           have hdf:=ht.defs
           rw[hnone] at hdf
           have hdf':a.defers=[]:=hdf
           have hrun:(execOp a.eval o).run P w=.ok (.defer { target:=.fn (.func gf) y,args:=#[] }) w:=by
            simp[execOp,hop,resolve,Deferred.ofValue,e1]
           unfold Oper.wp
           rw[hrun]
           show K (({ a with defers:=_ :: a.defers } : Act).put o.dst undef) w
           rw[hd,hdf']
           refine hK _ _ ⟨r,⟨ht.size,fun t=>?_,?_⟩,Ext.refl _ _,Fr.refl _ _,g,hf⟩
           ·have:slot (setP (some (AV.tuple [.func gf [] cs])) .h tm) t=slot tm t:=by
             unfold slot
             rw[getP_setP_other _ _ _ _ (pos_succ_ne t)]
            rw[this]
            exact ht.slot t
           ·rw[getP_setP_same]
            exact⟨y,rfl,e3⟩
        | _=>exact .inl ⟨_,h3.symm⟩
      ·exact .inl ⟨_,h3.symm⟩
    ·exact .inl ⟨_,h''.symm⟩
theorem opsS_ok (hk:KOk P ih) {ops:Array Oper} : ∀ (l:List Oper) {tm:Tr AV} {hp:Hp} {nx:Nat} {r:Rho} {a:Act} {w:World} {out:Out},TmOk r n tm a→Glob P r→Gam (getB hp) r w→Fresh nx r→opsS ops l ih P tm n hp nx=out→out.good=true →
  ∀ (Q:Exit→Act→World→Prop),(∀ e a' w',Post P r w n out e a' w'→Q e a' w')→wpList P ops Q l a w:=by
 intro l
 induction l with
 | nil =>
  intro tm hp nx r a w out ht hg g hf h _ Q hQ
  have h':Out.norm tm hp nx=out:=h
  subst h'
  exact hQ _ _ _ ⟨rfl,r,ht,Ext.refl _ _,Fr.refl _ _,g,hf⟩
 | cons o l ihl =>
  intro tm hp nx r a w out ht hg g hf h hgood Q hQ
  have h':onNorm (opS o ops ih P tm n hp nx) (fun tm hp nx=>opsS ops l ih P tm n hp nx)=out:=h
  rcases opS_ok hk ht hg g hf (rfl:opS o ops ih P tm n hp nx=_) with ⟨m,hm⟩ | ⟨tm',hp',nx',h1,h2⟩
  ·rw[hm] at h'
   have:Out.fail m=out:=h'
   subst this;exact absurd (show false=true from hgood) (by decide)
  ·rw[h1] at h'
   have h'':opsS ops l ih P tm' n hp' nx'=out:=h'
   refine wpList_step fun K hK=>?_
   refine h2 K Q fun a' w' hst=>?_
   obtain⟨r',q1,q2,q3,q4,q5⟩:=hst
   refine hK _ _ (ihl q1 (hg.mono q2.le) q4 q5 h'' hgood Q fun e a'' w'' hp=>hQ _ _ _ ?_)
   cases out <;> first | exact trivial | exact⟨hp.1,St.trans (tm':=tm) (hp':=hp') (nx':=nx) (a':=a) q2 q3 hp.2⟩
end
end Go.Proofs.YtdmelebgdaiinaaGreatDoor.Ev
set_option linter.unusedVariables false
set_option linter.unusedSimpArgs false
namespace Go.Proofs.YtdmelebgdaiinaaGreatDoor.Ev
section
variable {P : Program} {r : Rho} {n : Nat} {tm : Tr AV} {a : Act} {w : World} {hp : Hp} {nx : Nat} {ih : K}
theorem loopFrom_round {c:Code} {Q:Exit→Act→World→Prop} (h:c.wp P (Exit.then (fun a' w'=>LoopFrom P c Q a' w') Q) a w):LoopFrom P c Q a w:=by
 intro b k cs
 obtain⟨e,a₁,w₁,hq,harr⟩:=h b (.inLoop c :: k) cs
 cases e with
 | normal =>
  obtain⟨e₂,a₂,w₂,hq₂,harr₂⟩:=hq b k cs
  exact⟨e₂,a₂,w₂,hq₂,.of_steps (Steps.trans harr (.one step_inLoop)) harr₂⟩
 | exit id=>exact⟨_,a₁,w₁,hq,.pass (x:=.inLoop c) rfl (fun _ _=>.inl (by simp)) harr⟩
 | goto l=>exact⟨_,a₁,w₁,hq,.pass (x:=.inLoop c) rfl (fun _ _=>.inl (by simp)) harr⟩
 | ret=>exact⟨_,a₁,w₁,hq,.pass (x:=.inLoop c) rfl (fun _ _=>.inl (by simp)) harr⟩
 | panic ch=>exact⟨_,a₁,w₁,hq,.pass (x:=.inLoop c) rfl (fun _ _=>.inl (by simp)) harr⟩
 | outgrown=>exact⟨_,a₁,w₁,hq,.pass (x:=.inLoop c) rfl (fun _ _=>.inl (by simp)) harr⟩
theorem wp_of_loopFrom {c:Code} {Q:Exit→Act→World→Prop} (h:LoopFrom P c Q a w):(Code.loop c).wp P Q a w:=by
 intro b k cs
 obtain⟨e,a',w',hq,harr⟩:=h b k cs
 exact⟨e,a',w',hq,.of_steps (.one step_loop) harr⟩
theorem Post.trans {tm':Tr AV} {hp':Hp} {nx':Nat} {a':Act} {w':World} {r':Rho} (e:Ext r r' w) (f:Fr r w w') {out:Out} {x:Exit} {a'':Act} {w'':World} (h:Post P r' w' n out x a'' w''):Post P r w n out x a'' w'':=by
 cases out with
 | norm _ _ _=>exact⟨h.1,h.2.trans (tm':=tm') (hp':=hp') (nx':=nx') (a':=a') e f⟩
 | exit _ _ _ _=>exact⟨h.1,h.2.trans (tm':=tm') (hp':=hp') (nx':=nx') (a':=a') e f⟩
 | ret _ _ _=>exact⟨h.1,h.2.trans (tm':=tm') (hp':=hp') (nx':=nx') (a':=a') e f⟩
 | value _ _ _=>exact trivial
 | fail _=>exact trivial
def DrawOk (P:Program):Prop:=∀ ih,KOk P ih→∀ id ops tm n hp nx,CodeOk P (.region id ops true) tm n hp nx (drawS ops ih P tm n hp nx)
def RangeOk (P:Program):Prop:=∀ ih,KOk P ih→KOkR P ih→∀ g ps asg body tm n hp nx,CodeOk P (.rangeFunc g ps asg body) tm n hp nx (cRange g ps asg body ih P tm n hp nx)
theorem sel_none2 {a b:Bool} (h:sel a b false=true):a=true∧b=true:=by cases a <;> cases b <;> simp_all [sel]
theorem seq_ok {c:Code} {o1:Out} {f:Tr AV→Hp→Nat→Out} {Q:Exit→Act→World→Prop} (ht:TmOk r n tm a) (hg:Glob P r) (g:Gam (getB hp) r w) (hf:Fresh nx r) (h1:CodeOk P c tm n hp nx o1)
  (hgood:(onNorm o1 f).good=true) {next:Act→World→Prop}
  (h2:∀ tm' hp' nx' r' a' w',o1=.norm tm' hp' nx'→TmOk r' n tm' a'→Glob P r'→Gam (getB hp') r' w'→Fresh nx' r'→Ext r r' w→Fr r w w'→next a' w')
  (h3:∀ e a' w',Post P r w n (onNorm o1 f) e a' w'→Q e a' w'):c.wp P (Exit.then next Q) a w:=by
 cases o1 with
 | norm tm' hp' nx' =>
  refine Code.wp_mono (fun e a' w' hp=>?_) (h1 r w a ht hg g hf rfl)
  obtain⟨rfl,r',q1,q2,q3,q4,q5⟩:=hp
  exact h2 _ _ _ r' a' w' rfl q1 (hg.mono q2.le) q4 q5 q2 q3
 | exit id tm' hp' nx' =>
  refine Code.wp_mono (fun e a' w' hp=>?_) (h1 r w a ht hg g hf rfl)
  obtain⟨rfl,hst⟩:=hp
  exact h3 _ _ _ ⟨rfl,hst⟩
 | ret tm' hp' nx' =>
  refine Code.wp_mono (fun e a' w' hp=>?_) (h1 r w a ht hg g hf rfl)
  obtain⟨rfl,hst⟩:=hp
  exact h3 _ _ _ ⟨rfl,hst⟩
 | value _ _ _=>exact absurd (show false=true from hgood) (by decide)
 | fail _=>exact absurd (show false=true from hgood) (by decide)
theorem loop_ok (hk:KOk P ih) (c:Code) (tm:Tr AV) (n:Nat) (hp:Hp) (nx:Nat):LoopOk P c tm n hp nx (cLoop c ih P tm n hp nx):=by
 intro r w a ht hg g hf hgood
 refine loopFrom_round (seq_ok (f:=fun tm hp nx=>ih (.code (.loop c)) tm n hp nx) ht hg g hf (hk.code c tm n hp nx) hgood ?_ fun _ _ _ h=>h)
 intro tm' hp' nx' r' a' w' ho ht' hg' g' hf' he hfr
 have hgood':(onNorm (ih (.code c) tm n hp nx) fun tm hp nx=>ih (.code (.loop c)) tm n hp nx).good=true:=hgood
 rw[ho] at hgood'
 have:=hk.loop c tm' n hp' nx' r' w' a' ht' hg' g' hf' hgood'
 intro b k cs
 obtain⟨e,a2,w2,q,arr⟩:=this b k cs
 refine⟨e,a2,w2,?_,arr⟩
 show Post P r w n (onNorm (ih (.code c) tm n hp nx) fun tm hp nx=>ih (.code (.loop c)) tm n hp nx) e a2 w2
 rw[ho]
 exact Post.trans (tm':=tm') (hp':=hp') (nx':=nx') (a':=a') he hfr q
theorem code_ok (hk:KOk P ih) (hkr:KOkR P ih) (hd:DrawOk P) (hra:RangeOk P) (c:Code) (tm:Tr AV) (n:Nat) (hp:Hp) (nx:Nat):CodeOk P c tm n hp nx (codeS c ih P tm n hp nx):=by
 intro r w a ht hg g hf hgood
 cases c with
 | skip=>exact wp_skip ⟨rfl,r,ht,Ext.refl _ _,Fr.refl _ _,g,hf⟩
 | label l=>exact wp_label ⟨rfl,r,ht,Ext.refl _ _,Fr.refl _ _,g,hf⟩
 | region id ops draw =>
  cases draw with
  | false=>exact wp_region_list (opsS_ok hk ops.toList ht hg g hf rfl hgood _ fun _ _ _ h=>h)
  | true=>exact hd ih hk id ops tm n hp nx r w a ht hg g hf hgood
 | seq x y =>
  refine wp_seq (seq_ok (f:=fun tm hp nx=>ih (.code y) tm n hp nx) ht hg g hf (hk.code x tm n hp nx) hgood ?_ fun _ _ _ h=>h)
  intro tm' hp' nx' r' a' w' ho ht' hg' g' hf' he hfr
  have hgood':(onNorm (ih (.code x) tm n hp nx) fun tm hp nx=>ih (.code y) tm n hp nx).good=true:=hgood
  rw[ho] at hgood'
  refine Code.wp_mono (fun e a2 w2 q=>?_) (hk.code y tm' n hp' nx' r' w' a' ht' hg' g' hf' hgood')
  show Post P r w n (onNorm (ih (.code x) tm n hp nx) fun tm hp nx=>ih (.code y) tm n hp nx) e a2 w2
  rw[ho]
  exact Post.trans (tm':=tm') (hp':=hp') (nx':=nx') (a':=a') he hfr q
 | cond c x y =>
  have hgood' : Out.good (Option.rec (motive := fun _ => Out) (.fail "cond") (fun t => ih (.code (sel t x y)) tm n hp nx) (bnd (opnd P c tm) asBool)) = true := hgood
  cases hc:bnd (opnd P c tm) asBool with
  | none=>rw[hc] at hgood';exact absurd (show false=true from hgood') (by decide)
  | some t =>
   rw[hc] at hgood'
   obtain⟨b,h1,h2⟩:=bnd_some hc
   have:=asBool_some h2;subst this
   have hev:=rel_bool.1 (opnd_ok ht hg h1)
   have hcode:=hk.code (sel t x y) tm n hp nx r w a ht hg g hf hgood'
   have hout:codeS (.cond c x y) ih P tm n hp nx=ih (.code (sel t x y)) tm n hp nx:=by
    show Option.rec (motive := fun _ => Out) (.fail "cond") (fun t => ih (.code (sel t x y)) tm n hp nx) (bnd (opnd P c tm) asBool) = _
    rw[hc]
   rw[hout]
   refine wp_cond hev ?_
   cases t <;> exact hcode
 | block id c =>
  refine wp_block ?_
  have hgood':(offBlock id (ih (.code c) tm n hp nx)).good=true:=hgood
  have hcode:=hk.code c tm n hp nx r w a ht hg g hf
  have hout:codeS (.block id c) ih P tm n hp nx=offBlock id (ih (.code c) tm n hp nx):=rfl
  rw[hout]
  cases ho:ih (.code c) tm n hp nx with
  | norm tm' hp' nx' =>
   rw[ho] at hcode
   refine Code.wp_mono (fun e a' w' q=>?_) (hcode rfl)
   obtain⟨rfl,hst⟩:=q
   exact⟨rfl,hst⟩
  | exit j tm' hp' nx' =>
   rw[ho] at hcode
   refine Code.wp_mono (fun e a' w' q=>?_) (hcode rfl)
   obtain⟨rfl,hst⟩:=q
   show Exit.inBlock id (Post P r w n (sel (Nat.beq j id) (.norm tm' hp' nx') (.exit j tm' hp' nx'))) (.exit j) a' w'
   unfold Exit.inBlock
   dsimp only
   cases hj:Nat.beq j id with
   | true=>rw[if_pos (beq_eq hj)];exact⟨rfl,hst⟩
   | false =>
    rw[if_neg fun e=>by subst e;rw[Nat.beq_refl] at hj;exact absurd hj (by decide)]
    exact⟨rfl,hst⟩
  | ret tm' hp' nx' =>
   rw[ho] at hcode
   refine Code.wp_mono (fun e a' w' q=>?_) (hcode rfl)
   obtain⟨rfl,hst⟩:=q
   exact⟨rfl,hst⟩
  | value _ _ _=>rw[ho] at hgood';exact absurd (show false=true from hgood') (by decide)
  | fail _=>rw[ho] at hgood';exact absurd (show false=true from hgood') (by decide)
 | loop c=>exact wp_of_loopFrom (loop_ok hk c tm n hp nx r w a ht hg g hf hgood)
 | rangeFunc gg ps asg body=>exact hra ih hk hkr gg ps asg body tm n hp nx r w a ht hg g hf hgood
 | exit id=>exact wp_exit ⟨rfl,r,ht,Ext.refl _ _,Fr.refl _ _,g,hf⟩
 | scope _=>exact absurd (show false=true from hgood) (by decide)
 | goto _=>exact absurd (show false=true from hgood) (by decide)
 | ret=>exact wp_ret ⟨rfl,r,ht,Ext.refl _ _,Fr.refl _ _,g,hf⟩
 | refuse _=>exact absurd (show false=true from hgood) (by decide)
theorem startTm_slot:∀ (args:List AV) (i:Nat) (tm:Tr AV) (t:Nat),slot (startTm args i tm) t=if i≤t∧t<i+args.length then (args[t - i]?).getD (.tuple []) else slot tm t:=by
 intro args
 induction args with
 | nil=>intro i tm t;rw[if_neg (by simp only[List.length_nil];omega)];rfl
 | cons v args ihh =>
  intro i tm t
  show slot (startTm args (Nat.succ i) (setP (some v) (pos (Nat.succ i)) tm)) t=_
  rw[ihh,slot_set]
  simp only[List.length_cons]
  by_cases h1:Nat.succ i≤t∧t<Nat.succ i+args.length
  ·rw[if_pos h1,if_pos (by omega),show t - i=(t - Nat.succ i)+1 by omega,List.getElem?_cons_succ]
  ·rw[if_neg h1]
   by_cases h2:t=i
   ·subst h2;rw[if_pos rfl,if_pos (by omega)];simp
   ·rw[if_neg h2,if_neg (by omega)]
theorem startTm_df:∀ (args:List AV) (i:Nat) (tm:Tr AV),getP .h (startTm args i tm)=getP .h tm:=by
 intro args
 induction args with
 | nil=>intro i tm;rfl
 | cons v args ihh =>
  intro i tm
  show getP .h (startTm args (Nat.succ i) (setP (some v) (pos (Nat.succ i)) tm))=_
  rw[ihh,getP_setP_other _ _ _ _ (Ne.symm (pos_succ_ne i))]
theorem start_ok {args:List AV} {us:Array Value} (hu:Rels r args us.toList) {m:Nat} (hm:args.length≤m):TmOk r m (startTm args 0 .leaf) { tmps:=us++Array.replicate (m - us.size) undef,defers:=[] }:=by
 have hl:us.size=args.length:=by have:=hu.length;simpa using this
 refine⟨by simp;omega,fun t=>?_,?_⟩
 ·rw[startTm_slot]
  simp only[Nat.zero_le,true_and,Nat.zero_add,Nat.sub_zero,Array.getD_eq_getD_getElem?]
  by_cases ht:t<args.length
  ·rw[if_pos ht,Array.getElem?_append_left (by omega)]
   have h1:args[t]?=some args[t]:=List.getElem?_eq_getElem ht
   obtain⟨u,h2,h3⟩:=hu.get h1
   rw[h1]
   have h4:us[t]?=some u:=by rw[← h2];simp
   rw[h4]
   exact h3
  ·rw[if_neg ht,Array.getElem?_append_right (by omega)]
   have h0:slot (.leaf:Tr AV) t=.tuple []:=by unfold slot;rw[getP_leaf]
   rw[h0]
   have:((Array.replicate (m - us.size) undef)[t - us.size]?).getD undef=undef:=by
    rw[Array.getElem?_replicate];split <;> rfl
   rw[this]
   exact rel_undef
 ·rw[startTm_df,getP_leaf];rfl
theorem one1_ok {l:List AV} {us:Array Value} (h:Rels r l us.toList):Rel r (one1 l) (if h:us.size=1 then us[0] else .tuple us):=by
 unfold one1
 split
 ·rename_i v
  obtain⟨x,xs,e1,e2,e3⟩:=Rels_cons.1 h
  have:=Rels_nil.1 e3
  subst this
  have hus:us=#[x]:=by rw[← Array.toList_inj,e1]
  subst hus
  exact e2
 ·rename_i hne
  have hs:¬ us.size=1:=fun hs=>by
   have hl:=h.length
   rw[Array.length_toList,hs] at hl
   obtain⟨v,hv⟩:=List.length_eq_one_iff.1 hl.symm
   exact hne v hv
  rw[dif_neg hs]
  exact rel_tuple.2 ⟨us,rfl,h⟩
theorem resF_ok (ht:TmOk r n tm a) (g:Gam (getB hp) r w):∀ {rs:List ResultVar} {l:List AV},resF P tm hp rs=some l →
  ∃ us:List Value,Rels r l us∧(rs.mapM (fun x:ResultVar=>match x with | .tmp t=>pure (a.tmps.getD t undef) | .cell b t=>do loadVar t (← Go.asAddr (a.tmps.getD b undef))):Sem (List Value)).run P w=.ok us w:=by
 intro rs
 induction rs with
 | nil=>intro l h;injection (show some []=some l from h) with h;subst h;exact⟨[],Rels_nil.2 rfl,rfl⟩
 | cons x rs ihh =>
  intro l h
  cases x with
  | tmp t =>
   obtain⟨m,h1,h2⟩:=bnd_some (show bnd (resF P tm hp rs) (fun l=>some (slot tm t :: l))=some l from h)
   injection h2 with h2;subst h2
   obtain⟨us,q1,q2⟩:=ihh h1
   exact⟨_ :: us,Rels_cons.2 ⟨_,_,rfl,ht.slot t,q1⟩,by simp only[List.mapM_cons,Sem.run_bind,Sem.run_pure,Result.andThen_ok,q2]⟩
  | cell b t =>
   obtain⟨p,h1,h2⟩:=bnd_some (show bnd (asPtr (slot tm b)) (fun p=>bnd (aggSize P t) fun s=>bnd (loadB hp s p) fun v=>bnd (resF P tm hp rs) fun l=>some (v :: l))=some l from h)
   obtain⟨s,h3,h4⟩:=bnd_some h2
   obtain⟨v,h5,h6⟩:=bnd_some h4
   obtain⟨m,h7,h8⟩:=bnd_some h6
   injection h8 with h8;subst h8
   obtain⟨us,q1,q2⟩:=ihh h7
   have hp2:=asPtr_some h1
   have hs:=ht.slot b
   rw[hp2] at hs
   obtain⟨y,e1,e2⟩:=rel_ptr.1 hs
   obtain⟨u,l1,l2⟩:=loadB_run g h3 e1 h5
   refine⟨u :: us,Rels_cons.2 ⟨_,_,rfl,l2,q1⟩,?_⟩
   have hasA:(Go.asAddr (a.tmps.getD b undef)).run P w=.ok ⟨y.blk,y.sh+p.2,none⟩ w:=by rw[e2];rfl
   simp only[List.mapM_cons,Sem.run_bind,Sem.run_pure,Result.andThen_ok,hasA,l1,q2]
theorem results_ok (ht:TmOk r n tm a) (g:Gam (getB hp) r w) {fn:Func} {l:List AV} (h:resF P tm hp fn.results.toList=some l):∃ x,(results fn a.tmps).run P w=.ok x w∧Rel r (one1 l) x:=by
 obtain⟨us,h1,h2⟩:=resF_ok (P:=P) ht g h
 refine⟨_,?_,one1_ok (us:=us.toArray) (by simpa using h1)⟩
 unfold results
 rw[Array.mapM_eq_mapM_toList]
 simp only[Sem.run_bind,Sem.run_map]
 have:=h2
 erw [this]
 rfl
theorem Gam.kill {h h':H} {r:Rho} {w w':World} (g:Gam h r w) {m:Nat} {k:Blk} {x:BI} (hk:h m=some k) (ho:k.owned=true) (hsh:k.shares=[]) (hx:r m=some x)
  (hsub:∀ b j,h' b=some j→b≠m∧h b=some j) (hoth:∀ i,i≠x.blk→w'.heap[i]?=w.heap[i]?) (hsz:w.heap.size≤w'.heap.size):Gam h' r w':=by
 refine⟨fun b j hb=>?_,fun b y hb=>Nat.lt_of_lt_of_le (g.real _ _ hb) hsz,fun b j y b' j' y' h1 h2 h3 h4 h5 h6 h7=>g.sep b j y b' j' y' (hsub _ _ h1).2 h2 h3 (hsub _ _ h4).2 h5 h6 h7⟩
 obtain⟨e,h1⟩:=hsub b j hb
 obtain⟨y,h3,h4⟩:=g.blk b j h1
 refine⟨y,h3,h4.kept (Rho.le_refl r) (hoth _ fun e'=>?_)⟩
 have:=(g.sep m k x b j y hk ho hx h1 h3 e e').1
 rw[hsh] at this;exact absurd this (by simp)
theorem marks_leave {P:Program} {fn:Func} {tmps:Array Value} {R:Ending→World→Prop} {r:Rho} {k:Hp→Out} {o:Out} (hno:∀ m,o≠.fail m):∀ (ml:List AV) (ds:List Deferred) (hp:Hp) (w:World),MkOk r ml ds→Gam (getB hp) r w→leaveM ml k hp=o →
  (∀ hp2 w2,Gam (getB hp2) r w2→Fr r w w2→k hp2=o→∃ v,(results fn tmps).run P w2=.ok v w2∧R (.returned v) w2)→LeavesInM Fence.wide 0 P fn tmps R ds .returning w:=by
 intro ml
 induction ml with
 | nil =>
  intro ds hp w hm g h hk
  have hm:ds=[]:=hm
  subst hm
  exact hk hp w g (Fr.refl _ _) h
 | cons v ml ihm =>
  intro ds hp w hm g h hk
  obtain⟨D,oo,x,ds',rfl,e2,rfl,hm'⟩:=hm
  have h : sel (isDfr (getB hp D)) (leaveM ml k (setB none D hp)) (.fail "marks") = o := h
  cases hb:isDfr (getB hp D) with
  | false=>rw[hb] at h;exact absurd h.symm (hno _)
  | true =>
   rw[hb] at h
   have h:leaveM ml k (setB none D hp)=o:=h
   have hD:getB hp D=some .dfr:=by
    unfold isDfr at hb
    split at hb
    ·rename_i e;exact e
    ·exact absurd hb (by decide)
   obtain⟨x',r1,b1,b2⟩:=g.blk D _ hD
   rw[e2] at r1;injection r1 with r1;subst r1
   have hoth:∀ i,i≠x.blk→(w.putObj x.blk (.deferred none)).heap[i]?=w.heap[i]?:=fun i hi=>World.putObj_heap_other hi
   have hsz:w.heap.size≤(w.putObj x.blk (.deferred none)).heap.size:=by simp
   have F1:Fr r w (w.putObj x.blk (.deferred none)):=Fr.turn e2 b2 rfl rfl rfl hoth hsz
   refine⟨by simp,.inl ⟨x.blk,_,rfl,run_takeDeferred b1,ihm ds' (setB none D hp) _ hm' (g.kill hD rfl rfl e2 (fun b j hb=>?_) hoth hsz) h fun hp2 w2 g2 f2 hk2=>hk hp2 w2 g2 (F1.trans (Ext.refl _ _) f2) hk2⟩⟩
   rw[getB_setB] at hb
   split at hb
   ·exact absurd hb (by simp)
   ·rename_i hne;exact⟨hne,hb⟩
def HookOk (P:Program) (hk:Hook):Prop:=∀ mode f args hp nx v hp' nx',hk mode f args hp nx=some (v,hp',nx')→CallOk P mode f args hp nx v hp' nx'
theorem call_ok (hk : KOk P ih) {hook : Hook} (hh : HookOk P hook) (f : FuncId) (args : List AV) (tm : Tr AV) (mode : Nat) (hp : Hp) (nx : Nat) (v : AV) (hp' : Hp) (nx' : Nat)
    (h : callS hook f args ih P tm mode hp nx = .value v hp' nx') : CallOk P mode f args hp nx v hp' nx' := by
  unfold callS at h
  cases hq : hook mode f args hp nx with
  | some q =>
    obtain ⟨v0, hp0, nx0⟩ := q
    rw [hq] at h
    have h' : Out.value v0 hp0 nx0 = .value v hp' nx' := h
    injection h' with h1 h2 h3
    subst h1; subst h2; subst h3
    exact hh _ _ _ _ _ _ _ _ hq
  | none =>
    rw [hq] at h
    cases hfn : P.funcs[f]? with
    | none => rw [hfn] at h; exact absurd (show Out.fail "func" = .value v hp' nx' from h) (by simp)
    | some fn =>
      rw [hfn] at h
      cases hb : fn.body with
      | none =>
        have h' : Option.rec (motive := fun _ => Out) (.fail fn.name) (fun c => sel (Nat.ble (lenL args) fn.ntmps) (sel (Nat.beq mode 0) (resO ih P fn (ih (.code c) (startTm args 0 .leaf) fn.ntmps hp nx)) (sel (Nat.beq mode 1) (resO1 P fn (ih (.code c) (startTm args 0 .leaf) fn.ntmps hp nx)) (.fail "mode"))) (.fail "args")) fn.body = .value v hp' nx' := h
        rw [hb] at h'
        exact absurd (show Out.fail fn.name = .value v hp' nx' from h') (by simp)
      | some c =>
        have h' : Option.rec (motive := fun _ => Out) (.fail fn.name) (fun c => sel (Nat.ble (lenL args) fn.ntmps) (sel (Nat.beq mode 0) (resO ih P fn (ih (.code c) (startTm args 0 .leaf) fn.ntmps hp nx)) (sel (Nat.beq mode 1) (resO1 P fn (ih (.code c) (startTm args 0 .leaf) fn.ntmps hp nx)) (.fail "mode"))) (.fail "args")) fn.body = .value v hp' nx' := h
        rw [hb] at h'
        have h2 : sel (Nat.ble (lenL args) fn.ntmps) (sel (Nat.beq mode 0) (resO ih P fn (ih (.code c) (startTm args 0 .leaf) fn.ntmps hp nx)) (sel (Nat.beq mode 1) (resO1 P fn (ih (.code c) (startTm args 0 .leaf) fn.ntmps hp nx)) (.fail "mode"))) (.fail "args") = .value v hp' nx' := h'
        cases hle : Nat.ble (lenL args) fn.ntmps with
        | false => rw [hle] at h2; exact absurd (show Out.fail "args" = .value v hp' nx' from h2) (by simp)
        | true =>
          rw [hle] at h2
          have hle' := ble_le hle
          rw [lenL_eq] at hle'
          intro r w us hu hg g hf
          have hst := start_ok hu hle'
          have hcode := hk.code c (startTm args 0 .leaf) fn.ntmps hp nx r w _ hst hg g hf
          -- the end without a deferred call
          have fin0 : ∀ {tm' : Tr AV} {hp1 : Hp} {nx1 : Nat} {r' : Rho} {a' : Act} {w' : World}, TmOk r' fn.ntmps tm' a' → Gam (getB hp1) r' w' → ∀ {l : List AV}, resF P tm' hp1 fn.results.toList = some l → ∃ x, (results fn a'.tmps).run P w' = .ok x w' ∧ Rel r' (one1 l) x := fun ht' g' _ hl => results_ok ht' g' hl
          have opt : ∀ {tm' : Tr AV} {hp1 : Hp} {nx1 : Nat}, Option.rec (motive := fun _ => Out) (.fail "results") (fun l => .value (one1 l) hp1 nx1) (resF P tm' hp1 fn.results.toList) = .value v hp' nx' → ∃ l, resF P tm' hp1 fn.results.toList = some l ∧ v = one1 l ∧ hp' = hp1 ∧ nx' = nx1 := by
            intro tm' hp1 nx1 ho
            cases hr : resF P tm' hp1 fn.results.toList with
            | none => rw [hr] at ho; exact absurd (show Out.fail "results" = .value v hp' nx' from ho) (by simp)
            | some l =>
              rw [hr] at ho
              have ho' : Out.value (one1 l) hp1 nx1 = .value v hp' nx' := ho
              injection ho' with e1 e2 e3
              exact ⟨l, rfl, e1.symm, e2.symm, e3.symm⟩
          refine ⟨fun hm => ?_, fun hm => ?_, fun hm => by subst hm; exact absurd (show Out.fail "mode" = .value v hp' nx' from h2) (by simp)⟩
          · subst hm
            have h3 : resO ih P fn (ih (.code c) (startTm args 0 .leaf) fn.ntmps hp nx) = .value v hp' nx' := h2
            by_cases hmk : ∀ tm' hp1 nx1, (ih (.code c) (startTm args 0 .leaf) fn.ntmps hp nx = .norm tm' hp1 nx1 ∨ ih (.code c) (startTm args 0 .leaf) fn.ntmps hp nx = .ret tm' hp1 nx1) → ¬ ∃ ml, getP .h tm' = some (.agg ml)
            case neg =>
              have hmk' : ∃ tm' hp1 nx1, (ih (.code c) (startTm args 0 .leaf) fn.ntmps hp nx = .norm tm' hp1 nx1 ∨ ih (.code c) (startTm args 0 .leaf) fn.ntmps hp nx = .ret tm' hp1 nx1) ∧ ∃ ml, getP .h tm' = some (.agg ml) :=
                Classical.byContradiction fun hno => hmk fun tm' hp1 nx1 h1 h2 => hno ⟨tm', hp1, nx1, h1, h2⟩
              obtain ⟨tm', hp1, nx1, ho, ml, hml⟩ := hmk'
              have hl : leaveS P ih tm' hp1 nx1 (fun hp nx => Option.rec (motive := fun _ => Out) (.fail "results") (fun l => .value (one1 l) hp nx) (resF P tm' hp fn.results.toList)) = .value v hp' nx' := by
                rcases ho with ho | ho <;> (rw [ho] at h3; exact h3)
              unfold leaveS at hl
              rw [hml] at hl
              have hl2 : leaveM ml (fun hp => Option.rec (motive := fun _ => Out) (.fail "results") (fun l => .value (one1 l) hp nx1) (resF P tm' hp fn.results.toList)) hp1 = .value v hp' nx' := hl
              refine callsIn_wide.1 (callsIn_of_wp_marks (n := 0) hfn hb trivial (wpIn_wide.2 ?_))
              have hst : ∀ a' w', St P r w fn.ntmps tm' hp1 nx1 a' w' → LeavesInM Fence.wide 0 P fn a'.tmps (fun e w' => ∃ x r', e = .returned x ∧ Rel r' v x ∧ Ext r r' w ∧ Fr r w w' ∧ Gam (getB hp') r' w' ∧ Fresh nx' r') a'.defers .returning w' := by
                rintro a' w' ⟨r', q1, q2, q3, q4, q5⟩
                have hdf := q1.defs
                rw [hml] at hdf
                refine marks_leave (fun _ => by simp) ml a'.defers hp1 w' hdf q4 hl2 fun hp2 w2 g2 f2 hk2 => ?_
                obtain ⟨l, l1, rfl, rfl, rfl⟩ := opt hk2
                obtain ⟨x, x1, x2⟩ := results_ok (P := P) q1 g2 l1
                exact ⟨x, x1, x, r', rfl, x2, q2, q3.trans q2 f2, g2, q5⟩
              rcases ho with ho | ho
              · rw [ho] at hcode
                refine Code.wp_mono (fun e a' w' q => ?_) (hcode rfl)
                obtain ⟨rfl, q⟩ := q
                exact hst a' w' q
              · rw [ho] at hcode
                refine Code.wp_mono (fun e a' w' q => ?_) (hcode rfl)
                obtain ⟨rfl, q⟩ := q
                exact hst a' w' q
            refine calls_of_wp_defers hfn hb ?_
            -- what stands behind the body
            have last : ∀ {tm' : Tr AV} {hp1 : Hp} {nx1 : Nat} (hsrc : ih (.code c) (startTm args 0 .leaf) fn.ntmps hp nx = .norm tm' hp1 nx1 ∨ ih (.code c) (startTm args 0 .leaf) fn.ntmps hp nx = .ret tm' hp1 nx1), leaveS P ih tm' hp1 nx1 (fun hp nx => Option.rec (motive := fun _ => Out) (.fail "results") (fun l => .value (one1 l) hp nx) (resF P tm' hp fn.results.toList)) = .value v hp' nx' →
                ∀ a' w', St P r w fn.ntmps tm' hp1 nx1 a' w' → Leaves P fn a'.tmps (fun e w' => ∃ x r', e = .returned x ∧ Rel r' v x ∧ Ext r r' w ∧ Fr r w w' ∧ Gam (getB hp') r' w' ∧ Fresh nx' r') a'.defers .returning w' := by
              intro tm' hp1 nx1 hsrc hl a' w' hst'
              obtain ⟨r', q1, q2, q3, q4, q5⟩ := hst'
              unfold leaveS at hl
              have hdf := q1.defs
              cases hdd : getP .h tm' with
              | none =>
                rw [hdd] at hl hdf
                have hdf' : a'.defers = [] := hdf
                obtain ⟨l, l1, rfl, rfl, rfl⟩ := opt (show Option.rec (motive := fun _ => Out) (.fail "results") (fun l => .value (one1 l) hp1 nx1) (resF P tm' hp1 fn.results.toList) = .value v hp' nx' from hl)
                obtain ⟨x, x1, x2⟩ := results_ok (P := P) q1 q4 l1
                rw [hdf']
                exact ⟨x, x1, x, r', rfl, x2, q2, q3, q4, q5⟩
              | some dv =>
                rw [hdd] at hl hdf
                unfold DfOk at hdf
                split at hdf
                · rename_i heq; exact absurd heq (by simp)
                · rename_i gf cs heq
                  injection heq with heq
                  subst heq
                  obtain ⟨cv, d1, d2⟩ := hdf
                  have hl' : leaveD ih gf cs hp1 nx1 (fun hp nx => Option.rec (motive := fun _ => Out) (.fail "results") (fun l => .value (one1 l) hp nx) (resF P tm' hp fn.results.toList)) (funKind P gf) = Out.value v hp' nx' := hl
                  cases hfk : funKind P gf with
                  | none => rw [hfk] at hl'; exact absurd (show Out.fail "deferred" = .value v hp' nx' from hl') (by simp)
                  | some fk =>
                    rw [hfk] at hl'
                    cases fk with
                    | clone => exact absurd (show Out.fail "deferred" = .value v hp' nx' from hl') (by simp)
                    | own =>
                      have hown := (funKind_ok hfk).2
                      have hl2 : leaveE (ih (.call gf cs) .leaf 1 hp1 nx1) (fun hp nx => Option.rec (motive := fun _ => Out) (.fail "results") (fun l => .value (one1 l) hp nx) (resF P tm' hp fn.results.toList)) = Out.value v hp' nx' := hl'
                      cases hcl : ih (.call gf cs) .leaf 1 hp1 nx1 with
                      | value v2 hp2 nx2 =>
                        rw [hcl] at hl2
                        have hcall := (hk.call _ _ _ _ _ _ _ _ _ hcl r' w' cv d2 (hg.mono q2.le) q4 q5).2.1 rfl
                        rw [d1]
                        have hcv : (#[] : Array Value) ++ cv = cv := by simp
                        refine leaves_cons (by simp) (f := gf) (args := cv) (by simp only [invoke]; rw [hcv]; exact hown cv w') (hcall.mono ?_)
                        rintro e u w2 ⟨x2, r2, rfl, rfl, p1, p2, p3, p4, p5⟩
                        obtain ⟨l, l1, rfl, rfl, rfl⟩ := opt (show Option.rec (motive := fun _ => Out) (.fail "results") (fun l => .value (one1 l) hp2 nx2) (resF P tm' hp2 fn.results.toList) = .value v hp' nx' from hl2)
                        obtain ⟨x, x1, x2'⟩ := results_ok (P := P) (q1.mono p2.le) p4 l1
                        exact ⟨x, x1, x, r2, rfl, x2', q2.trans p2 q3.size, q3.trans q2 p3, p4, p5⟩
                      | fail m => rw [hcl] at hl2; exact absurd (show Out.fail m = .value v hp' nx' from hl2) (by simp)
                      | norm _ _ _ => rw [hcl] at hl2; exact absurd (show Out.fail "deferred" = .value v hp' nx' from hl2) (by simp)
                      | exit _ _ _ _ => rw [hcl] at hl2; exact absurd (show Out.fail "deferred" = .value v hp' nx' from hl2) (by simp)
                      | ret _ _ _ => rw [hcl] at hl2; exact absurd (show Out.fail "deferred" = .value v hp' nx' from hl2) (by simp)
                · rename_i ml heq; exact absurd ⟨ml, by rw [hdd, heq]⟩ (hmk tm' hp1 nx1 hsrc)
                · exact hdf.elim
            cases ho : ih (.code c) (startTm args 0 .leaf) fn.ntmps hp nx with
            | norm tm' hp1 nx1 =>
              rw [ho] at h3 hcode
              refine Code.wp_mono (fun e a' w' q => ?_) (hcode rfl)
              obtain ⟨rfl, hst'⟩ := q
              exact last (.inl ho) h3 a' w' hst'
            | ret tm' hp1 nx1 =>
              rw [ho] at h3 hcode
              refine Code.wp_mono (fun e a' w' q => ?_) (hcode rfl)
              obtain ⟨rfl, hst'⟩ := q
              exact last (.inr ho) h3 a' w' hst'
            | exit _ _ _ _ => rw [ho] at h3; exact absurd (show Out.fail "left" = .value v hp' nx' from h3) (by simp)
            | value _ _ _ => rw [ho] at h3; exact absurd (show Out.fail "left" = .value v hp' nx' from h3) (by simp)
            | fail m => rw [ho] at h3; exact absurd (show Out.fail m = .value v hp' nx' from h3) (by simp)
          · subst hm
            have h3 : resO1 P fn (ih (.code c) (startTm args 0 .leaf) fn.ntmps hp nx) = .value v hp' nx' := h2
            have last : ∀ {tm' : Tr AV} {hp1 : Hp} {nx1 : Nat}, sel (getP .h tm').isSome (.fail "defers") (Option.rec (motive := fun _ => Out) (.fail "results") (fun l => .value (one1 l) hp1 nx1) (resF P tm' hp1 fn.results.toList)) = .value v hp' nx' →
                ∀ a' w', St P r w fn.ntmps tm' hp1 nx1 a' w' → a'.defers = [] ∧ ∃ x, (results fn a'.tmps).run P w' = .ok x w' ∧ ∃ y r', Ending.returned x = .returned y ∧ Rel r' v y ∧ Ext r r' w ∧ Fr r w w' ∧ Gam (getB hp') r' w' ∧ Fresh nx' r' := by
              intro tm' hp1 nx1 hl a' w' hst'
              obtain ⟨r', q1, q2, q3, q4, q5⟩ := hst'
              cases hdd : getP .h tm' with
              | some _ => rw [hdd] at hl; exact absurd (show Out.fail "defers" = .value v hp' nx' from hl) (by simp)
              | none =>
                rw [hdd] at hl
                obtain ⟨l, l1, rfl, rfl, rfl⟩ := opt (show Option.rec (motive := fun _ => Out) (.fail "results") (fun l => .value (one1 l) hp1 nx1) (resF P tm' hp1 fn.results.toList) = .value v hp' nx' from hl)
                obtain ⟨x, x1, x2⟩ := results_ok (P := P) q1 q4 l1
                have hdf := q1.defs
                rw [hdd] at hdf
                exact ⟨hdf, x, x1, x, r', rfl, x2, q2, q3, q4, q5⟩
            have hwp : c.wp P (bodyPost P fn fun e w' => ∃ x r', e = .returned x ∧ Rel r' v x ∧ Ext r r' w ∧ Fr r w w' ∧ Gam (getB hp') r' w' ∧ Fresh nx' r') { tmps := us ++ Array.replicate (fn.ntmps - us.size) undef, defers := [] } w := by
              cases ho : ih (.code c) (startTm args 0 .leaf) fn.ntmps hp nx with
              | norm tm' hp1 nx1 =>
                rw [ho] at h3 hcode
                refine Code.wp_mono (fun e a' w' q => ?_) (hcode rfl)
                obtain ⟨rfl, hst'⟩ := q
                exact last h3 a' w' hst'
              | ret tm' hp1 nx1 =>
                rw [ho] at h3 hcode
                refine Code.wp_mono (fun e a' w' q => ?_) (hcode rfl)
                obtain ⟨rfl, hst'⟩ := q
                exact last h3 a' w' hst'
              | exit _ _ _ _ => rw [ho] at h3; exact absurd (show Out.fail "left" = .value v hp' nx' from h3) (by simp)
              | value _ _ _ => rw [ho] at h3; exact absurd (show Out.fail "left" = .value v hp' nx' from h3) (by simp)
              | fail m => rw [ho] at h3; exact absurd (show Out.fail m = .value v hp' nx' from h3) (by simp)
            refine (callsD_of_wp (u := .returning) hfn hb hwp).mono ?_
            rintro e u w' ⟨rfl, x, r', rfl, q1, q2⟩
            exact ⟨x, r', rfl, rfl, q1, q2⟩
end
end Go.Proofs.YtdmelebgdaiinaaGreatDoor.Ev
