/- The evaluator: all operations; rows of them. The evaluator: code. The evaluator: regions that draw their order: what the checks say. The evaluator: regions that draw their order: how they stand in the midst. The evaluator: regions that draw their order: each step in the midst. The evaluator: regions that draw their order: single operations. The evaluator: regions that draw their order: one operation more. The evaluator: regions that draw their order: one call or write more. The evaluator: regions that draw their order. The evaluator: code in a round of a range over a function. The evaluator: what it says is so. The evaluator: ranges over functions. The evaluator: calls that are known. The deferred function of names.Resolve, where nothing went wrong. -/
import Derived.RangeFuncSeq
import Derived.RangeFuncLeaves
import Derived.RangeFuncRecord
import Derived.RangeFuncCalls
import Derived.OrdersIn
import Derived.Deep.Draws
import Derived.Orders
import Derived.TacticsIn
import Derived.Test.YtdmelebgdaiinaaGreatDoorChecked
import Derived.Recover
import Derived.Test.YtdmelebgdaiinaaGreatDoorJ3
set_option linter.unusedVariables false
set_option linter.unusedSimpArgs false
set_option linter.unusedVariables false
set_option linter.unusedSimpArgs false
namespace Go.Proofs.YtdmelebgdaiinaaGreatDoor.Ev
section
variable {P : Program} {r : Rho} {n : Nat} {tm : Tr AV} {a : Act} {w : World} {o : Oper} {hp : Hp} {nx : Nat}
theorem builtin_ok (ht:TmOk r n tm a) (hg:Glob P r) (g:Gam (getB hp) r w) (hf:Fresh nx r) {b:Builtin} {xs:Array Operand} {ts:Array TypeId} (ho:o.op=.call ⟨.builtin b,xs,ts⟩) :
  ResOk P o a r w (xcBuiltin b xs ts P tm hp nx):=by
 refine runR_ok fun vs h=>?_
 cases b <;> first | exact trivial | skip
 case append=>exact append_ok ht hg g hf ho h
 case cap =>
  refine runR_ok fun e h1=>arg1_ok fun x hv=>pureR_ok g hf fun v h2=>?_
  subst hv;exact cap_ok ht hg ho h1 h h2
 case copy=>exact copy_ok ht hg g hf ho h
 case clear=>exact clear_ok ht hg g hf ho h
 case delete=>exact delete_ok ht hg g hf ho h
 case len =>
  refine runR_ok fun k h1=>arg1_ok fun x hv=>pureR_ok g hf fun v h2=>?_
  subst hv;exact len_ok ht hg g ho h1 h h2
 case max =>
  refine arg2_ok fun x y hv=>pureR_ok g hf fun v h2=>?_
  subst hv;exact max_ok ht hg ho h h2
 case min =>
  refine arg2_ok fun x y hv=>pureR_ok g hf fun v h2=>?_
  subst hv;exact min_ok ht hg ho h h2
theorem opX_ok (ht:TmOk r n tm a) (hg:Glob P r) (g:Gam (getB hp) r w) (hf:Fresh nx r):ResOk P o a r w (opX o.op P tm hp nx):=by
 cases hop:o.op <;> first | exact trivial | skip
 case move x=>exact pureR_ok g hf fun v h=>move_ok ht hg (.inl hop) h
 case assign x=>exact pureR_ok g hf fun v h=>move_ok ht hg (.inr hop) h
 case pick c x y=>exact pureR_ok g hf fun v h=>pick_ok ht hg hop h
 case alloc t=>exact alloc_ok g hf hop
 case box t x=>exact box_ok ht hg g hf hop
 case build t ps=>exact pureR_ok g hf fun v h=>build_ok ht hg hop h
 case buildSlice t m ps=>exact buildSlice_ok ht hg g hf hop
 case insert t m k v=>exact update_ok ht hg g hf (.inr hop)
 case load t x=>exact pureR_ok g hf fun v h=>load_ok ht hg g hop h
 case store t x v=>exact store_ok ht hg g hf hop
 case nilCheck x=>exact pureR_ok g hf fun v h=>nilCheck_ok ht hg hop h
 case binOp op t x y t'=>exact pureR_ok g hf fun v h=>bin_ok ht hg hop h
 case unOp op t x=>exact pureR_ok g hf fun v h=>un_ok ht hg hop h
 case convert s d x=>exact pureR_ok g hf fun v h=>conv_ok ht hg hop h
 case makeInterface t x=>exact pureR_ok g hf fun v h=>iface_ok ht hg hop h
 case makeFunc fn x y =>
  cases fn <;> first | exact trivial | exact pureR_ok g hf fun v h=>func_ok ht hg hop h
 case makeMap t x=>exact makeMap_ok g hf hop
 case makeSlice t x y=>exact makeSlice_ok ht hg g hf hop
 case slice t x lo hi mx=>exact pureR_ok g hf fun v h=>slice_ok ht hg hop h
 case fieldAddr s x f=>exact pureR_ok g hf fun v h=>fieldAddr_ok ht hg hop h
 case field s x f=>exact pureR_ok g hf fun v h=>field_ok ht hg hop h
 case indexAddr t x i=>exact pureR_ok g hf fun v h=>indexAddr_ok ht hg hop h
 case index t x i=>exact pureR_ok g hf fun v h=>index_ok ht hg hop h
 case lookup t x i ok=>exact pureR_ok g hf fun v h=>lookup_ok ht hg g hop h
 case mapUpdate t m k v=>exact update_ok ht hg g hf (.inl hop)
 case range t x=>exact range_ok ht hg g hf hop
 case next x s=>exact next_ok ht hg g hf hop
 case typeAssert x t' t ok=>exact pureR_ok g hf fun v h=>assert_ok ht hg hop h
 case extract x i=>exact pureR_ok g hf fun v h=>extract_ok ht hg hop h
 case call c =>
  obtain⟨callee,xs,ts⟩:=c
  cases callee with
  | value f=>exact value_ok ht hg g hf hop
  | invoke f name=>exact invoke_ok ht hg g hf hop
  | builtin b=>exact builtin_ok ht hg g hf hop
theorem slot_set (tm:Tr AV) (v:AV) (d t:Nat):slot (setP (some v) (pos (Nat.succ d)) tm) t=if t=d then v else slot tm t:=by
 unfold slot
 split
 ·rename_i h;subst h;rw[getP_setP_same]
 ·rename_i h;rw[getP_setP_other _ _ _ _ fun e=>h (by have:=pos_inj e;omega)]
theorem TmOk.put (ht:TmOk r n tm a) {v:AV} {x:Value} (hv:Rel r v x) {d:Nat} (hd:d<n):TmOk r n (setP (some v) (pos (Nat.succ d)) tm) (a.put (some d) x):=by
 have hs:=ht.size
 refine⟨by simp[Act.put,hs],fun t=>?_,?_⟩
 ·rw[slot_set]
  simp only[Act.put,Array.getD_eq_getD_getElem?]
  split
  ·rename_i h;subst h
   rw[Array.getElem?_setIfInBounds_self,if_pos (by omega)]
   exact hv
  ·rename_i h
   rw[Array.getElem?_setIfInBounds_ne (Ne.symm h)]
   have:=ht.slot t
   rwa [Array.getD_eq_getD_getElem?] at this
 ·rw[getP_setP_other _ _ _ _ (Ne.symm (pos_succ_ne d))]
  exact ht.defs
def St (P:Program) (r:Rho) (w:World) (n:Nat) (tm:Tr AV) (hp:Hp) (nx:Nat) (a':Act) (w':World):Prop :=
 ∃ r',TmOk r' n tm a'∧Ext r r' w∧Fr r w w'∧Gam (getB hp) r' w'∧Fresh nx r'
theorem St.trans {tm':Tr AV} {hp':Hp} {nx':Nat} {a' a'':Act} {w' w'':World} {r':Rho} (e:Ext r r' w) (f:Fr r w w') (h:St P r' w' n tm hp nx a'' w''):St P r w n tm hp nx a'' w'':=by
 obtain⟨s,h1,h2,h3,h4,h5⟩:=h
 exact⟨s,h1,e.trans h2 f.size,f.trans e h3,h4,h5⟩
theorem putD_ok {dst:Option Tmp} {v:AV} {o':Out} (h:putD dst v tm n hp nx=o'):(∃ m,o'=.fail m)∨∃ tm',o'=.norm tm' hp nx∧∀ {r:Rho} {a:Act} {x:Value},TmOk r n tm a→Rel r v x→TmOk r n tm' (a.put dst x):=by
 cases dst with
 | none=>exact .inr ⟨tm,h.symm,fun ht _=>ht⟩
 | some d =>
  cases hd:Nat.blt d n with
  | true =>
   refine .inr ⟨setP (some v) (pos (Nat.succ d)) tm,?_,fun ht hv=>ht.put hv (blt_lt hd)⟩
   rw[← h]
   show Bool.rec (motive:=fun _=>Out) _ _ (Nat.blt d n)=_
   rw[hd]
  | false =>
   refine .inl ⟨"put", ?_⟩
   rw[← h]
   show Bool.rec (motive:=fun _=>Out) _ _ (Nat.blt d n)=_
   rw[hd]
theorem wanted_ok (ht:TmOk r n tm a) {ops:Array Oper} {t:Bool} (h:wanted? ops o.guard tm=some t):Region.wanted o (yielded ops a.tmps)=t:=by
 unfold Region.wanted
 cases hgd:o.guard with
 | none=>rw[hgd] at h;injection (show some true=some t from h) with h
 | some p =>
  obtain⟨j,want⟩:=p
  rw[hgd] at h
  obtain⟨d,h1,h2⟩:=bnd_some (show bnd (bnd ops[j]? (·.dst)) (fun d=>wantedB (slot tm d) want)=some t from h)
  obtain⟨q,h3,h4⟩:=bnd_some h1
  have hs:=ht.slot d
  have hy:yielded ops a.tmps j=match a.tmps[d]? with | some (.bool b)=>some b | _=>none:=by
   unfold yielded
   rw[h3]
   simp only[Option.bind_some,h4]
   rfl
  simp only[hy]
  rw[Array.getD_eq_getD_getElem?] at hs
  cases hsl:slot tm d with
  | bool b =>
   rw[hsl] at h2 hs
   injection (show some (sel b want (not want))=some t from h2) with h2
   have hb:=rel_bool.1 hs
   cases hd:a.tmps[d]? with
   | none=>rw[hd] at hb;exact absurd hb (by simp[undef])
   | some u =>
    rw[hd] at hb
    simp only[Option.getD_some] at hb
    subst hb;subst h2
    cases b <;> cases want <;> rfl
  | tuple l =>
   rw[hsl] at h2 hs
   cases l with
   | cons _ _=>exact absurd h2 (by simp[wantedB])
   | nil =>
    injection (show some false=some t from h2) with h2
    subst h2
    obtain⟨x,hx,_⟩:=rel_tuple.1 hs
    cases hd:a.tmps[d]? with
    | none=>rfl
    | some u =>
     rw[hd] at hx
     simp only[Option.getD_some] at hx
     subst hx;rfl
  | _=>rw[hsl] at h2;exact absurd h2 (by simp[wantedB])
end
def IterOk (P:Program) (f:FuncId) (sz:Nat):Prop :=
 (∀ args w,(callFunc f args).run P w=.ok (.enter f args) w)∧∀ (l:Nat) (A:Addr) (len:Nat) (I:Nat→World→Prop) (W0:World),(∀ k W n,I k W→I k (W.drewN n))→len≤1000000 →
  (∃ a cap,W0.cell? A=some (.slice (some a) len cap)) →
  (∀ k W,I (k+1) W→∃ (b o m cap:Nat) (us:List Value),W.cell? A=some (.slice (some ⟨b,o,none⟩) m cap)∧k<m∧us.length=sz∧(∀ (i:Nat) (u:Value),us[i]?=some u→W.cell? ⟨b,o+k * sz+i,none⟩=some u) ∧
   ∀ n,YieldAt Fence.wide 0 P l #[.int .i64 (k:Int),.agg us.toArray] (W.drewN n) fun e W'=>e=.returned (.bool true)∧I k W') →
  I len W0→CallsIn Fence.wide 0 P f #[.func (.yield l) #[] #[],.pointer (some A)] W0 fun e W'=>(∃ v,e=.returned v)∧I 0 W'
def CallOk (P:Program) (mode:Nat) (f:FuncId) (args:List AV) (hp:Hp) (nx:Nat) (v:AV) (hp':Hp) (nx':Nat):Prop :=
 ∀ r w (us:Array Value),Rels r args us.toList→Glob P r→Gam (getB hp) r w→Fresh nx r →
  (mode=0→Calls P f us w fun e w'=>∃ x r',e=.returned x∧Rel r' v x∧Ext r r' w∧Fr r w w'∧Gam (getB hp') r' w'∧Fresh nx' r') ∧
  (mode=1→CallsD P f us .returning w fun e u w'=>∃ x r',e=.returned x∧u=.returning∧Rel r' v x∧Ext r r' w∧Fr r w w'∧Gam (getB hp') r' w'∧Fresh nx' r') ∧
  (mode=7→∀ k sz,v=.int k (.ofNat sz)→IterOk P f sz)
def Post (P:Program) (r:Rho) (w:World) (n:Nat):Out→Exit→Act→World→Prop
 | .norm tm hp nx=>fun e a' w'=>e=.normal∧St P r w n tm hp nx a' w'
 | .exit id tm hp nx=>fun e a' w'=>e=.exit id∧St P r w n tm hp nx a' w'
 | .ret tm hp nx=>fun e a' w'=>e=.ret∧St P r w n tm hp nx a' w'
 | _=>fun _ _ _=>True
def Out.good:Out→Bool | .norm _ _ _=>true | .exit _ _ _ _=>true | .ret _ _ _=>true | _=>false
def CodeOk (P:Program) (c:Code) (tm:Tr AV) (n:Nat) (hp:Hp) (nx:Nat) (out:Out):Prop :=
 ∀ r w a,TmOk r n tm a→Glob P r→Gam (getB hp) r w→Fresh nx r→out.good=true→c.wp P (Post P r w n out) a w
def LoopFrom (P:Program) (c:Code) (Q:Exit→Act→World→Prop) (a:Act) (w:World):Prop :=
 ∀ (b:Frame) (k:List Item) (cs:List Frame),∃ e a' w',Q e a' w'∧Arrives P (Go.lone (b.at a (.code c :: .inLoop c :: k)) cs w) b k cs e a' w'
def LoopOk (P:Program) (c:Code) (tm:Tr AV) (n:Nat) (hp:Hp) (nx:Nat) (out:Out):Prop :=
 ∀ r w a,TmOk r n tm a→Glob P r→Gam (getB hp) r w→Fresh nx r→out.good=true→LoopFrom P c (Post P r w n out) a w
structure KOk (P:Program) (ih:K):Prop where
 loop:∀ c tm n hp nx,LoopOk P c tm n hp nx (ih (.code (.loop c)) tm n hp nx)
 code:∀ c tm n hp nx,CodeOk P c tm n hp nx (ih (.code c) tm n hp nx)
 call:∀ f args tm mode hp nx v hp' nx',ih (.call f args) tm mode hp nx=.value v hp' nx'→CallOk P mode f args hp nx v hp' nx'
def CodeOkR (P:Program) (l:Nat) (c:Code) (tm:Tr AV) (n:Nat) (hp:Hp) (nx:Nat) (out:Out):Prop :=
 ∀ r w a,TmOk r n tm a→Glob P r→Gam (getB hp) r w→Fresh nx r→out.good=true→c.wpIn (Fence.wide.inRound l) 0 P (Post P r w n out) a w
def LoopFromR (P:Program) (l:Nat) (c:Code) (Q:Exit→Act→World→Prop) (a:Act) (w:World):Prop :=
 ∀ (b:Frame) (k:List Item) (cs:List Frame),b.roundOf=some l→∃ e a' w',Q e a' w'∧ArrivesIn (Machine.fenced P (Fence.wide.inRound l)) P (Go.lone (b.atR a (.code c :: .inLoop c :: k)) cs w) b k cs e a' w'
def LoopOkR (P:Program) (l:Nat) (c:Code) (tm:Tr AV) (n:Nat) (hp:Hp) (nx:Nat) (out:Out):Prop :=
 ∀ r w a,TmOk r n tm a→Glob P r→Gam (getB hp) r w→Fresh nx r→out.good=true→LoopFromR P l c (Post P r w n out) a w
structure KOkR (P:Program) (ih:K):Prop where
 loop:∀ l c tm n hp nx,okC c=true→LoopOkR P l c tm n hp nx (ih (.code (.loop c)) tm n hp nx)
 code:∀ l c tm n hp nx,okC c=true→CodeOkR P l c tm n hp nx (ih (.code c) tm n hp nx)
section
variable {P : Program} {r : Rho} {n : Nat} {tm : Tr AV} {a : Act} {w : World} {o : Oper} {hp : Hp} {nx : Nat} {ih : K}
theorem opS_ok (hk:KOk P ih) (ht:TmOk r n tm a) (hg:Glob P r) (g:Gam (getB hp) r w) (hf:Fresh nx r) {ops:Array Oper} {out:Out} (h:opS o ops ih P tm n hp nx=out) :
  (∃ m,out=.fail m)∨∃ tm' hp' nx',out=.norm tm' hp' nx'∧∀ (K:Act→World→Prop) (Q:Exit→Act→World→Prop),(∀ a' w',St P r w n tm' hp' nx' a' w'→K a' w') →
   if Region.wanted o (yielded ops a.tmps) then o.wp P a w K Q else K (a.put o.dst undef) w:=by
 unfold opS at h
 cases hw:wanted? ops o.guard tm with
 | none=>rw[hw] at h;exact .inl ⟨_,h.symm⟩
 | some t =>
  rw[hw] at h
  have hwd:=wanted_ok ht hw
  cases t with
  | false =>
   have h':putD o.dst (.tuple []) tm n hp nx=out:=h
   rcases putD_ok h' with hm | ⟨tm',h1,h2⟩
   ·exact .inl hm
   ·refine .inr ⟨tm',hp,nx,h1,fun K Q hK=>?_⟩
    rw[hwd]
    exact hK _ _ ⟨r,h2 ht rel_undef,Ext.refl _ _,Fr.refl _ _,g,hf⟩
  | true =>
   have h':finR P ih o tm n hp nx (opX o.op P tm hp nx)=out:=h
   have hres:=opX_ok (o:=o) ht hg g hf
   cases hR:opX o.op P tm hp nx with
   | ok v hp' nx' =>
    rw[hR] at h' hres
    have h'':putD o.dst v tm n hp' nx'=out:=h'
    rcases putD_ok h'' with hm | ⟨tm',h1,h2⟩
    ·exact .inl hm
    ·refine .inr ⟨tm',hp',nx',h1,fun K Q hK=>?_⟩
     rw[hwd,if_pos rfl]
     obtain⟨x,w',r',h3,h4,h5,h6,h7,h8⟩:=hres
     unfold Oper.wp
     rcases h3 with h3 | ⟨h3,rfl⟩
     ·rw[h3];exact hK _ _ ⟨r',h2 (ht.mono h5.le) h4,h5,h6,h7,h8⟩
     ·rw[h3];exact hK _ _ ⟨r',h2 (ht.mono h5.le) h4,h5,h6,h7,h8⟩
   | call f args =>
    rw[hR] at h' hres
    have h'':putO o.dst tm n (ih (.call f args) .leaf 0 hp nx)=out:=h'
    cases hc:ih (.call f args) .leaf 0 hp nx with
    | value v hp' nx' =>
     rw[hc] at h''
     rcases putD_ok (show putD o.dst v tm n hp' nx'=out from h'') with hm | ⟨tm',h1,h2⟩
     ·exact .inl hm
     ·refine .inr ⟨tm',hp',nx',h1,fun K Q hK=>?_⟩
      rw[hwd,if_pos rfl]
      obtain⟨us,h3,h4⟩:=hres
      have hcall:=(hk.call _ _ _ _ _ _ _ _ _ hc r w us h4 hg g hf).1 rfl
      unfold Oper.wp
      rw[h3]
      refine hcall.mono ?_
      rintro e w' ⟨x,r',rfl,h5,h6,h7,h8,h9⟩
      exact hK _ _ ⟨r',h2 (ht.mono h6.le) h5,h6,h7,h8,h9⟩
    | fail m=>rw[hc] at h'';exact .inl ⟨m,h''.symm⟩
    | norm _ _ _=>rw[hc] at h'';exact .inl ⟨_,h''.symm⟩
    | exit _ _ _ _=>rw[hc] at h'';exact .inl ⟨_,h''.symm⟩
    | ret _ _ _=>rw[hc] at h'';exact .inl ⟨_,h''.symm⟩
   | no =>
    rw[hR] at h'
    have h'':noR P o tm hp nx=out:=h'
    unfold noR at h''
    split at h''
    ·rename_i c hop
     cases hd:o.dst with
     | some d=>rw[hd] at h'';exact .inl ⟨_,h''.symm⟩
     | none =>
      rw[hd] at h''
      have h3:deferS P c tm hp nx=out:=h''
      unfold deferS at h3
      split at h3
      ·rename_i f ts
       cases hq:sel (getP .h tm).isSome none (opnd P f tm) with
       | none=>rw[hq] at h3;exact .inl ⟨_,h3.symm⟩
       | some v =>
        rw[hq] at h3
        obtain⟨h4,h5⟩:=sel_none' hq
        have hnone:getP .h tm=none:=by
         cases hgp:getP .h tm with
         | none=>rfl
         | some _=>rw[hgp] at h4;exact absurd h4 (by simp)
        have h3:dfOf v tm hp nx=out:=h3
        cases v with
        | func gf fs cs =>
         cases fs with
         | cons _ _=>exact .inl ⟨_,h3.symm⟩
         | nil =>
           refine .inr ⟨_,hp,nx,h3.symm,fun K Q hK=>?_⟩
           rw[hwd,if_pos rfl]
           obtain⟨x,y,e1,e2,e3⟩:=rel_func.1 (opnd_ok ht hg h5)
           have hx:x=#[]:=by rw[← Array.toList_inj];exact Rels_nil.1 e2
           subst hx
           have hdf:=ht.defs
           rw[hnone] at hdf
           have hdf':a.defers=[]:=hdf
           have hrun:(execOp a.eval o).run P w=.ok (.defer { target:=.fn (.func gf) y,args:=#[] }) w:=by
            simp[execOp,hop,resolve,Deferred.ofValue,e1]
           unfold Oper.wp
           rw[hrun]
           show K (({ a with defers:=_ :: a.defers } : Act).put o.dst undef) w
           rw[hd,hdf']
           refine hK _ _ ⟨r,⟨ht.size,fun t=>?_,?_⟩,Ext.refl _ _,Fr.refl _ _,g,hf⟩
           ·have:slot (setP (some (AV.tuple [.func gf [] cs])) .h tm) t=slot tm t:=by
             unfold slot
             rw[getP_setP_other _ _ _ _ (pos_succ_ne t)]
            rw[this]
            exact ht.slot t
           ·rw[getP_setP_same]
            exact⟨y,rfl,e3⟩
        | _=>exact .inl ⟨_,h3.symm⟩
      ·exact .inl ⟨_,h3.symm⟩
    ·exact .inl ⟨_,h''.symm⟩
theorem opsS_ok (hk:KOk P ih) {ops:Array Oper} : ∀ (l:List Oper) {tm:Tr AV} {hp:Hp} {nx:Nat} {r:Rho} {a:Act} {w:World} {out:Out},TmOk r n tm a→Glob P r→Gam (getB hp) r w→Fresh nx r→opsS ops l ih P tm n hp nx=out→out.good=true →
  ∀ (Q:Exit→Act→World→Prop),(∀ e a' w',Post P r w n out e a' w'→Q e a' w')→wpList P ops Q l a w:=by
 intro l
 induction l with
 | nil =>
  intro tm hp nx r a w out ht hg g hf h _ Q hQ
  have h':Out.norm tm hp nx=out:=h
  subst h'
  exact hQ _ _ _ ⟨rfl,r,ht,Ext.refl _ _,Fr.refl _ _,g,hf⟩
 | cons o l ihl =>
  intro tm hp nx r a w out ht hg g hf h hgood Q hQ
  have h':onNorm (opS o ops ih P tm n hp nx) (fun tm hp nx=>opsS ops l ih P tm n hp nx)=out:=h
  rcases opS_ok hk ht hg g hf (rfl:opS o ops ih P tm n hp nx=_) with ⟨m,hm⟩ | ⟨tm',hp',nx',h1,h2⟩
  ·rw[hm] at h'
   have:Out.fail m=out:=h'
   subst this;exact absurd (show false=true from hgood) (by decide)
  ·rw[h1] at h'
   have h'':opsS ops l ih P tm' n hp' nx'=out:=h'
   refine wpList_step fun K hK=>?_
   refine h2 K Q fun a' w' hst=>?_
   obtain⟨r',q1,q2,q3,q4,q5⟩:=hst
   refine hK _ _ (ihl q1 (hg.mono q2.le) q4 q5 h'' hgood Q fun e a'' w'' hp=>hQ _ _ _ ?_)
   cases out <;> first | exact trivial | exact⟨hp.1,St.trans (tm':=tm) (hp':=hp') (nx':=nx) (a':=a) q2 q3 hp.2⟩
end
end Go.Proofs.YtdmelebgdaiinaaGreatDoor.Ev
set_option linter.unusedVariables false
set_option linter.unusedSimpArgs false
namespace Go.Proofs.YtdmelebgdaiinaaGreatDoor.Ev
section
variable {P : Program} {r : Rho} {n : Nat} {tm : Tr AV} {a : Act} {w : World} {hp : Hp} {nx : Nat} {ih : K}
theorem loopFrom_round {c:Code} {Q:Exit→Act→World→Prop} (h:c.wp P (Exit.then (fun a' w'=>LoopFrom P c Q a' w') Q) a w):LoopFrom P c Q a w:=by
 intro b k cs
 obtain⟨e,a₁,w₁,hq,harr⟩:=h b (.inLoop c :: k) cs
 cases e with
 | normal =>
  obtain⟨e₂,a₂,w₂,hq₂,harr₂⟩:=hq b k cs
  exact⟨e₂,a₂,w₂,hq₂,.of_steps (Steps.trans harr (.one step_inLoop)) harr₂⟩
 | exit id=>exact⟨_,a₁,w₁,hq,.pass (x:=.inLoop c) rfl (fun _ _=>.inl (by simp)) harr⟩
 | goto l=>exact⟨_,a₁,w₁,hq,.pass (x:=.inLoop c) rfl (fun _ _=>.inl (by simp)) harr⟩
 | ret=>exact⟨_,a₁,w₁,hq,.pass (x:=.inLoop c) rfl (fun _ _=>.inl (by simp)) harr⟩
 | panic ch=>exact⟨_,a₁,w₁,hq,.pass (x:=.inLoop c) rfl (fun _ _=>.inl (by simp)) harr⟩
 | outgrown=>exact⟨_,a₁,w₁,hq,.pass (x:=.inLoop c) rfl (fun _ _=>.inl (by simp)) harr⟩
theorem wp_of_loopFrom {c:Code} {Q:Exit→Act→World→Prop} (h:LoopFrom P c Q a w):(Code.loop c).wp P Q a w:=by
 intro b k cs
 obtain⟨e,a',w',hq,harr⟩:=h b k cs
 exact⟨e,a',w',hq,.of_steps (.one step_loop) harr⟩
theorem Post.trans {tm':Tr AV} {hp':Hp} {nx':Nat} {a':Act} {w':World} {r':Rho} (e:Ext r r' w) (f:Fr r w w') {out:Out} {x:Exit} {a'':Act} {w'':World} (h:Post P r' w' n out x a'' w''):Post P r w n out x a'' w'':=by
 cases out with
 | norm _ _ _=>exact⟨h.1,h.2.trans (tm':=tm') (hp':=hp') (nx':=nx') (a':=a') e f⟩
 | exit _ _ _ _=>exact⟨h.1,h.2.trans (tm':=tm') (hp':=hp') (nx':=nx') (a':=a') e f⟩
 | ret _ _ _=>exact⟨h.1,h.2.trans (tm':=tm') (hp':=hp') (nx':=nx') (a':=a') e f⟩
 | value _ _ _=>exact trivial
 | fail _=>exact trivial
def DrawOk (P:Program):Prop:=∀ ih,KOk P ih→∀ id ops tm n hp nx,CodeOk P (.region id ops true) tm n hp nx (drawS ops ih P tm n hp nx)
def RangeOk (P:Program):Prop:=∀ ih,KOk P ih→KOkR P ih→∀ g ps asg body tm n hp nx,CodeOk P (.rangeFunc g ps asg body) tm n hp nx (cRange g ps asg body ih P tm n hp nx)
theorem sel_none2 {a b:Bool} (h:sel a b false=true):a=true∧b=true:=by cases a <;> cases b <;> simp_all [sel]
theorem seq_ok {c:Code} {o1:Out} {f:Tr AV→Hp→Nat→Out} {Q:Exit→Act→World→Prop} (ht:TmOk r n tm a) (hg:Glob P r) (g:Gam (getB hp) r w) (hf:Fresh nx r) (h1:CodeOk P c tm n hp nx o1)
  (hgood:(onNorm o1 f).good=true) {next:Act→World→Prop}
  (h2:∀ tm' hp' nx' r' a' w',o1=.norm tm' hp' nx'→TmOk r' n tm' a'→Glob P r'→Gam (getB hp') r' w'→Fresh nx' r'→Ext r r' w→Fr r w w'→next a' w')
  (h3:∀ e a' w',Post P r w n (onNorm o1 f) e a' w'→Q e a' w'):c.wp P (Exit.then next Q) a w:=by
 cases o1 with
 | norm tm' hp' nx' =>
  refine Code.wp_mono (fun e a' w' hp=>?_) (h1 r w a ht hg g hf rfl)
  obtain⟨rfl,r',q1,q2,q3,q4,q5⟩:=hp
  exact h2 _ _ _ r' a' w' rfl q1 (hg.mono q2.le) q4 q5 q2 q3
 | exit id tm' hp' nx' =>
  refine Code.wp_mono (fun e a' w' hp=>?_) (h1 r w a ht hg g hf rfl)
  obtain⟨rfl,hst⟩:=hp
  exact h3 _ _ _ ⟨rfl,hst⟩
 | ret tm' hp' nx' =>
  refine Code.wp_mono (fun e a' w' hp=>?_) (h1 r w a ht hg g hf rfl)
  obtain⟨rfl,hst⟩:=hp
  exact h3 _ _ _ ⟨rfl,hst⟩
 | value _ _ _=>exact absurd (show false=true from hgood) (by decide)
 | fail _=>exact absurd (show false=true from hgood) (by decide)
theorem loop_ok (hk:KOk P ih) (c:Code) (tm:Tr AV) (n:Nat) (hp:Hp) (nx:Nat):LoopOk P c tm n hp nx (cLoop c ih P tm n hp nx):=by
 intro r w a ht hg g hf hgood
 refine loopFrom_round (seq_ok (f:=fun tm hp nx=>ih (.code (.loop c)) tm n hp nx) ht hg g hf (hk.code c tm n hp nx) hgood ?_ fun _ _ _ h=>h)
 intro tm' hp' nx' r' a' w' ho ht' hg' g' hf' he hfr
 have hgood':(onNorm (ih (.code c) tm n hp nx) fun tm hp nx=>ih (.code (.loop c)) tm n hp nx).good=true:=hgood
 rw[ho] at hgood'
 have:=hk.loop c tm' n hp' nx' r' w' a' ht' hg' g' hf' hgood'
 intro b k cs
 obtain⟨e,a2,w2,q,arr⟩:=this b k cs
 refine⟨e,a2,w2,?_,arr⟩
 show Post P r w n (onNorm (ih (.code c) tm n hp nx) fun tm hp nx=>ih (.code (.loop c)) tm n hp nx) e a2 w2
 rw[ho]
 exact Post.trans (tm':=tm') (hp':=hp') (nx':=nx') (a':=a') he hfr q
theorem code_ok (hk:KOk P ih) (hkr:KOkR P ih) (hd:DrawOk P) (hra:RangeOk P) (c:Code) (tm:Tr AV) (n:Nat) (hp:Hp) (nx:Nat):CodeOk P c tm n hp nx (codeS c ih P tm n hp nx):=by
 intro r w a ht hg g hf hgood
 cases c with
 | skip=>exact wp_skip ⟨rfl,r,ht,Ext.refl _ _,Fr.refl _ _,g,hf⟩
 | label l=>exact wp_label ⟨rfl,r,ht,Ext.refl _ _,Fr.refl _ _,g,hf⟩
 | region id ops draw =>
  cases draw with
  | false=>exact wp_region_list (opsS_ok hk ops.toList ht hg g hf rfl hgood _ fun _ _ _ h=>h)
  | true=>exact hd ih hk id ops tm n hp nx r w a ht hg g hf hgood
 | seq x y =>
  refine wp_seq (seq_ok (f:=fun tm hp nx=>ih (.code y) tm n hp nx) ht hg g hf (hk.code x tm n hp nx) hgood ?_ fun _ _ _ h=>h)
  intro tm' hp' nx' r' a' w' ho ht' hg' g' hf' he hfr
  have hgood':(onNorm (ih (.code x) tm n hp nx) fun tm hp nx=>ih (.code y) tm n hp nx).good=true:=hgood
  rw[ho] at hgood'
  refine Code.wp_mono (fun e a2 w2 q=>?_) (hk.code y tm' n hp' nx' r' w' a' ht' hg' g' hf' hgood')
  show Post P r w n (onNorm (ih (.code x) tm n hp nx) fun tm hp nx=>ih (.code y) tm n hp nx) e a2 w2
  rw[ho]
  exact Post.trans (tm':=tm') (hp':=hp') (nx':=nx') (a':=a') he hfr q
 | cond c x y =>
  have hgood' : Out.good (Option.rec (motive := fun _ => Out) (.fail "cond") (fun t => ih (.code (sel t x y)) tm n hp nx) (bnd (opnd P c tm) asBool)) = true := hgood
  cases hc:bnd (opnd P c tm) asBool with
  | none=>rw[hc] at hgood';exact absurd (show false=true from hgood') (by decide)
  | some t =>
   rw[hc] at hgood'
   obtain⟨b,h1,h2⟩:=bnd_some hc
   have:=asBool_some h2;subst this
   have hev:=rel_bool.1 (opnd_ok ht hg h1)
   have hcode:=hk.code (sel t x y) tm n hp nx r w a ht hg g hf hgood'
   have hout:codeS (.cond c x y) ih P tm n hp nx=ih (.code (sel t x y)) tm n hp nx:=by
    show Option.rec (motive := fun _ => Out) (.fail "cond") (fun t => ih (.code (sel t x y)) tm n hp nx) (bnd (opnd P c tm) asBool) = _
    rw[hc]
   rw[hout]
   refine wp_cond hev ?_
   cases t <;> exact hcode
 | block id c =>
  refine wp_block ?_
  have hgood':(offBlock id (ih (.code c) tm n hp nx)).good=true:=hgood
  have hcode:=hk.code c tm n hp nx r w a ht hg g hf
  have hout:codeS (.block id c) ih P tm n hp nx=offBlock id (ih (.code c) tm n hp nx):=rfl
  rw[hout]
  cases ho:ih (.code c) tm n hp nx with
  | norm tm' hp' nx' =>
   rw[ho] at hcode
   refine Code.wp_mono (fun e a' w' q=>?_) (hcode rfl)
   obtain⟨rfl,hst⟩:=q
   exact⟨rfl,hst⟩
  | exit j tm' hp' nx' =>
   rw[ho] at hcode
   refine Code.wp_mono (fun e a' w' q=>?_) (hcode rfl)
   obtain⟨rfl,hst⟩:=q
   show Exit.inBlock id (Post P r w n (sel (Nat.beq j id) (.norm tm' hp' nx') (.exit j tm' hp' nx'))) (.exit j) a' w'
   unfold Exit.inBlock
   dsimp only
   cases hj:Nat.beq j id with
   | true=>rw[if_pos (beq_eq hj)];exact⟨rfl,hst⟩
   | false =>
    rw[if_neg fun e=>by subst e;rw[Nat.beq_refl] at hj;exact absurd hj (by decide)]
    exact⟨rfl,hst⟩
  | ret tm' hp' nx' =>
   rw[ho] at hcode
   refine Code.wp_mono (fun e a' w' q=>?_) (hcode rfl)
   obtain⟨rfl,hst⟩:=q
   exact⟨rfl,hst⟩
  | value _ _ _=>rw[ho] at hgood';exact absurd (show false=true from hgood') (by decide)
  | fail _=>rw[ho] at hgood';exact absurd (show false=true from hgood') (by decide)
 | loop c=>exact wp_of_loopFrom (loop_ok hk c tm n hp nx r w a ht hg g hf hgood)
 | rangeFunc gg ps asg body=>exact hra ih hk hkr gg ps asg body tm n hp nx r w a ht hg g hf hgood
 | exit id=>exact wp_exit ⟨rfl,r,ht,Ext.refl _ _,Fr.refl _ _,g,hf⟩
 | scope _=>exact absurd (show false=true from hgood) (by decide)
 | goto _=>exact absurd (show false=true from hgood) (by decide)
 | ret=>exact wp_ret ⟨rfl,r,ht,Ext.refl _ _,Fr.refl _ _,g,hf⟩
 | refuse _=>exact absurd (show false=true from hgood) (by decide)
theorem startTm_slot:∀ (args:List AV) (i:Nat) (tm:Tr AV) (t:Nat),slot (startTm args i tm) t=if i≤t∧t<i+args.length then (args[t - i]?).getD (.tuple []) else slot tm t:=by
 intro args
 induction args with
 | nil=>intro i tm t;rw[if_neg (by simp only[List.length_nil];omega)];rfl
 | cons v args ihh =>
  intro i tm t
  show slot (startTm args (Nat.succ i) (setP (some v) (pos (Nat.succ i)) tm)) t=_
  rw[ihh,slot_set]
  simp only[List.length_cons]
  by_cases h1:Nat.succ i≤t∧t<Nat.succ i+args.length
  ·rw[if_pos h1,if_pos (by omega),show t - i=(t - Nat.succ i)+1 by omega,List.getElem?_cons_succ]
  ·rw[if_neg h1]
   by_cases h2:t=i
   ·subst h2;rw[if_pos rfl,if_pos (by omega)];simp
   ·rw[if_neg h2,if_neg (by omega)]
theorem startTm_df:∀ (args:List AV) (i:Nat) (tm:Tr AV),getP .h (startTm args i tm)=getP .h tm:=by
 intro args
 induction args with
 | nil=>intro i tm;rfl
 | cons v args ihh =>
  intro i tm
  show getP .h (startTm args (Nat.succ i) (setP (some v) (pos (Nat.succ i)) tm))=_
  rw[ihh,getP_setP_other _ _ _ _ (Ne.symm (pos_succ_ne i))]
theorem start_ok {args:List AV} {us:Array Value} (hu:Rels r args us.toList) {m:Nat} (hm:args.length≤m):TmOk r m (startTm args 0 .leaf) { tmps:=us++Array.replicate (m - us.size) undef,defers:=[] }:=by
 have hl:us.size=args.length:=by have:=hu.length;simpa using this
 refine⟨by simp;omega,fun t=>?_,?_⟩
 ·rw[startTm_slot]
  simp only[Nat.zero_le,true_and,Nat.zero_add,Nat.sub_zero,Array.getD_eq_getD_getElem?]
  by_cases ht:t<args.length
  ·rw[if_pos ht,Array.getElem?_append_left (by omega)]
   have h1:args[t]?=some args[t]:=List.getElem?_eq_getElem ht
   obtain⟨u,h2,h3⟩:=hu.get h1
   rw[h1]
   have h4:us[t]?=some u:=by rw[← h2];simp
   rw[h4]
   exact h3
  ·rw[if_neg ht,Array.getElem?_append_right (by omega)]
   have h0:slot (.leaf:Tr AV) t=.tuple []:=by unfold slot;rw[getP_leaf]
   rw[h0]
   have:((Array.replicate (m - us.size) undef)[t - us.size]?).getD undef=undef:=by
    rw[Array.getElem?_replicate];split <;> rfl
   rw[this]
   exact rel_undef
 ·rw[startTm_df,getP_leaf];rfl
theorem one1_ok {l:List AV} {us:Array Value} (h:Rels r l us.toList):Rel r (one1 l) (if h:us.size=1 then us[0] else .tuple us):=by
 unfold one1
 split
 ·rename_i v
  obtain⟨x,xs,e1,e2,e3⟩:=Rels_cons.1 h
  have:=Rels_nil.1 e3
  subst this
  have hus:us=#[x]:=by rw[← Array.toList_inj,e1]
  subst hus
  exact e2
 ·rename_i hne
  have hs:¬ us.size=1:=fun hs=>by
   have hl:=h.length
   rw[Array.length_toList,hs] at hl
   obtain⟨v,hv⟩:=List.length_eq_one_iff.1 hl.symm
   exact hne v hv
  rw[dif_neg hs]
  exact rel_tuple.2 ⟨us,rfl,h⟩
theorem resF_ok (ht:TmOk r n tm a) (g:Gam (getB hp) r w):∀ {rs:List ResultVar} {l:List AV},resF P tm hp rs=some l →
  ∃ us:List Value,Rels r l us∧(rs.mapM (fun x:ResultVar=>match x with | .tmp t=>pure (a.tmps.getD t undef) | .cell b t=>do loadVar t (← Go.asAddr (a.tmps.getD b undef))):Sem (List Value)).run P w=.ok us w:=by
 intro rs
 induction rs with
 | nil=>intro l h;injection (show some []=some l from h) with h;subst h;exact⟨[],Rels_nil.2 rfl,rfl⟩
 | cons x rs ihh =>
  intro l h
  cases x with
  | tmp t =>
   obtain⟨m,h1,h2⟩:=bnd_some (show bnd (resF P tm hp rs) (fun l=>some (slot tm t :: l))=some l from h)
   injection h2 with h2;subst h2
   obtain⟨us,q1,q2⟩:=ihh h1
   exact⟨_ :: us,Rels_cons.2 ⟨_,_,rfl,ht.slot t,q1⟩,by simp only[List.mapM_cons,Sem.run_bind,Sem.run_pure,Result.andThen_ok,q2]⟩
  | cell b t =>
   obtain⟨p,h1,h2⟩:=bnd_some (show bnd (asPtr (slot tm b)) (fun p=>bnd (aggSize P t) fun s=>bnd (loadB hp s p) fun v=>bnd (resF P tm hp rs) fun l=>some (v :: l))=some l from h)
   obtain⟨s,h3,h4⟩:=bnd_some h2
   obtain⟨v,h5,h6⟩:=bnd_some h4
   obtain⟨m,h7,h8⟩:=bnd_some h6
   injection h8 with h8;subst h8
   obtain⟨us,q1,q2⟩:=ihh h7
   have hp2:=asPtr_some h1
   have hs:=ht.slot b
   rw[hp2] at hs
   obtain⟨y,e1,e2⟩:=rel_ptr.1 hs
   obtain⟨u,l1,l2⟩:=loadB_run g h3 e1 h5
   refine⟨u :: us,Rels_cons.2 ⟨_,_,rfl,l2,q1⟩,?_⟩
   have hasA:(Go.asAddr (a.tmps.getD b undef)).run P w=.ok ⟨y.blk,y.sh+p.2,none⟩ w:=by rw[e2];rfl
   simp only[List.mapM_cons,Sem.run_bind,Sem.run_pure,Result.andThen_ok,hasA,l1,q2]
theorem results_ok (ht:TmOk r n tm a) (g:Gam (getB hp) r w) {fn:Func} {l:List AV} (h:resF P tm hp fn.results.toList=some l):∃ x,(results fn a.tmps).run P w=.ok x w∧Rel r (one1 l) x:=by
 obtain⟨us,h1,h2⟩:=resF_ok (P:=P) ht g h
 refine⟨_,?_,one1_ok (us:=us.toArray) (by simpa using h1)⟩
 unfold results
 rw[Array.mapM_eq_mapM_toList]
 simp only[Sem.run_bind,Sem.run_map]
 have:=h2
 erw [this]
 rfl
theorem Gam.kill {h h':H} {r:Rho} {w w':World} (g:Gam h r w) {m:Nat} {k:Blk} {x:BI} (hk:h m=some k) (ho:k.owned=true) (hsh:k.shares=[]) (hx:r m=some x)
  (hsub:∀ b j,h' b=some j→b≠m∧h b=some j) (hoth:∀ i,i≠x.blk→w'.heap[i]?=w.heap[i]?) (hsz:w.heap.size≤w'.heap.size):Gam h' r w':=by
 refine⟨fun b j hb=>?_,fun b y hb=>Nat.lt_of_lt_of_le (g.real _ _ hb) hsz,fun b j y b' j' y' h1 h2 h3 h4 h5 h6 h7=>g.sep b j y b' j' y' (hsub _ _ h1).2 h2 h3 (hsub _ _ h4).2 h5 h6 h7⟩
 obtain⟨e,h1⟩:=hsub b j hb
 obtain⟨y,h3,h4⟩:=g.blk b j h1
 refine⟨y,h3,h4.kept (Rho.le_refl r) (hoth _ fun e'=>?_)⟩
 have:=(g.sep m k x b j y hk ho hx h1 h3 e e').1
 rw[hsh] at this;exact absurd this (by simp)
theorem marks_leave {P:Program} {fn:Func} {tmps:Array Value} {R:Ending→World→Prop} {r:Rho} {k:Hp→Out} {o:Out} (hno:∀ m,o≠.fail m):∀ (ml:List AV) (ds:List Deferred) (hp:Hp) (w:World),MkOk r ml ds→Gam (getB hp) r w→leaveM ml k hp=o →
  (∀ hp2 w2,Gam (getB hp2) r w2→Fr r w w2→k hp2=o→∃ v,(results fn tmps).run P w2=.ok v w2∧R (.returned v) w2)→LeavesInM Fence.wide 0 P fn tmps R ds .returning w:=by
 intro ml
 induction ml with
 | nil =>
  intro ds hp w hm g h hk
  have hm:ds=[]:=hm
  subst hm
  exact hk hp w g (Fr.refl _ _) h
 | cons v ml ihm =>
  intro ds hp w hm g h hk
  obtain⟨D,oo,x,ds',rfl,e2,rfl,hm'⟩:=hm
  have h : sel (isDfr (getB hp D)) (leaveM ml k (setB none D hp)) (.fail "marks") = o := h
  cases hb:isDfr (getB hp D) with
  | false=>rw[hb] at h;exact absurd h.symm (hno _)
  | true =>
   rw[hb] at h
   have h:leaveM ml k (setB none D hp)=o:=h
   have hD:getB hp D=some .dfr:=by
    unfold isDfr at hb
    split at hb
    ·rename_i e;exact e
    ·exact absurd hb (by decide)
   obtain⟨x',r1,b1,b2⟩:=g.blk D _ hD
   rw[e2] at r1;injection r1 with r1;subst r1
   have hoth:∀ i,i≠x.blk→(w.putObj x.blk (.deferred none)).heap[i]?=w.heap[i]?:=fun i hi=>World.putObj_heap_other hi
   have hsz:w.heap.size≤(w.putObj x.blk (.deferred none)).heap.size:=by simp
   have F1:Fr r w (w.putObj x.blk (.deferred none)):=Fr.turn e2 b2 rfl rfl rfl hoth hsz
   refine⟨by simp,.inl ⟨x.blk,_,rfl,run_takeDeferred b1,ihm ds' (setB none D hp) _ hm' (g.kill hD rfl rfl e2 (fun b j hb=>?_) hoth hsz) h fun hp2 w2 g2 f2 hk2=>hk hp2 w2 g2 (F1.trans (Ext.refl _ _) f2) hk2⟩⟩
   rw[getB_setB] at hb
   split at hb
   ·exact absurd hb (by simp)
   ·rename_i hne;exact⟨hne,hb⟩
def HookOk (P:Program) (hk:Hook):Prop:=∀ mode f args hp nx v hp' nx',hk mode f args hp nx=some (v,hp',nx')→CallOk P mode f args hp nx v hp' nx'
theorem call_ok (hk : KOk P ih) {hook : Hook} (hh : HookOk P hook) (f : FuncId) (args : List AV) (tm : Tr AV) (mode : Nat) (hp : Hp) (nx : Nat) (v : AV) (hp' : Hp) (nx' : Nat)
    (h : callS hook f args ih P tm mode hp nx = .value v hp' nx') : CallOk P mode f args hp nx v hp' nx' := by
  unfold callS at h
  cases hq : hook mode f args hp nx with
  | some q =>
    obtain ⟨v0, hp0, nx0⟩ := q
    rw [hq] at h
    have h' : Out.value v0 hp0 nx0 = .value v hp' nx' := h
    injection h' with h1 h2 h3
    subst h1; subst h2; subst h3
    exact hh _ _ _ _ _ _ _ _ hq
  | none =>
    rw [hq] at h
    cases hfn : P.funcs[f]? with
    | none => rw [hfn] at h; exact absurd (show Out.fail "func" = .value v hp' nx' from h) (by simp)
    | some fn =>
      rw [hfn] at h
      cases hb : fn.body with
      | none =>
        have h' : Option.rec (motive := fun _ => Out) (.fail fn.name) (fun c => sel (Nat.ble (lenL args) fn.ntmps) (sel (Nat.beq mode 0) (resO ih P fn (ih (.code c) (startTm args 0 .leaf) fn.ntmps hp nx)) (sel (Nat.beq mode 1) (resO1 P fn (ih (.code c) (startTm args 0 .leaf) fn.ntmps hp nx)) (.fail "mode"))) (.fail "args")) fn.body = .value v hp' nx' := h
        rw [hb] at h'
        exact absurd (show Out.fail fn.name = .value v hp' nx' from h') (by simp)
      | some c =>
        have h' : Option.rec (motive := fun _ => Out) (.fail fn.name) (fun c => sel (Nat.ble (lenL args) fn.ntmps) (sel (Nat.beq mode 0) (resO ih P fn (ih (.code c) (startTm args 0 .leaf) fn.ntmps hp nx)) (sel (Nat.beq mode 1) (resO1 P fn (ih (.code c) (startTm args 0 .leaf) fn.ntmps hp nx)) (.fail "mode"))) (.fail "args")) fn.body = .value v hp' nx' := h
        rw [hb] at h'
        have h2 : sel (Nat.ble (lenL args) fn.ntmps) (sel (Nat.beq mode 0) (resO ih P fn (ih (.code c) (startTm args 0 .leaf) fn.ntmps hp nx)) (sel (Nat.beq mode 1) (resO1 P fn (ih (.code c) (startTm args 0 .leaf) fn.ntmps hp nx)) (.fail "mode"))) (.fail "args") = .value v hp' nx' := h'
        cases hle : Nat.ble (lenL args) fn.ntmps with
        | false => rw [hle] at h2; exact absurd (show Out.fail "args" = .value v hp' nx' from h2) (by simp)
        | true =>
          rw [hle] at h2
          have hle' := ble_le hle
          rw [lenL_eq] at hle'
          intro r w us hu hg g hf
          have hst := start_ok hu hle'
          have hcode := hk.code c (startTm args 0 .leaf) fn.ntmps hp nx r w _ hst hg g hf
          -- the end without a deferred call
          have fin0 : ∀ {tm' : Tr AV} {hp1 : Hp} {nx1 : Nat} {r' : Rho} {a' : Act} {w' : World}, TmOk r' fn.ntmps tm' a' → Gam (getB hp1) r' w' → ∀ {l : List AV}, resF P tm' hp1 fn.results.toList = some l → ∃ x, (results fn a'.tmps).run P w' = .ok x w' ∧ Rel r' (one1 l) x := fun ht' g' _ hl => results_ok ht' g' hl
          have opt : ∀ {tm' : Tr AV} {hp1 : Hp} {nx1 : Nat}, Option.rec (motive := fun _ => Out) (.fail "results") (fun l => .value (one1 l) hp1 nx1) (resF P tm' hp1 fn.results.toList) = .value v hp' nx' → ∃ l, resF P tm' hp1 fn.results.toList = some l ∧ v = one1 l ∧ hp' = hp1 ∧ nx' = nx1 := by
            intro tm' hp1 nx1 ho
            cases hr : resF P tm' hp1 fn.results.toList with
            | none => rw [hr] at ho; exact absurd (show Out.fail "results" = .value v hp' nx' from ho) (by simp)
            | some l =>
              rw [hr] at ho
              have ho' : Out.value (one1 l) hp1 nx1 = .value v hp' nx' := ho
              injection ho' with e1 e2 e3
              exact ⟨l, rfl, e1.symm, e2.symm, e3.symm⟩
          refine ⟨fun hm => ?_, fun hm => ?_, fun hm => by subst hm; exact absurd (show Out.fail "mode" = .value v hp' nx' from h2) (by simp)⟩
          · subst hm
            have h3 : resO ih P fn (ih (.code c) (startTm args 0 .leaf) fn.ntmps hp nx) = .value v hp' nx' := h2
            by_cases hmk : ∀ tm' hp1 nx1, (ih (.code c) (startTm args 0 .leaf) fn.ntmps hp nx = .norm tm' hp1 nx1 ∨ ih (.code c) (startTm args 0 .leaf) fn.ntmps hp nx = .ret tm' hp1 nx1) → ¬ ∃ ml, getP .h tm' = some (.agg ml)
            case neg =>
              have hmk' : ∃ tm' hp1 nx1, (ih (.code c) (startTm args 0 .leaf) fn.ntmps hp nx = .norm tm' hp1 nx1 ∨ ih (.code c) (startTm args 0 .leaf) fn.ntmps hp nx = .ret tm' hp1 nx1) ∧ ∃ ml, getP .h tm' = some (.agg ml) :=
                Classical.byContradiction fun hno => hmk fun tm' hp1 nx1 h1 h2 => hno ⟨tm', hp1, nx1, h1, h2⟩
              obtain ⟨tm', hp1, nx1, ho, ml, hml⟩ := hmk'
              have hl : leaveS P ih tm' hp1 nx1 (fun hp nx => Option.rec (motive := fun _ => Out) (.fail "results") (fun l => .value (one1 l) hp nx) (resF P tm' hp fn.results.toList)) = .value v hp' nx' := by
                rcases ho with ho | ho <;> (rw [ho] at h3; exact h3)
              unfold leaveS at hl
              rw [hml] at hl
              have hl2 : leaveM ml (fun hp => Option.rec (motive := fun _ => Out) (.fail "results") (fun l => .value (one1 l) hp nx1) (resF P tm' hp fn.results.toList)) hp1 = .value v hp' nx' := hl
              refine callsIn_wide.1 (callsIn_of_wp_marks (n := 0) hfn hb trivial (wpIn_wide.2 ?_))
              have hst : ∀ a' w', St P r w fn.ntmps tm' hp1 nx1 a' w' → LeavesInM Fence.wide 0 P fn a'.tmps (fun e w' => ∃ x r', e = .returned x ∧ Rel r' v x ∧ Ext r r' w ∧ Fr r w w' ∧ Gam (getB hp') r' w' ∧ Fresh nx' r') a'.defers .returning w' := by
                rintro a' w' ⟨r', q1, q2, q3, q4, q5⟩
                have hdf := q1.defs
                rw [hml] at hdf
                refine marks_leave (fun _ => by simp) ml a'.defers hp1 w' hdf q4 hl2 fun hp2 w2 g2 f2 hk2 => ?_
                obtain ⟨l, l1, rfl, rfl, rfl⟩ := opt hk2
                obtain ⟨x, x1, x2⟩ := results_ok (P := P) q1 g2 l1
                exact ⟨x, x1, x, r', rfl, x2, q2, q3.trans q2 f2, g2, q5⟩
              rcases ho with ho | ho
              · rw [ho] at hcode
                refine Code.wp_mono (fun e a' w' q => ?_) (hcode rfl)
                obtain ⟨rfl, q⟩ := q
                exact hst a' w' q
              · rw [ho] at hcode
                refine Code.wp_mono (fun e a' w' q => ?_) (hcode rfl)
                obtain ⟨rfl, q⟩ := q
                exact hst a' w' q
            refine calls_of_wp_defers hfn hb ?_
            -- what stands behind the body
            have last : ∀ {tm' : Tr AV} {hp1 : Hp} {nx1 : Nat} (hsrc : ih (.code c) (startTm args 0 .leaf) fn.ntmps hp nx = .norm tm' hp1 nx1 ∨ ih (.code c) (startTm args 0 .leaf) fn.ntmps hp nx = .ret tm' hp1 nx1), leaveS P ih tm' hp1 nx1 (fun hp nx => Option.rec (motive := fun _ => Out) (.fail "results") (fun l => .value (one1 l) hp nx) (resF P tm' hp fn.results.toList)) = .value v hp' nx' →
                ∀ a' w', St P r w fn.ntmps tm' hp1 nx1 a' w' → Leaves P fn a'.tmps (fun e w' => ∃ x r', e = .returned x ∧ Rel r' v x ∧ Ext r r' w ∧ Fr r w w' ∧ Gam (getB hp') r' w' ∧ Fresh nx' r') a'.defers .returning w' := by
              intro tm' hp1 nx1 hsrc hl a' w' hst'
              obtain ⟨r', q1, q2, q3, q4, q5⟩ := hst'
              unfold leaveS at hl
              have hdf := q1.defs
              cases hdd : getP .h tm' with
              | none =>
                rw [hdd] at hl hdf
                have hdf' : a'.defers = [] := hdf
                obtain ⟨l, l1, rfl, rfl, rfl⟩ := opt (show Option.rec (motive := fun _ => Out) (.fail "results") (fun l => .value (one1 l) hp1 nx1) (resF P tm' hp1 fn.results.toList) = .value v hp' nx' from hl)
                obtain ⟨x, x1, x2⟩ := results_ok (P := P) q1 q4 l1
                rw [hdf']
                exact ⟨x, x1, x, r', rfl, x2, q2, q3, q4, q5⟩
              | some dv =>
                rw [hdd] at hl hdf
                unfold DfOk at hdf
                split at hdf
                · rename_i heq; exact absurd heq (by simp)
                · rename_i gf cs heq
                  injection heq with heq
                  subst heq
                  obtain ⟨cv, d1, d2⟩ := hdf
                  have hl' : leaveD ih gf cs hp1 nx1 (fun hp nx => Option.rec (motive := fun _ => Out) (.fail "results") (fun l => .value (one1 l) hp nx) (resF P tm' hp fn.results.toList)) (funKind P gf) = Out.value v hp' nx' := hl
                  cases hfk : funKind P gf with
                  | none => rw [hfk] at hl'; exact absurd (show Out.fail "deferred" = .value v hp' nx' from hl') (by simp)
                  | some fk =>
                    rw [hfk] at hl'
                    cases fk with
                    | clone => exact absurd (show Out.fail "deferred" = .value v hp' nx' from hl') (by simp)
                    | own =>
                      have hown := (funKind_ok hfk).2
                      have hl2 : leaveE (ih (.call gf cs) .leaf 1 hp1 nx1) (fun hp nx => Option.rec (motive := fun _ => Out) (.fail "results") (fun l => .value (one1 l) hp nx) (resF P tm' hp fn.results.toList)) = Out.value v hp' nx' := hl'
                      cases hcl : ih (.call gf cs) .leaf 1 hp1 nx1 with
                      | value v2 hp2 nx2 =>
                        rw [hcl] at hl2
                        have hcall := (hk.call _ _ _ _ _ _ _ _ _ hcl r' w' cv d2 (hg.mono q2.le) q4 q5).2.1 rfl
                        rw [d1]
                        have hcv : (#[] : Array Value) ++ cv = cv := by simp
                        refine leaves_cons (by simp) (f := gf) (args := cv) (by simp only [invoke]; rw [hcv]; exact hown cv w') (hcall.mono ?_)
                        rintro e u w2 ⟨x2, r2, rfl, rfl, p1, p2, p3, p4, p5⟩
                        obtain ⟨l, l1, rfl, rfl, rfl⟩ := opt (show Option.rec (motive := fun _ => Out) (.fail "results") (fun l => .value (one1 l) hp2 nx2) (resF P tm' hp2 fn.results.toList) = .value v hp' nx' from hl2)
                        obtain ⟨x, x1, x2'⟩ := results_ok (P := P) (q1.mono p2.le) p4 l1
                        exact ⟨x, x1, x, r2, rfl, x2', q2.trans p2 q3.size, q3.trans q2 p3, p4, p5⟩
                      | fail m => rw [hcl] at hl2; exact absurd (show Out.fail m = .value v hp' nx' from hl2) (by simp)
                      | norm _ _ _ => rw [hcl] at hl2; exact absurd (show Out.fail "deferred" = .value v hp' nx' from hl2) (by simp)
                      | exit _ _ _ _ => rw [hcl] at hl2; exact absurd (show Out.fail "deferred" = .value v hp' nx' from hl2) (by simp)
                      | ret _ _ _ => rw [hcl] at hl2; exact absurd (show Out.fail "deferred" = .value v hp' nx' from hl2) (by simp)
                · rename_i ml heq; exact absurd ⟨ml, by rw [hdd, heq]⟩ (hmk tm' hp1 nx1 hsrc)
                · exact hdf.elim
            cases ho : ih (.code c) (startTm args 0 .leaf) fn.ntmps hp nx with
            | norm tm' hp1 nx1 =>
              rw [ho] at h3 hcode
              refine Code.wp_mono (fun e a' w' q => ?_) (hcode rfl)
              obtain ⟨rfl, hst'⟩ := q
              exact last (.inl ho) h3 a' w' hst'
            | ret tm' hp1 nx1 =>
              rw [ho] at h3 hcode
              refine Code.wp_mono (fun e a' w' q => ?_) (hcode rfl)
              obtain ⟨rfl, hst'⟩ := q
              exact last (.inr ho) h3 a' w' hst'
            | exit _ _ _ _ => rw [ho] at h3; exact absurd (show Out.fail "left" = .value v hp' nx' from h3) (by simp)
            | value _ _ _ => rw [ho] at h3; exact absurd (show Out.fail "left" = .value v hp' nx' from h3) (by simp)
            | fail m => rw [ho] at h3; exact absurd (show Out.fail m = .value v hp' nx' from h3) (by simp)
          · subst hm
            have h3 : resO1 P fn (ih (.code c) (startTm args 0 .leaf) fn.ntmps hp nx) = .value v hp' nx' := h2
            have last : ∀ {tm' : Tr AV} {hp1 : Hp} {nx1 : Nat}, sel (getP .h tm').isSome (.fail "defers") (Option.rec (motive := fun _ => Out) (.fail "results") (fun l => .value (one1 l) hp1 nx1) (resF P tm' hp1 fn.results.toList)) = .value v hp' nx' →
                ∀ a' w', St P r w fn.ntmps tm' hp1 nx1 a' w' → a'.defers = [] ∧ ∃ x, (results fn a'.tmps).run P w' = .ok x w' ∧ ∃ y r', Ending.returned x = .returned y ∧ Rel r' v y ∧ Ext r r' w ∧ Fr r w w' ∧ Gam (getB hp') r' w' ∧ Fresh nx' r' := by
              intro tm' hp1 nx1 hl a' w' hst'
              obtain ⟨r', q1, q2, q3, q4, q5⟩ := hst'
              cases hdd : getP .h tm' with
              | some _ => rw [hdd] at hl; exact absurd (show Out.fail "defers" = .value v hp' nx' from hl) (by simp)
              | none =>
                rw [hdd] at hl
                obtain ⟨l, l1, rfl, rfl, rfl⟩ := opt (show Option.rec (motive := fun _ => Out) (.fail "results") (fun l => .value (one1 l) hp1 nx1) (resF P tm' hp1 fn.results.toList) = .value v hp' nx' from hl)
                obtain ⟨x, x1, x2⟩ := results_ok (P := P) q1 q4 l1
                have hdf := q1.defs
                rw [hdd] at hdf
                exact ⟨hdf, x, x1, x, r', rfl, x2, q2, q3, q4, q5⟩
            have hwp : c.wp P (bodyPost P fn fun e w' => ∃ x r', e = .returned x ∧ Rel r' v x ∧ Ext r r' w ∧ Fr r w w' ∧ Gam (getB hp') r' w' ∧ Fresh nx' r') { tmps := us ++ Array.replicate (fn.ntmps - us.size) undef, defers := [] } w := by
              cases ho : ih (.code c) (startTm args 0 .leaf) fn.ntmps hp nx with
              | norm tm' hp1 nx1 =>
                rw [ho] at h3 hcode
                refine Code.wp_mono (fun e a' w' q => ?_) (hcode rfl)
                obtain ⟨rfl, hst'⟩ := q
                exact last h3 a' w' hst'
              | ret tm' hp1 nx1 =>
                rw [ho] at h3 hcode
                refine Code.wp_mono (fun e a' w' q => ?_) (hcode rfl)
                obtain ⟨rfl, hst'⟩ := q
                exact last h3 a' w' hst'
              | exit _ _ _ _ => rw [ho] at h3; exact absurd (show Out.fail "left" = .value v hp' nx' from h3) (by simp)
              | value _ _ _ => rw [ho] at h3; exact absurd (show Out.fail "left" = .value v hp' nx' from h3) (by simp)
              | fail m => rw [ho] at h3; exact absurd (show Out.fail m = .value v hp' nx' from h3) (by simp)
            refine (callsD_of_wp (u := .returning) hfn hb hwp).mono ?_
            rintro e u w' ⟨rfl, x, r', rfl, q1, q2⟩
            exact ⟨x, r', rfl, rfl, q1, q2⟩
end
end Go.Proofs.YtdmelebgdaiinaaGreatDoor.Ev
set_option linter.unusedVariables false
set_option linter.unusedSimpArgs false
namespace Go.Proofs.YtdmelebgdaiinaaGreatDoor.Ev
theorem eqA_eq {x y:AV} (h:eqA x y=true):x=y:=by
 cases x <;> cases y <;> first | exact absurd (show false=true from h) (by decide) | rfl | skip
 case bool.bool a b=>cases a <;> cases b <;> first | rfl | exact absurd (show false=true from h) (by decide)
 case int.int k a j b =>
  obtain⟨h1,h2⟩:=and2 (show and (kindEq k j) (iEq a b)=true from h)
  rw[iEq_eq] at h2
  rw[kindEq_eq h1,eq_of_beq h2]
 case str.str s t =>
  have:∀ (s t:List Nat),strEq s t=true→s=t:=by
   intro s
   induction s with
   | nil=>intro t h;cases t with | nil=>rfl | cons _ _=>exact absurd (show false=true from h) (by decide)
   | cons a s ih =>
    intro t h
    cases t with
    | nil=>exact absurd (show false=true from h) (by decide)
    | cons b t =>
     have h':sel (Nat.beq a b) (strEq s t) false=true:=h
     cases hb:Nat.beq a b with
     | false=>rw[hb] at h';exact absurd (show false=true from h') (by decide)
     | true=>rw[hb] at h';rw[beq_eq hb,ih t h']
  rw[this s t h]
 case ptr.ptr b o c p =>
  obtain⟨h1,h2⟩:=and2 (show and (Nat.beq b c) (Nat.beq o p)=true from h)
  rw[beq_eq h1,beq_eq h2]
 case slice.slice b o l c e b' o' l' c' e' =>
  obtain⟨h1,h2⟩:=and2 (show and (Nat.beq b b') (and (Nat.beq o o') (and (Nat.beq l l') (and (Nat.beq c c') (sel e e' (not e')))))=true from h)
  obtain⟨h3,h4⟩:=and2 h2
  obtain⟨h5,h6⟩:=and2 h4
  obtain⟨h7,h8⟩:=and2 h6
  have:e=e':=by cases e <;> cases e' <;> first | rfl | exact absurd (show false=true from h8) (by decide)
  rw[beq_eq h1,beq_eq h3,beq_eq h5,beq_eq h7,this]
 case map.map b c=>rw[beq_eq (show Nat.beq b c=true from h)]
theorem eqAs'_eq:∀ {x y:List AV},eqAs' x y=true→x=y:=by
 intro x
 induction x with
 | nil=>intro y h;cases y with | nil=>rfl | cons _ _=>exact absurd (show false=true from h) (by decide)
 | cons a x ih =>
  intro y h
  cases y with
  | nil=>exact absurd (show false=true from h) (by decide)
  | cons b y =>
   have h':sel (eqA a b) (eqAs' x y) false=true:=h
   cases hb:eqA a b with
   | false=>rw[hb] at h';exact absurd (show false=true from h') (by decide)
   | true=>rw[hb] at h';rw[eqA_eq hb,ih h']
theorem eqV_eq {x y:AV} (h:eqV x y=true):x=y:=by
 cases x <;> first | exact eqA_eq h | skip
 case agg l =>
  cases y <;> first | exact absurd (show false=true from h) (by decide) | skip
  case agg m=>rw[eqAs'_eq (show eqAs' l m=true from h)]
theorem inAll_ok {m:Nat} : ∀ {l:List Nat},inAll m l=true→∀ i∈l,bit m i=true:=by
 intro l
 induction l with
 | nil=>intro _ i hi;exact absurd hi (by simp)
 | cons j l ih =>
  intro h i hi
  have h':sel (bit m j) (inAll m l) false=true:=h
  cases hb:bit m j with
  | false=>rw[hb] at h';exact absurd (show false=true from h') (by decide)
  | true =>
   rw[hb] at h'
   rcases List.mem_cons.1 hi with rfl | hi
   ·exact hb
   ·exact ih h' i hi
theorem pendIdx_eq:∀ (l:List (Nat×Nat×Blk)),pendIdx l=l.map (·.1):=by
 intro l
 induction l with
 | nil=>rfl
 | cons p l ih=>show p.1 :: pendIdx l=_;rw[ih];rfl
theorem orAll_bit {anc:List Nat} {j:Nat} : ∀ {l:List Edge},bit (orAll anc l) j=true→∃ e∈l,Region.binds .any e=true∧(e.on=j∨bit ((nth anc e.on).getD 0) j=true):=by
 intro l
 induction l with
 | nil=>intro h;exact absurd h (by simp[bit,orAll])
 | cons e l ih =>
  intro h
  have h':bit (sel (Region.binds .any e) (Nat.lor (Nat.lor (Nat.pow 2 e.on) ((nth anc e.on).getD 0)) (orAll anc l)) (orAll anc l)) j=true:=h
  cases hb:Region.binds .any e with
  | false =>
   rw[hb] at h'
   obtain⟨e',h1,h2⟩:=ih h'
   exact⟨e',List.mem_cons_of_mem _ h1,h2⟩
  | true =>
   rw[hb] at h'
   have h2:((2 ^ e.on ||| (nth anc e.on).getD 0) ||| orAll anc l).testBit j=true:=h'
   rw[Nat.testBit_or,Nat.testBit_or,Nat.testBit_two_pow] at h2
   simp only[Bool.or_eq_true,decide_eq_true_eq] at h2
   rcases h2 with (h2 | h2) | h2
   ·exact⟨e,List.mem_cons_self,hb,.inl h2⟩
   ·exact⟨e,List.mem_cons_self,hb,.inr h2⟩
   ·obtain⟨e',h3,h4⟩:=ih h2
    exact⟨e',List.mem_cons_of_mem _ h3,h4⟩
theorem ancs_prefix:∀ (l:List Oper) (acc:List Nat),∃ more,ancs l acc=acc++more∧more.length=l.length∧∀ k o,l[k]?=some o→more[k]?=some (orAll (acc++more.take k) o.after.toList):=by
 intro l
 induction l with
 | nil=>intro acc;exact⟨[],by simp[ancs],rfl,fun k o h=>absurd h (by simp)⟩
 | cons o l ih =>
  intro acc
  obtain⟨more,h1,h2,h3⟩:=ih (app acc [orAll acc o.after.toList])
  refine⟨orAll acc o.after.toList :: more,?_,by simp[h2],fun k p hp=>?_⟩
  ·show ancs l (app acc [orAll acc o.after.toList])=_
   rw[h1,app_eq];simp
  ·cases k with
   | zero=>simp at hp;subst hp;simp
   | succ k =>
    simp at hp
    rw[List.getElem?_cons_succ,h3 k p hp,app_eq]
    simp
noncomputable def anc (ops:Array Oper) (i:Nat):Nat:=(nth (ancs ops.toList []) i).getD 0
theorem anc_bit {ops:Array Oper} {i j:Nat} (h:bit (anc ops i) j=true):∃ o e,ops[i]?=some o∧e∈o.after.toList∧Region.binds .any e=true∧(e.on=j∨(e.on<i∧bit (anc ops e.on) j=true)):=by
 obtain⟨more,h1,h2,h3⟩:=ancs_prefix ops.toList []
 rw[List.nil_append] at h1
 unfold anc at h
 rw[nth_eq,h1] at h
 cases ho:ops.toList[i]? with
 | none =>
  have:more[i]?=none:=by
   rw[List.getElem?_eq_none_iff] at ho ⊢;omega
  rw[this] at h
  exact absurd h (by simp[bit])
 | some o =>
  rw[h3 i o ho] at h
  obtain⟨e,q1,q2,q3⟩:=orAll_bit (show bit (orAll ([]++more.take i) o.after.toList) j=true from h)
  refine⟨o,e,by simpa using ho,q1,q2,?_⟩
  rcases q3 with q3 | q3
  ·exact .inl q3
  ·rw[nth_eq,List.nil_append] at q3
   by_cases hlt:e.on<i
   ·refine .inr ⟨hlt,?_⟩
    rw[List.getElem?_take_of_lt hlt] at q3
    unfold anc
    rw[nth_eq,h1]
    exact q3
   ·rw[List.getElem?_eq_none (by simp;omega)] at q3
    exact absurd q3 (by simp[bit])
def Closed (ops:Array Oper) (L:Nat→Bool):Prop:=∀ i o,L i=true→ops[i]?=some o→∀ e∈o.after.toList,Region.binds .any e=true→L e.on=true
theorem closed_anc {ops:Array Oper} {L:Nat→Bool} (hc:Closed ops L):∀ (i:Nat),(∀ o,ops[i]?=some o→∀ e∈o.after.toList,Region.binds .any e=true→L e.on=true)→∀ j,bit (anc ops i) j=true→L j=true:=by
 intro i
 induction i using Nat.strongRecOn with
 | _ i ih =>
  intro hi j hj
  obtain⟨o,e,h1,h2,h3,h4⟩:=anc_bit hj
  have he:=hi o h1 e h2 h3
  rcases h4 with rfl | ⟨h4,h5⟩
  ·exact he
  ·exact ih e.on h4 (fun o' ho'=>hc e.on o' he ho') j h5
theorem closed_anc' {ops:Array Oper} {L:Nat→Bool} (hc:Closed ops L) {i:Nat} (hi:L i=true) {j:Nat} (hj:bit (anc ops i) j=true):L j=true:=closed_anc hc i (fun o ho=>hc i o hi ho) j hj
theorem edgesOk_ok {i:Nat} : ∀ {l:List Edge},edgesOk i l=true→∀ e∈l,Region.binds .any e=true→e.on<i:=by
 intro l
 induction l with
 | nil=>intro _ e he;exact absurd he (by simp)
 | cons x l ih =>
  intro h e he hb
  have h':sel (or (not (Region.binds .any x)) (Nat.blt x.on i)) (edgesOk i l) false=true:=h
  cases hx:or (not (Region.binds .any x)) (Nat.blt x.on i) with
  | false=>rw[hx] at h';exact absurd (show false=true from h') (by decide)
  | true =>
   rw[hx] at h'
   rcases List.mem_cons.1 he with rfl | he
   ·rw[hb] at hx;exact blt_lt (show Nat.blt e.on i=true from hx)
   ·exact ih h' e he hb
theorem apartAll_ok {ops:Array Oper} {o:Oper} {m:Nat} : ∀ {l:List Oper} {i:Nat},apartAll ops o m l i=true→∀ k p,l[k]?=some p→bit m (i+k)=true∨Oper.apart ops p o=true:=by
 intro l
 induction l with
 | nil=>intro i _ k p hp;exact absurd hp (by simp)
 | cons q l ih =>
  intro i h k p hp
  have h':sel (or (bit m i) (Oper.apart ops q o)) (apartAll ops o m l (Nat.succ i)) false=true:=h
  cases hx:or (bit m i) (Oper.apart ops q o) with
  | false=>rw[hx] at h';exact absurd (show false=true from h') (by decide)
  | true =>
   rw[hx] at h'
   cases k with
   | zero =>
    simp at hp;subst hp
    rw[Nat.add_zero]
    simpa using hx
   | succ k =>
    have:=ih h' k p (by simpa using hp)
    rwa [show Nat.succ i+k=i+(k+1) by omega] at this
theorem drawOk_ok {ops:Array Oper} {A:List Nat} : ∀ {l:List Oper} {i:Nat} {done:List Oper},done.length=i→drawOk ops ops.toList A l i done=true→∀ k o,l[k]?=some o →
  (∀ e∈o.after.toList,Region.binds .any e=true→e.on<i+k)∧∀ j p,(done++l.take k)[j]?=some p→bit ((nth A (i+k)).getD 0) j=true∨Oper.apart ops p o=true:=by
 intro l
 induction l with
 | nil=>intro i done _ _ k o ho;exact absurd ho (by simp)
 | cons q l ih =>
  intro i done hd h k o ho
  have h':sel (and (edgesOk i q.after.toList) (apartAll ops q ((nth A i).getD 0) done 0)) (drawOk ops ops.toList A l (Nat.succ i) (app done [q])) false=true:=h
  cases hx:and (edgesOk i q.after.toList) (apartAll ops q ((nth A i).getD 0) done 0) with
  | false=>rw[hx] at h';exact absurd (show false=true from h') (by decide)
  | true =>
   rw[hx] at h'
   obtain⟨h1,h2⟩:=and2 hx
   cases k with
   | zero =>
    simp at ho;subst ho
    refine⟨fun e he hb=>by rw[Nat.add_zero];exact edgesOk_ok h1 e he hb,fun j p hp=>?_⟩
    simp at hp
    have:=apartAll_ok h2 j p hp
    rwa [Nat.zero_add] at this
   | succ k =>
    rw[app_eq] at h'
    have:=ih (by simp[hd]) h' k o (by simpa using ho)
    rw[show Nat.succ i+k=i+(k+1) by omega] at this
    refine⟨this.1,fun j p hp=>this.2 j p ?_⟩
    simpa using hp
theorem region_checks {ops:Array Oper} (h:drawOk ops ops.toList (ancs ops.toList []) ops.toList 0 []=true):(∀ i o,ops[i]?=some o→∀ e∈o.after.toList,Region.binds .any e=true→e.on<i) ∧
  ∀ i j o p,ops[i]?=some o→ops[j]?=some p→j<i→bit (anc ops i) j=true∨Oper.apart ops p o=true:=by
 have key:=drawOk_ok (i:=0) (done:=[]) rfl h
 refine⟨fun i o ho e he hb=>?_,fun i j o p ho hp hj=>?_⟩
 ·have:=(key i o (by simpa using ho)).1 e he hb
  rwa [Nat.zero_add] at this
 ·have:=(key i o (by simpa using ho)).2 j p (by rw[List.nil_append,List.getElem?_take_of_lt hj];simpa using hp)
  rwa [Nat.zero_add] at this
theorem dRun_states {P:Program} {ih:K} {ops:Array Oper} {n:Nat} {A:List Nat} : ∀ {l:List Oper} {i:Nat} {s s':Ds},dRun P ih ops n A l i s=some s' →
  ∃ T:Nat→Ds,T i=s∧(∀ k o,l[k]?=some o→dStep P ih ops n (i+k) ((nth A (i+k)).getD 0) o (T (i+k))=some (T (i+k+1)))∧T (i+l.length)=s':=by
 intro l
 induction l with
 | nil=>intro i s s' h;injection (show some s=some s' from h) with h;subst h;exact⟨fun _=>s,rfl,fun k o ho=>absurd ho (by simp),rfl⟩
 | cons o l ih0 =>
  intro i s s' h
  obtain⟨s1,h1,h2⟩:=bnd_some (show bnd (dStep P ih ops n i ((nth A i).getD 0) o s) (fun s=>dRun P ih ops n A l (Nat.succ i) s)=some s' from h)
  obtain⟨T,t1,t2,t3⟩:=ih0 h2
  refine⟨fun k=>if k≤i then s else T k,by simp,fun k p hp=>?_,?_⟩
  ·cases k with
   | zero =>
    simp at hp;subst hp
    simp only[Nat.add_zero,Nat.le_refl,if_true]
    rw[if_neg (by omega)]
    rw[h1];exact congrArg some t1.symm
   | succ k =>
    have:=t2 k p (by simpa using hp)
    have e1:(if i+(k+1)≤i then s else T (i+(k+1)))=T (i+(k+1)):=if_neg (by omega)
    have e2:(if i+(k+1)+1≤i then s else T (i+(k+1)+1))=T (i+(k+1)+1):=if_neg (by omega)
    show dStep P ih ops n (i+(k+1)) ((nth A (i+(k+1))).getD 0) p (if i+(k+1)≤i then s else T (i+(k+1)))=some (if i+(k+1)+1≤i then s else T (i+(k+1)+1))
    rw[e1,e2]
    rwa [show Nat.succ i+k=i+(k+1) by omega] at this
  ·have e:i+(o :: l).length=Nat.succ i+l.length:=by simp only[List.length_cons];omega
   rw[e]
   show (if Nat.succ i+l.length≤i then s else T (Nat.succ i+l.length))=s'
   rw[if_neg (by omega)]
   exact t3
theorem slot_only (tm:Tr AV):∀ (l:List Tmp) (t:Nat),slot (only l tm) t=if t∈l then slot tm t else .tuple []:=by
 intro l
 induction l with
 | nil=>intro t;simp[only,slot,getP_leaf]
 | cons a l ih =>
  intro t
  have hs:only (a :: l) tm=setP (getP (pos (Nat.succ a)) tm) (pos (Nat.succ a)) (only l tm):=rfl
  have ih':=ih t
  unfold slot at ih' ⊢
  rw[hs]
  by_cases h:t=a
  ·subst h;rw[getP_setP_same];simp
  ·rw[getP_setP_other _ _ _ _ fun e=>h (by have:=pos_inj e;omega),ih']
   simp[h]
theorem df_only (tm:Tr AV):∀ (l:List Tmp),getP .h (only l tm)=none:=by
 intro l
 induction l with
 | nil=>exact getP_leaf _
 | cons a l ih =>
  have hs:only (a :: l) tm=setP (getP (pos (Nat.succ a)) tm) (pos (Nat.succ a)) (only l tm):=rfl
  rw[hs,getP_setP_other _ _ _ _ (Ne.symm (pos_succ_ne a))]
  exact ih
end Go.Proofs.YtdmelebgdaiinaaGreatDoor.Ev
set_option linter.unusedVariables false
set_option linter.unusedSimpArgs false
namespace Go.Proofs.YtdmelebgdaiinaaGreatDoor.Ev
noncomputable def qAt (ops:Array Oper) (T:Nat→Ds) (i:Nat) (o:Oper):Tr AV:=only (Oper.looksAt ops o) (T i).tm
structure Run (P:Program) (ih:K) (ops:Array Oper) (n:Nat) (tm:Tr AV) (hp:Hp) (nx:Nat) (T:Nat→Ds):Prop where
 start:T 0 = { tm,hp,pend:=[],nx,hist:=[],chs:=[],wa:=[] }
 step:∀ i o,ops[i]?=some o→dStep P ih ops n i (anc ops i) o (T i)=some (T (i+1))
 edges:∀ i o,ops[i]?=some o→∀ e∈o.after.toList,Region.binds .any e=true→e.on<i
 pairs:∀ i j o p,ops[i]?=some o→ops[j]?=some p→j<i→bit (anc ops i) j=true∨Oper.apart ops p o=true
def isK (ops:Array Oper) (T:Nat→Ds) (c:Cl) (i:Nat):Prop:=∃ o,ops[i]?=some o∧wanted? ops o.guard (qAt ops T i o)=some true∧clOf o.op=c
section
variable {P : Program} {ih : K} {ops : Array Oper} {n nx : Nat} {tm : Tr AV} {hp : Hp} {T : Nat → Ds}
inductive Stp (P:Program) (ih:K) (ops:Array Oper) (T:Nat→Ds) (i:Nat) (o:Oper):AV→Prop
 | no (hw:wanted? ops o.guard (qAt ops T i o)=some false) (hT:T (i+1) = { T i with tm:=setT o.dst (.tuple []) (T i).tm }):Stp P ih ops T i o (.tuple [])
 | pure (v:AV) (hp':Hp) (nx':Nat) (hw:wanted? ops o.guard (qAt ops T i o)=some true) (hc:clOf o.op=.pure) (hX:opX o.op P (qAt ops T i o) .leaf 0=.ok v hp' nx') (hT:T (i+1) = { T i with tm:=setT o.dst v (T i).tm }):Stp P ih ops T i o v
 | calm (v:AV) (hp':Hp) (nx':Nat) (hw:wanted? ops o.guard (qAt ops T i o)=some true) (hc:clOf o.op=.calm)
   (hX:∃ f args,opX o.op P (qAt ops T i o) .leaf (T i).nx=.call f args∧ih (.call f args) .leaf 0 .leaf (T i).nx=.value v hp' nx'∧lowAs 0 args=true∧lowA 0 v=true) (hT:T (i+1) = { T i with tm:=setT o.dst v (T i).tm }):Stp P ih ops T i o v
 | make (v:AV) (hp':Hp) (nx':Nat) (b:Blk) (hw:wanted? ops o.guard (qAt ops T i o)=some true) (hc:clOf o.op=.make) (hX:opX o.op P (qAt ops T i o) .leaf (T i).nx=.ok v hp' nx') (hb:getB hp' (T i).nx=some b)
   (hT:T (i+1) = { T i with tm:=setT o.dst v (T i).tm,pend:=(i,(T i).nx,b) :: (T i).pend,nx:=Nat.succ (T i).nx }):Stp P ih ops T i o v
 | read (v:AV) (hp':Hp) (nx':Nat) (hw:wanted? ops o.guard (qAt ops T i o)=some true) (hc:clOf o.op=.read) (hX:opX o.op P (qAt ops T i o) (T i).hp 0=.ok v hp' nx') (hk:backOk P o (qAt ops T i o) v (anc ops i) (T i).chs (T i).hist=true)
   (hT:T (i+1) = { T i with tm:=setT o.dst v (T i).tm,wa:=⟨i,o,qAt ops T i o,v,(T i).nx⟩ :: (T i).wa }):Stp P ih ops T i o v
 | chain (v:AV) (hp':Hp) (nx':Nat) (hw:wanted? ops o.guard (qAt ops T i o)=some true) (hc:clOf o.op=.chain) (h1:inAll (anc ops i) (T i).chs=true) (h2:inAll (anc ops i) (pendIdx (T i).pend)=true)
   (hX:opX o.op P (qAt ops T i o) (unpend (T i).pend (T i).hp) (T i).nx=.ok v hp' nx'∨∃ f args,opX o.op P (qAt ops T i o) (unpend (T i).pend (T i).hp) (T i).nx=.call f args∧ih (.call f args) .leaf 0 (unpend (T i).pend (T i).hp) (T i).nx=.value v hp' nx')
   (hn:(T i).nx≤nx') (hwa:waOk P (anc ops i) hp' (T i).wa=true)
   (hT:T (i+1) = { tm:=setT o.dst v (T i).tm,hp:=hp',pend:=[],nx:=nx',hist:=(T i).hp :: (T i).hist,chs:=i :: (T i).chs,wa:=(T i).wa }):Stp P ih ops T i o v
theorem Run.cases (R:Run P ih ops n tm hp nx T) {i:Nat} {o:Oper} (ho:ops[i]?=some o):dstOk o.dst n=true∧∃ v,Stp P ih ops T i o v:=by
 have h:=R.step i o ho
 unfold dStep at h
 obtain⟨h1,h2⟩:=sel_none h
 obtain⟨t,h3,h4⟩:=bnd_some h2
 refine⟨h1,?_⟩
 cases t with
 | false =>
  injection (show some _=some (T (i+1)) from h4) with h4
  exact⟨_,.no h3 h4.symm⟩
 | true =>
  have h5:dDo P ih i (anc ops i) o (qAt ops T i o) (T i)=some (T (i+1)):=h4
  unfold dDo at h5
  cases hc:clOf o.op with
  | pure =>
   rw[hc] at h5
   have h6:dPure P o (qAt ops T i o) (T i)=some (T (i+1)):=h5
   unfold dPure at h6
   split at h6
   ·rename_i v hp' nx' hX;injection h6 with h6;exact⟨v,.pure v hp' nx' h3 hc hX h6.symm⟩
   ·exact absurd h6 (by simp)
  | calm =>
   rw[hc] at h5
   have h6:dCalm P ih o (qAt ops T i o) (T i)=some (T (i+1)):=h5
   unfold dCalm at h6
   split at h6
   ·rename_i f args hX
    split at h6
    ·rename_i v hp' nx' hv
     obtain⟨h7,h8⟩:=sel_none h6
     obtain⟨h9,h10⟩:=and2 h7
     injection h8 with h8
     exact⟨v,.calm v hp' nx' h3 hc ⟨f,args,hX,hv,h9,h10⟩ h8.symm⟩
    ·exact absurd h6 (by simp)
   ·exact absurd h6 (by simp)
  | make =>
   rw[hc] at h5
   have h6:dMake P i o (qAt ops T i o) (T i)=some (T (i+1)):=h5
   unfold dMake at h6
   split at h6
   ·rename_i v hp' nx' hX
    obtain⟨b,h7,h8⟩:=bnd_some h6
    injection h8 with h8
    exact⟨v,.make v hp' nx' b h3 hc hX h7 h8.symm⟩
   ·exact absurd h6 (by simp)
  | read =>
   rw[hc] at h5
   have h6:dRead P i (anc ops i) o (qAt ops T i o) (T i)=some (T (i+1)):=h5
   unfold dRead at h6
   split at h6
   ·rename_i v hp' nx' hX
    obtain⟨h7,h8⟩:=sel_none h6
    injection h8 with h8
    exact⟨v,.read v hp' nx' h3 hc hX h7 h8.symm⟩
   ·exact absurd h6 (by simp)
  | chain =>
   rw[hc] at h5
   have h6:dChainS P ih i (anc ops i) o (qAt ops T i o) (T i)=some (T (i+1)):=h5
   unfold dChainS at h6
   obtain⟨h7,h8⟩:=sel_none h6
   obtain⟨h9,h10⟩:=and2 h7
   have fin:∀ {v hp' nx'},dChain P i (anc ops i) o (T i) v hp' nx'=some (T (i+1))→(T i).nx≤nx'∧waOk P (anc ops i) hp' (T i).wa=true ∧
     T (i+1) = { tm:=setT o.dst v (T i).tm,hp:=hp',pend:=[],nx:=nx',hist:=(T i).hp :: (T i).hist,chs:=i :: (T i).chs,wa:=(T i).wa }:=by
    intro v hp' nx' h
    obtain⟨q1,q2⟩:=sel_none h
    obtain⟨q3,q4⟩:=and2 q1
    injection q2 with q2
    exact⟨ble_le q3,q4,q2.symm⟩
   cases hX:opX o.op P (qAt ops T i o) (unpend (T i).pend (T i).hp) (T i).nx with
   | ok v hp' nx' =>
    rw[hX] at h8
    obtain⟨q1,q2,q3⟩:=fin (show dChain P i (anc ops i) o (T i) v hp' nx'=some (T (i+1)) from h8)
    exact⟨v,.chain v hp' nx' h3 hc h9 h10 (.inl hX) q1 q2 q3⟩
   | call f args =>
    rw[hX] at h8
    have h11:(match ih (.call f args) .leaf 0 (unpend (T i).pend (T i).hp) (T i).nx with | .value v hp nx=>dChain P i (anc ops i) o (T i) v hp nx | _=>none)=some (T (i+1)):=h8
    split at h11
    ·rename_i v hp' nx' hv
     obtain⟨q1,q2,q3⟩:=fin h11
     exact⟨v,.chain v hp' nx' h3 hc h9 h10 (.inr ⟨f,args,hX,hv⟩) q1 q2 q3⟩
    ·exact absurd h11 (by simp)
   | no=>rw[hX] at h8;exact absurd (show none=some (T (i+1)) from h8) (by simp)
theorem isK_no {c:Cl} {i:Nat} {o:Oper} (ho:ops[i]?=some o) (hw:wanted? ops o.guard (qAt ops T i o)=some false):¬ isK ops T c i:=fun ⟨o',h1,h2,_⟩=>by
 rw[ho] at h1;injection h1 with h1;subst h1;rw[hw] at h2;exact absurd h2 (by simp)
theorem isK_iff {c c':Cl} {i:Nat} {o:Oper} (ho:ops[i]?=some o) (hw:wanted? ops o.guard (qAt ops T i o)=some true) (hc:clOf o.op=c'):isK ops T c i↔c'=c:=by
 constructor
 ·rintro ⟨o',h1,h2,h3⟩;rw[ho] at h1;injection h1 with h1;subst h1;rw[hc] at h3;exact h3
 ·intro h;exact⟨o,ho,hw,by rw[hc,h]⟩
theorem Stp.tm_eq {i:Nat} {o:Oper} {v:AV} (h:Stp P ih ops T i o v):(T (i+1)).tm=setT o.dst v (T i).tm:=by
 cases h with
 | no hw hT=>rw[hT]
 | pure _ _ _ hw hc hX hT=>rw[hT]
 | calm _ _ _ hw hc hX hT=>rw[hT]
 | make _ _ _ _ hw hc hX hb hT=>rw[hT]
 | read _ _ _ hw hc hX hk hT=>rw[hT]
 | chain _ _ _ hw hc h1 h2 hX hn hwa hT=>rw[hT]
theorem Stp.nx_le {i:Nat} {o:Oper} {v:AV} (h:Stp P ih ops T i o v):(T i).nx≤(T (i+1)).nx:=by
 cases h with
 | no hw hT=>rw[hT];exact Nat.le_refl _
 | pure _ _ _ hw hc hX hT=>rw[hT];exact Nat.le_refl _
 | calm _ _ _ hw hc hX hT=>rw[hT];exact Nat.le_refl _
 | make _ _ _ _ hw hc hX hb hT=>rw[hT];exact Nat.le_succ _
 | read _ _ _ hw hc hX hk hT=>rw[hT];exact Nat.le_refl _
 | chain _ _ _ hw hc h1 h2 hX hn hwa hT=>rw[hT];exact hn
theorem Run.nx_le (R:Run P ih ops n tm hp nx T) {i:Nat} (hi:i<ops.size):(T i).nx≤(T (i+1)).nx:=by
 obtain⟨_,v,h⟩:=R.cases (Array.getElem?_eq_getElem hi)
 exact h.nx_le
theorem Run.nx_mono (R : Run P ih ops n tm hp nx T) {i j : Nat} (hij : i ≤ j) (hj : j ≤ ops.size) : (T i).nx ≤ (T j).nx := by
  induction j with
  | zero => have : i = 0 := by omega
            subst this; exact Nat.le_refl _
  | succ j ihj =>
    by_cases h : i = j + 1
    · subst h; exact Nat.le_refl _
    · exact Nat.le_trans (ihj (by omega) (by omega)) (R.nx_le (by omega))
theorem Run.before (R:Run P ih ops n tm hp nx T):∀ i,i≤ops.size→(∀ j,j<i→isK ops T .chain j→j∈(T i).chs)∧(∀ j,j<i→isK ops T .make j→j∈pendIdx (T i).pend∨∃ c,c<i∧isK ops T .chain c∧bit (anc ops c) j=true):=by
 intro i
 induction i with
 | zero=>intro _;exact⟨fun j h=>absurd h (by omega),fun j h=>absurd h (by omega)⟩
 | succ i ihi =>
  intro hi
  obtain⟨h1,h2⟩:=ihi (by omega)
  have ho:ops[i]?=some ops[i]:=Array.getElem?_eq_getElem (by omega)
  obtain⟨_,v,hS⟩:=R.cases ho
  have lift:∀ j,(j∈pendIdx (T i).pend∨∃ c,c<i∧isK ops T .chain c∧bit (anc ops c) j=true)→(∀ k∈pendIdx (T i).pend,k∈pendIdx (T (i+1)).pend∨∃ c,c<i+1∧isK ops T .chain c∧bit (anc ops c) k=true) →
    j∈pendIdx (T (i+1)).pend∨∃ c,c<i+1∧isK ops T .chain c∧bit (anc ops c) j=true:=by
   intro j h hh
   rcases h with h | ⟨c,c1,c2,c3⟩
   ·exact hh j h
   ·exact .inr ⟨c,by omega,c2,c3⟩
  cases hS with
  | no hw hT =>
   refine⟨fun j hj hk=>?_,fun j hj hk=>?_⟩
   ·by_cases e:j=i
    ·subst e;exact absurd hk (isK_no ho hw)
    ·rw[hT];exact h1 j (by omega) hk
   ·by_cases e:j=i
    ·subst e;exact absurd hk (isK_no ho hw)
    ·exact lift j (h2 j (by omega) hk) fun k hk=>.inl (by rw[hT];exact hk)
  | pure _ _ _ hw hc hX hT =>
   refine⟨fun j hj hk=>?_,fun j hj hk=>?_⟩
   ·by_cases e:j=i
    ·subst e;exact absurd ((isK_iff ho hw hc).1 hk) (by simp)
    ·rw[hT];exact h1 j (by omega) hk
   ·by_cases e:j=i
    ·subst e;exact absurd ((isK_iff ho hw hc).1 hk) (by simp)
    ·exact lift j (h2 j (by omega) hk) fun k hk=>.inl (by rw[hT];exact hk)
  | calm _ _ _ hw hc hX hT =>
   refine⟨fun j hj hk=>?_,fun j hj hk=>?_⟩
   ·by_cases e:j=i
    ·subst e;exact absurd ((isK_iff ho hw hc).1 hk) (by simp)
    ·rw[hT];exact h1 j (by omega) hk
   ·by_cases e:j=i
    ·subst e;exact absurd ((isK_iff ho hw hc).1 hk) (by simp)
    ·exact lift j (h2 j (by omega) hk) fun k hk=>.inl (by rw[hT];exact hk)
  | make _ _ _ b hw hc hX hb hT =>
   refine⟨fun j hj hk=>?_,fun j hj hk=>?_⟩
   ·by_cases e:j=i
    ·subst e;exact absurd ((isK_iff ho hw hc).1 hk) (by simp)
    ·rw[hT];exact h1 j (by omega) hk
   ·by_cases e:j=i
    ·subst e;rw[hT];exact .inl (by rw[pendIdx_eq];exact List.mem_cons_self)
    ·exact lift j (h2 j (by omega) hk) fun k hk=>.inl (by rw[hT,pendIdx_eq];rw[pendIdx_eq] at hk;exact List.mem_cons_of_mem _ hk)
  | read _ _ _ hw hc hX hk' hT =>
   refine⟨fun j hj hk=>?_,fun j hj hk=>?_⟩
   ·by_cases e:j=i
    ·subst e;exact absurd ((isK_iff ho hw hc).1 hk) (by simp)
    ·rw[hT];exact h1 j (by omega) hk
   ·by_cases e:j=i
    ·subst e;exact absurd ((isK_iff ho hw hc).1 hk) (by simp)
    ·exact lift j (h2 j (by omega) hk) fun k hk=>.inl (by rw[hT];exact hk)
  | chain _ _ _ hw hc g1 g2 hX hn hwa hT =>
   refine⟨fun j hj hk=>?_,fun j hj hk=>?_⟩
   ·rw[hT]
    by_cases e:j=i
    ·subst e;exact List.mem_cons_self
    ·exact List.mem_cons_of_mem _ (h1 j (by omega) hk)
   ·by_cases e:j=i
    ·subst e;exact absurd ((isK_iff ho hw hc).1 hk) (by simp)
    ·exact lift j (h2 j (by omega) hk) fun k hk=>.inr ⟨i,by omega,(isK_iff ho hw hc).2 rfl,inAll_ok g2 k hk⟩
theorem Run.chain_all (R:Run P ih ops n tm hp nx T) {L:Nat→Bool} (hc:Closed ops L) {c:Nat} (hcc:isK ops T .chain c) (ha:∀ j,bit (anc ops c) j=true→L j=true):∀ j,j<c→(isK ops T .make j∨isK ops T .chain j)→L j=true:=by
 obtain⟨o,ho,hw,hcl⟩:=hcc
 have hlt:c<ops.size:=(Array.getElem?_eq_some_iff.1 ho).1
 obtain⟨b1,b2⟩:=R.before c (by omega)
 obtain⟨_,v,hS⟩:=R.cases ho
 cases hS with
 | no hw' hT=>rw[hw] at hw';exact absurd hw' (by simp)
 | pure _ _ _ hw' hc' hX hT=>rw[hcl] at hc';exact absurd hc' (by simp)
 | calm _ _ _ hw' hc' hX hT=>rw[hcl] at hc';exact absurd hc' (by simp)
 | make _ _ _ _ hw' hc' hX hb hT=>rw[hcl] at hc';exact absurd hc' (by simp)
 | read _ _ _ hw' hc' hX hk hT=>rw[hcl] at hc';exact absurd hc' (by simp)
 | chain _ _ _ hw' hc' g1 g2 hX hn hwa hT =>
  have hch:∀ j,j<c→isK ops T .chain j→L j=true:=fun j hj hk=>ha j (inAll_ok g1 j (b1 j hj hk))
  intro j hj hk
  rcases hk with hk | hk
  ·rcases b2 j hj hk with h | ⟨c',q1,q2,q3⟩
   ·exact ha j (inAll_ok g2 j h)
   ·exact closed_anc' hc (hch c' q1 q2) q3
  ·exact hch j hj hk
end
def headB (l:List (Nat×Nat×Blk)):Blk:=match l with | p :: _=>p.2.2 | []=>.map [] false
open Classical in
noncomputable def hd (ops:Array Oper) (hp:Hp) (T:Nat→Ds) (L:Nat→Bool):Nat→H
 | 0=>getB hp
 | i+1=>if L i=true∧isK ops T .chain i then getB (T (i+1)).hp
  else if L i=true∧isK ops T .make i then putH (hd ops hp T L i) (T i).nx (headB (T (i+1)).pend) else hd ops hp T L i
open Classical in
noncomputable def lc (ops:Array Oper) (T:Nat→Ds) (L:Nat→Bool):Nat→Nat
 | 0=>0
 | i+1=>if L i=true∧isK ops T .chain i then i+1 else lc ops T L i
open Classical in
noncomputable def lw (ops:Array Oper) (L:Nat→Bool) (t:Tmp):Nat→Nat
 | 0=>0
 | i+1=>if L i=true∧(ops[i]?).bind (·.dst)=some t then i+1 else lw ops L t i
section
variable {P : Program} {ih : K} {ops : Array Oper} {n nx : Nat} {tm : Tr AV} {hp : Hp} {T : Nat → Ds} {L : Nat → Bool}
theorem lw_spec (t:Tmp):∀ k,lw ops L t k≤k∧(∀ b,lw ops L t k=b+1→L b=true∧(ops[b]?).bind (·.dst)=some t)∧∀ j,lw ops L t k≤j→j<k→¬ (L j=true∧(ops[j]?).bind (·.dst)=some t):=by
 intro k
 induction k with
 | zero=>exact⟨Nat.le_refl _,fun b h=>absurd h (by simp[lw]),fun j h1 h2=>absurd h2 (by omega)⟩
 | succ k ihk =>
  unfold lw
  split
  ·rename_i h
   exact⟨Nat.le_refl _,fun b hb=>by injection hb with hb;subst hb;exact h,fun j h1 h2=>absurd h2 (by omega)⟩
  ·rename_i h
   refine⟨by omega,ihk.2.1,fun j h1 h2=>?_⟩
   by_cases e:j=k
   ·subst e;exact h
   ·exact ihk.2.2 j h1 (by omega)
theorem lc_spec:∀ k,lc ops T L k≤k∧(∀ b,lc ops T L k=b+1→L b=true∧isK ops T .chain b)∧∀ j,lc ops T L k≤j→j<k→¬ (L j=true∧isK ops T .chain j):=by
 intro k
 induction k with
 | zero=>exact⟨Nat.le_refl _,fun b h=>absurd h (by simp[lc]),fun j h1 h2=>absurd h2 (by omega)⟩
 | succ k ihk =>
  unfold lc
  split
  ·rename_i h
   exact⟨Nat.le_refl _,fun b hb=>by injection hb with hb;subst hb;exact h,fun j h1 h2=>absurd h2 (by omega)⟩
  ·rename_i h
   refine⟨by omega,ihk.2.1,fun j h1 h2=>?_⟩
   by_cases e:j=k
   ·subst e;exact h
   ·exact ihk.2.2 j h1 (by omega)
theorem hd_congr {L':Nat→Bool} : ∀ k,(∀ j,j<k→(isK ops T .make j∨isK ops T .chain j)→L j=L' j)→hd ops hp T L k=hd ops hp T L' k:=by
 intro k
 induction k with
 | zero=>intro _;rfl
 | succ k ihk =>
  intro h
  have ih':=ihk fun j hj=>h j (by omega)
  unfold hd
  by_cases h1:isK ops T .chain k
  ·rw[h k (by omega) (.inr h1),ih']
  ·by_cases h2:isK ops T .make k
   ·rw[h k (by omega) (.inl h2),ih']
   ·simp only[h1,h2,and_false,if_false,ih']
theorem hd_text (R:Run P ih ops n tm hp nx T):∀ i,i≤ops.size→getB (unpend (T i).pend (T i).hp)=hd ops hp T (fun _=>true) i:=by
 intro i
 induction i with
 | zero=>intro _;rw[R.start];rfl
 | succ i ihi =>
  intro hi
  have ho:ops[i]?=some ops[i]:=Array.getElem?_eq_getElem (by omega)
  obtain⟨_,v,hS⟩:=R.cases ho
  have ih':=ihi (by omega)
  unfold hd
  cases hS with
  | no hw hT=>rw[if_neg fun h=>isK_no ho hw h.2,if_neg fun h=>isK_no ho hw h.2,← ih',hT]
  | pure _ _ _ hw hc hX hT=>rw[if_neg fun h=>absurd ((isK_iff ho hw hc).1 h.2) (by simp),if_neg fun h=>absurd ((isK_iff ho hw hc).1 h.2) (by simp),← ih',hT]
  | calm _ _ _ hw hc hX hT=>rw[if_neg fun h=>absurd ((isK_iff ho hw hc).1 h.2) (by simp),if_neg fun h=>absurd ((isK_iff ho hw hc).1 h.2) (by simp),← ih',hT]
  | make _ _ _ b hw hc hX hb hT =>
   rw[if_neg fun h=>absurd ((isK_iff ho hw hc).1 h.2) (by simp),if_pos ⟨rfl,(isK_iff ho hw hc).2 rfl⟩,← ih',hT]
   show getB (setB (some b) (T i).nx (unpend (T i).pend (T i).hp))=_
   rw[getB_put]
   rfl
  | read _ _ _ hw hc hX hk hT=>rw[if_neg fun h=>absurd ((isK_iff ho hw hc).1 h.2) (by simp),if_neg fun h=>absurd ((isK_iff ho hw hc).1 h.2) (by simp),← ih',hT]
  | chain _ _ _ hw hc g1 g2 hX hn hwa hT=>rw[if_pos ⟨rfl,(isK_iff ho hw hc).2 rfl⟩,hT];rfl
theorem hd_low (R : Run P ih ops n tm hp nx T) {i : Nat} {b : Nat} (hb : b < (T i).nx) : ∀ j, i ≤ j → j ≤ ops.size → (∀ k, i ≤ k → k < j → ¬ (L k = true ∧ isK ops T .chain k)) → hd ops hp T L j b = hd ops hp T L i b := by
  intro j
  induction j with
  | zero => intro h1 _ _; have : i = 0 := by omega
            subst this; rfl
  | succ j ihj =>
    intro h1 h2 h3
    by_cases e : i = j + 1
    · subst e; rfl
    · have := ihj (by omega) (by omega) fun k q1 q2 => h3 k q1 (by omega)
      rw [← this]
      conv => lhs; unfold hd
      rw [if_neg (h3 j (by omega) (by omega))]
      split
      · have hle := R.nx_mono (show i ≤ j by omega) (by omega)
        unfold putH
        rw [if_neg (by omega)]
      · rfl
theorem hd_dom (R:Run P ih ops n tm hp nx T) (h0:∀ b k,getB hp b=some k→b<nx) (hl:∀ c,L c=true→isK ops T .chain c→∀ b k,getB (T (c+1)).hp b=some k→b<(T (c+1)).nx) :
  ∀ i,i≤ops.size→∀ b k,hd ops hp T L i b=some k→b<(T i).nx:=by
 intro i
 induction i with
 | zero=>intro _ b k h;rw[R.start];exact h0 b k h
 | succ i ihi =>
  intro hi b k h
  have hle:=R.nx_le (show i<ops.size by omega)
  unfold hd at h
  split at h
  ·rename_i hq;exact hl i hq.1 hq.2 b k h
  ·split at h
   ·rename_i hq
    unfold putH at h
    split at h
    ·rename_i e
     obtain⟨o,ho,hw,hc⟩:=hq.2
     obtain⟨_,v,hS⟩:=R.cases ho
     cases hS with
     | no hw' hT=>rw[hw] at hw';exact absurd hw' (by simp)
     | pure _ _ _ hw' hc' hX hT=>rw[hc] at hc';exact absurd hc' (by simp)
     | calm _ _ _ hw' hc' hX hT=>rw[hc] at hc';exact absurd hc' (by simp)
     | make _ _ _ _ hw' hc' hX hb hT=>rw[hT,e];exact Nat.lt_succ_self _
     | read _ _ _ hw' hc' hX hk hT=>rw[hc] at hc';exact absurd hc' (by simp)
     | chain _ _ _ hw' hc' _ _ hX hn hwa hT=>rw[hc] at hc';exact absurd hc' (by simp)
    ·exact Nat.lt_of_lt_of_le (ihi (by omega) b k h) hle
   ·exact Nat.lt_of_lt_of_le (ihi (by omega) b k h) hle
end
end Go.Proofs.YtdmelebgdaiinaaGreatDoor.Ev
set_option linter.unusedVariables false
set_option linter.unusedSimpArgs false
namespace Go.Proofs.YtdmelebgdaiinaaGreatDoor.Ev
def below (r:Rho) (m:Nat):Rho:=fun b=>if b<m then r b else none
theorem below_le (r:Rho) (m:Nat):(below r m).le r:=fun b x h=>by
 unfold below at h;split at h
 ·exact h
 ·exact absurd h (by simp)
theorem below_mono {r s:Rho} (h:r.le s) {m k:Nat} (hk:m≤k):(below r m).le (below s k):=fun b x hb=>by
 unfold below at hb ⊢;split at hb
 ·rw[if_pos (by omega)];exact h _ _ hb
 ·exact absurd hb (by simp)
theorem below_fresh (r:Rho) (m:Nat):Fresh m (below r m):=fun b hb=>by unfold below;rw[if_neg (by omega)]
theorem below_some {r:Rho} {m b:Nat} {x:BI} (h:below r m b=some x):b<m∧r b=some x:=by
 unfold below at h;split at h
 ·rename_i hb;exact⟨hb,h⟩
 ·exact absurd h (by simp)
def setL (L:Nat→Bool) (i:Nat):Nat→Bool:=fun j=>if j=i then true else L j
section
variable {P : Program} {ih : K} {ops : Array Oper} {n nx : Nat} {tm : Tr AV} {hp : Hp} {T : Nat → Ds} {L : Nat → Bool} {r : Rho} {w : World} {a : Act}
structure Inv (P:Program) (ops:Array Oper) (n:Nat) (hp:Hp) (T:Nat→Ds) (r:Rho) (w:World) (a:Act) (L:Nat→Bool) (r':Rho) (a':Act) (w':World):Prop where
 size:a'.tmps.size=n
 defs:a'.defers=a.defers
 slot:∀ t,Rel (below r' (T (lw ops L t ops.size)).nx) (slot (T (lw ops L t ops.size)).tm t) (a'.tmps.getD t undef)
 gam:∀ k,lc ops T L ops.size≤k→k≤ops.size→Gam (hd ops hp T L k) (below r' (T k).nx) w'
 real:∀ b x,r' b=some x→x.blk<w'.heap.size
 ext:Ext r r' w
 fr:Fr r w w'
 dom:∀ b,r' b≠none→b<(T (lc ops T L ops.size)).nx∨∃ j,lc ops T L ops.size≤j∧j<ops.size∧isK ops T .make j∧L j=true∧b=(T j).nx
 apt:∀ j,lc ops T L ops.size≤j→isK ops T .make j→L j=true→∃ y,r' (T j).nx=some y∧y.ro=false∧∀ b x,b≠(T j).nx→r' b=some x→x.blk≠y.blk
 low:∀ c,L c=true→isK ops T .chain c→∀ b k,getB (T (c+1)).hp b=some k→b<(T (c+1)).nx
theorem lw_set_other {i:Nat} {t:Tmp} (h:(ops[i]?).bind (·.dst)≠some t):∀ k,lw ops (setL L i) t k=lw ops L t k:=by
 intro k
 induction k with
 | zero=>rfl
 | succ k ihk =>
  unfold lw
  by_cases e:k=i
  ·subst e;rw[if_neg fun q=>h q.2,if_neg fun q=>h q.2,ihk]
  ·have:setL L i k=L k:=by unfold setL;rw[if_neg e]
   rw[this,ihk]
theorem lw_set_same {i:Nat} {t:Tmp} (h:(ops[i]?).bind (·.dst)=some t):∀ k,i<k→(∀ j,i<j→j<k→(ops[j]?).bind (·.dst)=some t→L j=false)→lw ops (setL L i) t k=i+1:=by
 intro k
 induction k with
 | zero=>intro hi;omega
 | succ k ihk =>
  intro hi hj
  unfold lw
  by_cases e:k=i
  ·subst e
   have:setL L k k=true:=by unfold setL;rw[if_pos rfl]
   rw[if_pos ⟨this,h⟩]
  ·have:setL L i k=L k:=by unfold setL;rw[if_neg e]
   rw[if_neg fun q=>by rw[this,hj k (by omega) (by omega) q.2] at q;exact absurd q.1 (by decide)]
   exact ihk (by omega) fun j q1 q2=>hj j q1 (by omega)
theorem lc_set_other {i:Nat} (h:¬ isK ops T .chain i):∀ k,lc ops T (setL L i) k=lc ops T L k:=by
 intro k
 induction k with
 | zero=>rfl
 | succ k ihk =>
  unfold lc
  by_cases e:k=i
  ·subst e;rw[if_neg fun q=>h q.2,if_neg fun q=>h q.2,ihk]
  ·have:setL L i k=L k:=by unfold setL;rw[if_neg e]
   rw[this,ihk]
theorem lc_set_same {i:Nat} (h:isK ops T .chain i):∀ k,i<k→(∀ j,i<j→j<k→isK ops T .chain j→L j=false)→lc ops T (setL L i) k=i+1:=by
 intro k
 induction k with
 | zero=>intro hi;omega
 | succ k ihk =>
  intro hi hj
  unfold lc
  by_cases e:k=i
  ·subst e
   have:setL L k k=true:=by unfold setL;rw[if_pos rfl]
   rw[if_pos ⟨this,h⟩]
  ·have:setL L i k=L k:=by unfold setL;rw[if_neg e]
   rw[if_neg fun q=>by rw[this,hj k (by omega) (by omega) q.2] at q;exact absurd q.1 (by decide)]
   exact ihk (by omega) fun j q1 q2=>hj j q1 (by omega)
theorem slot_setT (dst:Option Tmp) (v:AV) (tm:Tr AV) (t:Tmp):slot (setT dst v tm) t=if dst=some t then v else slot tm t:=by
 unfold setT
 cases dst with
 | none=>simp
 | some d =>
  simp only[slot_set,Option.some.injEq]
  by_cases h:t=d
  ·subst h;simp
  ·rw[if_neg h,if_neg fun e=>h e.symm]
theorem slot_keep (R : Run P ih ops n tm hp nx T) {t : Tmp} {b : Nat} : ∀ i, b ≤ i → i ≤ ops.size → (∀ j, b ≤ j → j < i → (ops[j]?).bind (·.dst) ≠ some t) → slot (T i).tm t = slot (T b).tm t := by
  intro i
  induction i with
  | zero => intro h _ _; have : b = 0 := by omega
            subst this; rfl
  | succ i ihi =>
    intro h1 h2 h3
    by_cases e : b = i + 1
    · subst e; rfl
    · have ho : ops[i]? = some ops[i] := Array.getElem?_eq_getElem (by omega)
      obtain ⟨_, v, hS⟩ := R.cases ho
      rw [hS.tm_eq, slot_setT, if_neg fun q => h3 i (by omega) (by omega) (by rw [ho]; exact q)]
      exact ihi (by omega) (by omega) fun j q1 q2 => h3 j q1 (by omega)
theorem looks (R:Run P ih ops n tm hp nx T) (hc:Closed ops L) {i:Nat} {o:Oper} (ho:ops[i]?=some o) (hL:L i=false) (ha:∀ j,bit (anc ops i) j=true→L j=true) {t:Tmp} (ht:t∈Oper.looksAt ops o∨o.dst=some t) :
  (∀ j,j<i→(ops[j]?).bind (·.dst)=some t→L j=true)∧(∀ j,i<j→(ops[j]?).bind (·.dst)=some t→L j=false):=by
 refine⟨fun j hj hd=>?_,fun j hj hd=>?_⟩
 ·cases hp':ops[j]? with
  | none=>rw[hp'] at hd;exact absurd hd (by simp)
  | some p =>
   rw[hp'] at hd
   have hd:p.dst=some t:=hd
   rcases R.pairs i j o p ho hp' hj with h | h
   ·exact ha j h
   ·obtain⟨s1,s2,s3⟩:=Oper.apart_spec h
    rcases ht with ht | ht
    ·exact absurd ht (s1 t hd)
    ·exact absurd ht (s2 t hd)
 ·cases hp':ops[j]? with
  | none=>rw[hp'] at hd;exact absurd hd (by simp)
  | some p =>
   rw[hp'] at hd
   have hd:p.dst=some t:=hd
   cases hj':L j with
   | false=>rfl
   | true =>
    rcases R.pairs j i p o hp' ho hj with h | h
    ·have:=closed_anc' hc hj' h;rw[hL] at this;exact absurd this (by decide)
    ·obtain⟨s1,s2,s3⟩:=Oper.apart_spec h
     rcases ht with ht | ht
     ·exact absurd ht (s3 t hd)
     ·exact absurd hd (s2 t ht)
theorem lw_le (R:Run P ih ops n tm hp nx T) {i:Nat} (hL:L i=false) {t:Tmp} (h:∀ j,i<j→(ops[j]?).bind (·.dst)=some t→L j=false):lw ops L t ops.size≤i:=by
 obtain⟨h1,h2,h3⟩:=lw_spec (ops:=ops) (L:=L) t ops.size
 cases hb:lw ops L t ops.size with
 | zero=>omega
 | succ b =>
  obtain⟨q1,q2⟩:=h2 b hb
  have:¬ i<b:=fun hlt=>by rw[h b hlt q2] at q1;exact absurd q1 (by decide)
  have:b≠i:=fun e=>by subst e;rw[hL] at q1;exact absurd q1 (by decide)
  omega
def acO (l:List Tmp) (n:Nat) (a:Act):Act:={ tmps:=(Array.range n).map fun t=>if t∈l then a.tmps.getD t undef else undef,defers:=[] }
theorem acO_get (l:List Tmp) (n:Nat) (a:Act) (t:Tmp):(acO l n a).tmps.getD t undef=if t<n then (if t∈l then a.tmps.getD t undef else undef) else undef:=by
 unfold acO
 simp only[Array.getD_eq_getD_getElem?,Array.getElem?_map,Array.getElem?_range]
 by_cases h:t<n
 ·simp[h]
 ·simp[h]
theorem acO_mem {l:List Tmp} {n:Nat} {a:Act} (hs:a.tmps.size=n) {t:Tmp} (ht:t∈l):(acO l n a).tmps.getD t undef=a.tmps.getD t undef:=by
 rw[acO_get]
 by_cases h:t<n
 ·rw[if_pos h,if_pos ht]
 ·rw[if_neg h,Array.getD_eq_getD_getElem?,Array.getElem?_eq_none (show a.tmps.size≤t by rw[hs];exact Nat.not_lt.1 h)];rfl
theorem acO_ok (R:Run P ih ops n tm hp nx T) (hc:Closed ops L) {r':Rho} {a':Act} {w':World} (I:Inv P ops n hp T r w a L r' a' w') {i:Nat} {o:Oper} (ho:ops[i]?=some o) (hL:L i=false)
  (ha:∀ j,bit (anc ops i) j=true→L j=true):TmOk (below r' (T i).nx) n (qAt ops T i o) (acO (Oper.looksAt ops o) n a'):=by
 have hi:i<ops.size:=(Array.getElem?_eq_some_iff.1 ho).1
 refine⟨by simp[acO],fun t=>?_,?_⟩
 ·unfold qAt
  rw[slot_only]
  by_cases ht:t∈Oper.looksAt ops o
  ·rw[if_pos ht,acO_mem I.size ht]
   obtain⟨w1,w2⟩:=looks R hc ho hL ha (.inl ht)
   have hle:=lw_le R hL w2
   have hk:=slot_keep R (t:=t) (b:=lw ops L t ops.size) i hle (by omega) fun j q1 q2 q3=>(lw_spec (ops:=ops) (L:=L) t ops.size).2.2 j q1 (by omega) ⟨w1 j q2 q3,q3⟩
   rw[hk]
   exact (I.slot t).mono (below_mono (Rho.le_refl _) (R.nx_mono hle (by omega))) _ _
  ·rw[if_neg ht,acO_get]
   have:(if t<n then (if t∈Oper.looksAt ops o then a'.tmps.getD t undef else undef) else undef)=undef:=by
    rw[if_neg ht];split <;> rfl
   rw[this]
   exact rel_undef
 ·unfold qAt
  rw[df_only];rfl
theorem acO_exec {a':Act} (hs:a'.tmps.size=n) {o:Oper} (hsel:∀ cs b,o.op≠.select cs b):execOp (acO (Oper.looksAt ops o) n a').eval o=execOp a'.eval o:=by
 refine execOp_congr o hsel fun x hx=>?_
 cases x with
 | tmp t =>
  have ht:t∈Oper.looksAt ops o:=List.mem_append_left _ (List.mem_filterMap.2 ⟨.tmp t,by simpa using hx,rfl⟩)
  exact acO_mem hs ht
 | _=>rfl
theorem acO_wanted {a':Act} (hs:a'.tmps.size=n) {o:Oper} : Region.wanted o (yielded ops (acO (Oper.looksAt ops o) n a').tmps)=Region.wanted o (yielded ops a'.tmps):=by
 unfold Region.wanted
 cases hg:o.guard with
 | none=>rfl
 | some p =>
  obtain⟨j,want⟩:=p
  have hy:yielded ops (acO (Oper.looksAt ops o) n a').tmps j=yielded ops a'.tmps j:=by
   unfold yielded
   cases hd:(ops[j]?).bind (·.dst) with
   | none=>rfl
   | some d =>
    have hm:d∈Oper.looksAt ops o:=by
     unfold Oper.looksAt
     rw[hg]
     refine List.mem_append_right _ ?_
     simp only[hd,Option.toList_some]
     exact List.mem_cons_self
    have e:(acO (Oper.looksAt ops o) n a').tmps[d]?=a'.tmps[d]?:=by
     have:=acO_mem hs hm
     by_cases hdn:d<n
     ·simp only[acO,Array.getElem?_map,Array.getElem?_range,hdn,if_true,Option.map_some,hm]
      rw[Array.getD_eq_getD_getElem?,Array.getElem?_eq_getElem (show d<a'.tmps.size by rw[hs];exact hdn)]
      rfl
     ·rw[Array.getElem?_eq_none (show (acO (Oper.looksAt ops o) n a').tmps.size≤d by simp only[acO,Array.size_map,Array.size_range];exact Nat.not_lt.1 hdn),Array.getElem?_eq_none (show a'.tmps.size≤d by rw[hs];exact Nat.not_lt.1 hdn)]
    simp only[Option.bind_some,e]
  simp only[hy]
theorem slot_step (R:Run P ih ops n tm hp nx T) {r' r'':Rho} {a':Act} (hslot:∀ t,Rel (below r' (T (lw ops L t ops.size)).nx) (slot (T (lw ops L t ops.size)).tm t) (a'.tmps.getD t undef)) (hs:a'.tmps.size=n) (hle:r'.le r'')
  {i:Nat} {o:Oper} (ho:ops[i]?=some o) (hdst:dstOk o.dst n=true) (h2:∀ t,o.dst=some t→∀ j,i<j→(ops[j]?).bind (·.dst)=some t→L j=false) {v:AV} (hS:Stp P ih ops T i o v) {x:Value} (hx:Rel (below r'' (T (i+1)).nx) v x) :
  (a'.put o.dst x).tmps.size=n∧∀ t,Rel (below r'' (T (lw ops (setL L i) t ops.size)).nx) (slot (T (lw ops (setL L i) t ops.size)).tm t) ((a'.put o.dst x).tmps.getD t undef):=by
 have hi:i<ops.size:=(Array.getElem?_eq_some_iff.1 ho).1
 refine⟨by cases hd:o.dst <;> simp[Act.put,hs],fun t=>?_⟩
 by_cases hd:o.dst=some t
 ·rw[lw_set_same (by rw[ho];exact hd) ops.size hi fun j q1 q2 q3=>h2 t hd j q1 q3,hS.tm_eq,slot_setT,if_pos hd]
  rw[hd] at hdst ⊢
  have htn:t<n:=blt_lt (show Nat.blt t n=true from hdst)
  have:(a'.put (some t) x).tmps.getD t undef=x:=by
   simp only[Act.put,Array.getD_eq_getD_getElem?]
   rw[Array.getElem?_setIfInBounds_self,if_pos (show t<a'.tmps.size by rw[hs];exact htn)];rfl
  rw[this];exact hx
 ·rw[lw_set_other (by rw[ho];exact hd)]
  have:(a'.put o.dst x).tmps.getD t undef=a'.tmps.getD t undef:=by
   cases hd':o.dst with
   | none=>rfl
   | some d =>
    have:d≠t:=fun e=>hd (by rw[hd',e])
    simp only[Act.put,Array.getD_eq_getD_getElem?]
    rw[Array.getElem?_setIfInBounds_ne this]
  rw[this]
  exact (hslot t).mono (below_mono hle (Nat.le_refl _)) _ _
end
end Go.Proofs.YtdmelebgdaiinaaGreatDoor.Ev
set_option linter.unusedVariables false
set_option linter.unusedSimpArgs false
namespace Go.Proofs.YtdmelebgdaiinaaGreatDoor.Ev
section
variable {P : Program} {r : Rho} {n : Nat} {tm : Tr AV} {a : Act} {w : World} {o : Oper} {hp hp' : Hp} {nx nx' : Nat} {v : AV}
theorem pureR_inv {e:Option AV} (h:pureR e hp nx=.ok v hp' nx'):e=some v:=by
 cases e with
 | none=>exact absurd (show R.no=.ok v hp' nx' from h) (by simp)
 | some u=>injection (show R.ok u hp nx=.ok v hp' nx' from h) with h;rw[h]
theorem runR_inv {α:Type} {e:Option α} {f:α→R} (h:runR e f=.ok v hp' nx'):∃ x,e=some x∧f x=.ok v hp' nx':=by
 cases e with
 | none=>exact absurd (show R.no=.ok v hp' nx' from h) (by simp)
 | some u=>exact⟨u,rfl,h⟩
theorem newR_inv {e:Option (AV×Blk)} (h:newR e hp nx=.ok v hp' nx'):∃ k,e=some (v,k)∧hp'=setB (some k) nx hp:=by
 cases e with
 | none=>exact absurd (show R.no=.ok v hp' nx' from h) (by simp)
 | some p =>
  injection (show R.ok p.1 (setB (some p.2) nx hp) (Nat.succ nx)=.ok v hp' nx' from h) with h1 h2 h3
  exact⟨p.2,by rw[← h1],h2.symm⟩
theorem arg1_inv {f:AV→R} {vs:List AV} (h:arg1 f vs=.ok v hp' nx'):∃ x,vs=[x]∧f x=.ok v hp' nx':=by
 unfold arg1 at h;split at h
 ·exact⟨_,rfl,h⟩
 ·exact absurd h (by simp)
theorem arg2_inv {f:AV→AV→R} {vs:List AV} (h:arg2 f vs=.ok v hp' nx'):∃ x y,vs=[x,y]∧f x y=.ok v hp' nx':=by
 unfold arg2 at h;split at h
 ·exact⟨_,_,rfl,h⟩
 ·exact absurd h (by simp)
theorem xNo_inv {α:Prop} (h:R.no=.ok v hp' nx'):α:=absurd h (by simp)
theorem value_clc (f:Operand):clCall (.value f)=.chain∨clCall (.value f)=.calm:=by
 cases f <;> first | exact .inl rfl | skip
 rename_i g
 show sel (isCalm g) Cl.calm Cl.chain=.chain∨sel (isCalm g) Cl.calm Cl.chain=.calm
 cases isCalm g
 ·exact .inl rfl
 ·exact .inr rfl
theorem value_cl (f:Operand) {xs:Array Operand} {ts:Array TypeId} (h:clOf (.call ⟨.value f,xs,ts⟩)=.pure∨clOf (.call ⟨.value f,xs,ts⟩)=.read):False:=by
 have h:clCall (.value f)=.pure∨clCall (.value f)=.read:=h
 rcases value_clc f with e | e <;> rw[e] at h <;> rcases h with h | h <;> exact Cl.noConfusion h
theorem value_clm (f:Operand) {xs:Array Operand} {ts:Array TypeId} (h:clOf (.call ⟨.value f,xs,ts⟩)=.make):False:=by
 have h:clCall (.value f)=.make:=h
 rcases value_clc f with e | e <;> rw[e] at h <;> exact Cl.noConfusion h
theorem still_ok (ht:TmOk r n tm a) (hg:Glob P r) (g:Gam (getB hp) r w) (hc:clOf o.op=.pure∨clOf o.op=.read) (h:opX o.op P tm hp nx=.ok v hp' nx'):Owes P o a r w v:=by
 cases hop:o.op <;> rw[hop] at hc h <;> first | (exfalso;rcases hc with hc | hc <;> exact Cl.noConfusion hc) | skip
 case move x=>exact move_ok ht hg (.inl hop) (pureR_inv h)
 case assign x=>exact move_ok ht hg (.inr hop) (pureR_inv h)
 case pick c x y=>exact pick_ok ht hg hop (pureR_inv h)
 case build t ps=>exact build_ok ht hg hop (pureR_inv h)
 case load t x=>exact load_ok ht hg g hop (pureR_inv h)
 case nilCheck x=>exact nilCheck_ok ht hg hop (pureR_inv h)
 case binOp op t x y t'=>exact bin_ok ht hg hop (pureR_inv h)
 case unOp op t x=>exact un_ok ht hg hop (pureR_inv h)
 case convert s d x=>exact conv_ok ht hg hop (pureR_inv h)
 case makeInterface t x=>exact iface_ok ht hg hop (pureR_inv h)
 case makeFunc fn x y =>
  cases fn <;> first | exact func_ok ht hg hop (pureR_inv h) | exact xNo_inv h
 case slice t x lo hi mx=>exact slice_ok ht hg hop (pureR_inv h)
 case fieldAddr s x f=>exact fieldAddr_ok ht hg hop (pureR_inv h)
 case field s x f=>exact field_ok ht hg hop (pureR_inv h)
 case indexAddr t x i=>exact indexAddr_ok ht hg hop (pureR_inv h)
 case index t x i=>exact index_ok ht hg hop (pureR_inv h)
 case lookup t x i ok=>exact lookup_ok ht hg g hop (pureR_inv h)
 case typeAssert x t' t ok=>exact assert_ok ht hg hop (pureR_inv h)
 case extract x i=>exact extract_ok ht hg hop (pureR_inv h)
 case call c =>
  obtain⟨callee,xs,ts⟩:=c
  cases callee with
  | value f=>exact (value_cl f hc).elim
  | invoke f name=>(exfalso;rcases hc with hc | hc <;> exact Cl.noConfusion hc)
  | builtin b =>
   obtain⟨vs,h1,h2⟩:=runR_inv (show runR (opnds P tm xs.toList) (fun vs=>builtinR b P ts vs hp nx)=.ok v hp' nx' from h)
   cases b <;> first | (exfalso;rcases hc with hc | hc <;> exact Cl.noConfusion hc) | skip
   case cap =>
    obtain⟨e,h3,h4⟩:=runR_inv h2
    obtain⟨x,h5,h6⟩:=arg1_inv h4
    subst h5;exact cap_ok ht hg hop h3 h1 (pureR_inv h6)
   case len =>
    obtain⟨e,h3,h4⟩:=runR_inv h2
    obtain⟨x,h5,h6⟩:=arg1_inv h4
    subst h5;exact len_ok ht hg g hop h3 h1 (pureR_inv h6)
   case max =>
    obtain⟨x,y,h5,h6⟩:=arg2_inv h2
    subst h5;exact max_ok ht hg hop h1 (pureR_inv h6)
   case min =>
    obtain⟨x,y,h5,h6⟩:=arg2_inv h2
    subst h5;exact min_ok ht hg hop h1 (pureR_inv h6)
theorem make_run (ht:TmOk r n tm a) (hg:Glob P r) (hc:clOf o.op=.make) (h:opX o.op P tm .leaf nx=.ok v hp' nx') {b:Blk} (hb:getB hp' nx=some b) (w:World) :
  ∃ obj u,(execOp a.eval o).run P w=.ok (.value u) (w.alloc obj)∧∀ s:Rho,r.le s→s nx=some ⟨w.heap.size,0,0,false⟩→Rel s v u∧BOk s (w.alloc obj) ⟨w.heap.size,0,0,false⟩ b:=by
 have blk:∀ k:Blk,hp'=setB (some k) nx .leaf→b=k:=fun k e=>by
  rw[e,getB_put] at hb
  have:(if nx=nx then some k else getB .leaf nx)=some b:=hb
  rw[if_pos rfl] at this
  injection this with this
  exact this.symm
 cases hop:o.op <;> rw[hop] at hc h <;> first | (exfalso;exact Cl.noConfusion hc) | skip
 case alloc t =>
  obtain⟨k,h1,h2⟩:=newR_inv h
  obtain⟨z,h3,h4⟩:=bnd_some h1
  obtain⟨sz,h5,h6⟩:=bnd_some h4
  injection h6 with h6;injection h6 with h6 h7
  have:=blk k h2
  subst this;subst h6;subst h7
  obtain⟨i,u,z1,z2,z3⟩:=zero_ok h3
  refine⟨.cells u.cells t,.pointer (some ⟨w.heap.size,0,none⟩),?_,fun s hle hs=>⟨rel_ptr.2 ⟨_,hs,rfl⟩,bok_new (cells_ok (rel_avOf _ _ z3)) _ _ _ _ ?_⟩⟩
  ·simp only[execOp,hop,Instr.alloc,Sem.run_bind,run_zero z1 z2,Result.andThen_ok,newVar,newRow,run_newObj,Sem.run_pure];rfl
  ·have:=(cells_ok (rel_avOf (r:=r) _ _ z3)).length
   simp at this;omega
 case box t x =>
  obtain⟨k,h1,h2⟩:=newR_inv h
  obtain⟨z,h3,h4⟩:=bnd_some h1
  obtain⟨sz,h5,h6⟩:=bnd_some h4
  injection h6 with h6;injection h6 with h6 h7
  have:=blk k h2
  subst this;subst h6;subst h7
  have hx:=opnd_ok ht hg h3
  refine⟨.cells (a.eval x).cells t,.pointer (some ⟨w.heap.size,0,none⟩),?_,fun s hle hs=>⟨rel_ptr.2 ⟨_,hs,rfl⟩,bok_new (cells_ok (hx.mono hle _ _)) _ _ _ _ ?_⟩⟩
  ·simp only[execOp,hop,Instr.box,Sem.run_bind,Result.andThen_ok,newVar,newRow,run_newObj,Sem.run_pure];rfl
  ·have:=(cells_ok hx).length
   simp at this;omega
 case buildSlice t m parts =>
  obtain⟨k,h1,h2⟩:=newR_inv h
  obtain⟨e,h3,h4⟩:=bnd_some h1
  obtain⟨ps,h5,h6⟩:=bnd_some h4
  obtain⟨cs,h7,h8⟩:=bnd_some h6
  obtain⟨h9,h10⟩:=sel_none h8
  injection h10 with h10;injection h10 with h10 h11
  have:=blk k h2
  subst this;subst h10;subst h11
  obtain⟨c',el,q1,q2,q3⟩:=buildSlice_run ht hg hop h3 h5 h7 h9 w
  refine⟨.cells c' el,.slice (some ⟨w.heap.size,0,none⟩) m m,q1,fun s hle hs=>⟨rel_slice.2 ⟨_,_,hs,rfl,fun _=>rfl⟩,bok_new (q2.mono hle _ _) _ _ _ _ q3⟩⟩
 case makeSlice t x y =>
  obtain⟨k,h1,h2⟩:=newR_inv h
  obtain⟨e,h3,h4⟩:=bnd_some h1
  obtain⟨l,h5,h6⟩:=bnd_some h4
  obtain⟨c,h7,h8⟩:=bnd_some h6
  obtain⟨h9,h10⟩:=sel_none h8
  injection h10 with h10;injection h10 with h10 h11
  have:=blk k h2
  subst this;subst h10;subst h11
  obtain⟨c',el,q1,q2,q3⟩:=makeSlice_run ht hg hop h3 h5 h7 h9 w
  refine⟨.cells c' el,.slice (some ⟨w.heap.size,0,none⟩) l c,q1,fun s hle hs=>⟨rel_slice.2 ⟨_,_,hs,rfl,fun _=>rfl⟩,bok_new (q2.mono hle _ _) _ _ _ _ q3⟩⟩
 case call c =>
  obtain⟨callee,xs,ts⟩:=c
  cases callee with
  | value f=>exact (value_clm f hc).elim
  | invoke f name=>(exfalso;exact Cl.noConfusion hc)
  | builtin b=>cases b <;> (exfalso;exact Cl.noConfusion hc)
theorem lowA_ok {m:Nat} {x:Value} (h:lowA m v=true) (hx:Rel r v x):Rel (below r m) v x:=by
 have low:∀ {b:Nat},Nat.blt b m=true→below r m b=r b:=fun h=>by unfold below;rw[if_pos (blt_lt h)]
 cases v <;> first | exact absurd (show false=true from h) (by decide) | skip
 case bool b=>exact rel_bool.2 (rel_bool.1 hx)
 case int k b=>exact rel_int.2 (rel_int.1 hx)
 case str b=>exact rel_str.2 (rel_str.1 hx)
 case ptr b off=>obtain⟨y,h1,h2⟩:=rel_ptr.1 hx;exact rel_ptr.2 ⟨y,by rw[low h];exact h1,h2⟩
 case nilPtr=>exact rel_nilPtr.2 (rel_nilPtr.1 hx)
 case slice b off l c e=>obtain⟨y,q,h1,h2⟩:=rel_slice.1 hx;exact rel_slice.2 ⟨y,q,by rw[low h];exact h1,h2⟩
 case nilSlice=>exact rel_nilSlice.2 (rel_nilSlice.1 hx)
 case map b=>obtain⟨y,h1,h2⟩:=rel_map.1 hx;exact rel_map.2 ⟨y,by rw[low h];exact h1,h2⟩
 case nilMap=>exact rel_nilMap.2 (rel_nilMap.1 hx)
 case nilFunc=>exact rel_nilFunc.2 (rel_nilFunc.1 hx)
 case nilIface=>exact rel_nilIface.2 (rel_nilIface.1 hx)
theorem lowAs_ok {m:Nat} : ∀ {l:List AV} {x:List Value},lowAs m l=true→Rels r l x→Rels (below r m) l x:=by
 intro l
 induction l with
 | nil=>intro x _ h;exact Rels_nil.2 (Rels_nil.1 h)
 | cons a l ih =>
  intro x h hx
  obtain⟨u,us,h1,h2,h3⟩:=Rels_cons.1 hx
  have h':sel (lowA m a) (lowAs m l) false=true:=h
  cases hl:lowA m a with
  | false=>rw[hl] at h';exact absurd (show false=true from h') (by decide)
  | true=>rw[hl] at h';exact Rels_cons.2 ⟨u,us,h1,lowA_ok hl h2,ih h' h3⟩
theorem lowV_ok {m:Nat} {x:Value} (h:lowV m v=true) (hx:Rel r v x):Rel (below r m) v x:=by
 cases v <;> first | exact lowA_ok h hx | skip
 case agg l=>obtain⟨y,h1,h2⟩:=rel_agg.1 hx;exact rel_agg.2 ⟨y,h1,lowAs_ok h h2⟩
end
end Go.Proofs.YtdmelebgdaiinaaGreatDoor.Ev
set_option linter.unusedVariables false
set_option linter.unusedSimpArgs false
namespace Go.Proofs.YtdmelebgdaiinaaGreatDoor.Ev
section
variable {P : Program} {ih : K} {ops : Array Oper} {n nx : Nat} {tm : Tr AV} {hp : Hp} {T : Nat → Ds} {L : Nat → Bool} {r r' : Rho} {w w' : World} {a a' : Act}
theorem setL_same (L:Nat→Bool) (i:Nat):setL L i i=true:=by unfold setL;rw[if_pos rfl]
theorem setL_other (L:Nat→Bool) {i j:Nat} (h:j≠i):setL L i j=L j:=by unfold setL;rw[if_neg h]
theorem put_defers (a:Act) (d:Option Tmp) (x:Value):(a.put d x).defers=a.defers:=by cases d <;> rfl
theorem hd_lc (R:Run P ih ops n tm hp nx T) (k:Nat):hd ops hp T L (lc ops T L k)=getB (T (lc ops T L k)).hp:=by
 cases hb:lc ops T L k with
 | zero=>rw[R.start];rfl
 | succ b =>
  have:=(lc_spec (ops:=ops) (T:=T) (L:=L) k).2.1 b hb
  unfold hd
  rw[if_pos this]
theorem later (R:Run P ih ops n tm hp nx T) (hc:Closed ops L) {i:Nat} (hL:L i=false) (hk:isK ops T .make i∨isK ops T .chain i):∀ c,i<c→isK ops T .chain c→L c=false:=by
 intro c hlt hcc
 cases h:L c with
 | false=>rfl
 | true =>
  have:=R.chain_all hc hcc (fun j hj=>closed_anc' hc h hj) i hlt hk
  rw[hL] at this;exact absurd this (by decide)
theorem lc_le {i:Nat} (hL:L i=false) (h:∀ c,i<c→isK ops T .chain c→L c=false):lc ops T L ops.size≤i:=by
 obtain⟨h1,h2,h3⟩:=lc_spec (ops:=ops) (T:=T) (L:=L) ops.size
 cases hb:lc ops T L ops.size with
 | zero=>omega
 | succ b =>
  obtain⟨q1,q2⟩:=h2 b hb
  have:¬ i<b:=fun hlt=>by rw[h b hlt q2] at q1;exact absurd q1 (by decide)
  have:b≠i:=fun e=>by subst e;rw[hL] at q1;exact absurd q1 (by decide)
  omega
theorem Run.make_nx (R:Run P ih ops n tm hp nx T) {j:Nat} (h:isK ops T .make j):j<ops.size∧(T (j+1)).nx=(T j).nx+1:=by
 obtain⟨o,ho,hw,hc⟩:=h
 refine⟨(Array.getElem?_eq_some_iff.1 ho).1,?_⟩
 obtain⟨_,v,hS⟩:=R.cases ho
 cases hS with
 | no hw' hT=>rw[hw] at hw';exact absurd hw' (by simp)
 | pure _ _ _ hw' hc' hX hT=>rw[hc] at hc';exact absurd hc' (by simp)
 | calm _ _ _ hw' hc' hX hT=>rw[hc] at hc';exact absurd hc' (by simp)
 | make _ _ _ _ hw' hc' hX hb hT=>rw[hT]
 | read _ _ _ hw' hc' hX hk hT=>rw[hc] at hc';exact absurd hc' (by simp)
 | chain _ _ _ hw' hc' _ _ hX hn hwa hT=>rw[hc] at hc';exact absurd hc' (by simp)
theorem names (R:Run P ih ops n tm hp nx T) (I:Inv P ops n hp T r w a L r' a' w') {i:Nat} (hi:i<ops.size) (hL:L i=false) (hlc:lc ops T L ops.size≤i) {b:Nat} (hb:r' b≠none) :
  b<(T i).nx∨∃ j,i<j∧j<ops.size∧isK ops T .make j∧L j=true∧b=(T j).nx∧(T (i+1)).nx≤b:=by
 rcases I.dom b hb with h | ⟨j,h1,h2,h3,h4,h5⟩
 ·exact .inl (Nat.lt_of_lt_of_le h (R.nx_mono hlc (by omega)))
 ·have hne:j≠i:=fun e=>by subst e;rw[hL] at h4;exact absurd h4 (by decide)
  by_cases hlt:j<i
  ·left
   have:=(R.make_nx h3).2
   have:=R.nx_mono (show j+1≤i by omega) (by omega)
   omega
  ·have:=R.nx_mono (show i+1≤j by omega) (by omega)
   exact .inr ⟨j,by omega,h2,h3,h4,h5,by omega⟩
theorem quiet (R:Run P ih ops n tm hp nx T) (I:Inv P ops n hp T r w a L r' a' w') {i:Nat} {o:Oper} (ho:ops[i]?=some o) (hdst:dstOk o.dst n=true)
  (h2:∀ t,o.dst=some t→∀ j,i<j→(ops[j]?).bind (·.dst)=some t→L j=false) {v:AV} (hS:Stp P ih ops T i o v) {x:Value} (hx:Rel (below r' (T (i+1)).nx) v x)
  (hm:¬ isK ops T .make i) (hch:¬ isK ops T .chain i):Inv P ops n hp T r w a (setL L i) r' (a'.put o.dst x) w':=by
 obtain⟨s1,s2⟩:=slot_step R I.slot I.size (Rho.le_refl r') ho hdst h2 hS hx
 have hlc:lc ops T (setL L i) ops.size=lc ops T L ops.size:=lc_set_other hch _
 have keep:∀ j,(isK ops T .make j∨isK ops T .chain j)→setL L i j=L j:=fun j hj=>setL_other L fun e=>by
  subst e;exact hj.elim hm hch
 have hhd:∀ k,hd ops hp T (setL L i) k=hd ops hp T L k:=fun k=>hd_congr k fun j _ hj=>keep j hj
 refine { size:=s1,defs:=(put_defers _ _ _).trans I.defs,slot:=s2,gam:=fun k h1 h2=>?_,real:=I.real,ext:=I.ext,fr:=I.fr,dom:=fun b hb=>?_,apt:=fun j h1 h2 h3=>?_,low:=fun c h1 h2=>?_ }
 ·rw[hhd];rw[hlc] at h1;exact I.gam k h1 h2
 ·rw[hlc]
  rcases I.dom b hb with h | ⟨j,h1,h2,h3,h4,h5⟩
  ·exact .inl h
  ·exact .inr ⟨j,h1,h2,h3,by rw[keep j (.inl h3)];exact h4,h5⟩
 ·rw[hlc] at h1
  exact I.apt j h1 h2 (by rw[← keep j (.inl h2)];exact h3)
 ·exact I.low c (by rw[← keep c (.inr h2)];exact h1) h2
theorem Gam.grow {h:H} {w1:World} (g:Gam h r w) (hh:∀ i,i<w.heap.size→w1.heap[i]?=w.heap[i]?) (hs:w.heap.size≤w1.heap.size):Gam h r w1 :=
 ⟨fun b k hb=>let ⟨x,h1,h2⟩:=g.blk b k hb;⟨x,h1,h2.kept (Rho.le_refl r) (hh _ (g.real _ _ h1))⟩,fun b x hb=>Nat.lt_of_lt_of_le (g.real b x hb) hs,g.sep⟩
theorem Inv.grow {w1:World} (I:Inv P ops n hp T r w a L r' a' w') (h1:w1.os=w'.os) (h2:w1.tape=w'.tape) (h3:w1.output=w'.output) (hs:w'.heap.size≤w1.heap.size) (hh:∀ i,i<w'.heap.size→w1.heap[i]?=w'.heap[i]?):Inv P ops n hp T r w a L r' a' w1 :=
 {size:=I.size,defs:=I.defs,slot:=I.slot,gam:=fun k q1 q2=>(I.gam k q1 q2).grow hh hs,real:=fun b x hb=>Nat.lt_of_lt_of_le (I.real b x hb) hs,ext:=I.ext,
  fr:=⟨h1.trans I.fr.os,h2.trans I.fr.tape,h3.trans I.fr.output,Nat.le_trans I.fr.size hs,fun i hi hn=>(hh i (Nat.lt_of_lt_of_le hi I.fr.size)).trans (I.fr.blk i hi hn)⟩,dom:=I.dom,apt:=I.apt,low:=I.low }
theorem Gam.more {h:H} (g:Gam h r w) (obj:Obj):Gam h r (w.alloc obj) :=
 ⟨fun b k hb=>let ⟨x,h1,h2⟩:=g.blk b k hb;⟨x,h1,h2.kept (Rho.le_refl r) (heap_alloc_lt (g.real _ _ h1))⟩,fun b x hb=>by rw[World.size_alloc];have:=g.real b x hb;omega,g.sep⟩
theorem hd_make_low {i:Nat} : ∀ k,k≤i→hd ops hp T (setL L i) k=hd ops hp T L k:=fun k hk=>hd_congr k fun j hj _=>setL_other L (by omega)
open Classical in
theorem hd_make_high (R:Run P ih ops n tm hp nx T) {i:Nat} (hL:L i=false) (hk:isK ops T .make i) (hnc:¬ isK ops T .chain i) (hlat:∀ c,i<c→isK ops T .chain c→L c=false) {b:Blk}
  (hb:headB (T (i+1)).pend=b) :
  ∀ k,i<k→k≤ops.size→hd ops hp T (setL L i) k=putH (hd ops hp T L k) (T i).nx b:=by
 intro k
 induction k with
 | zero=>intro h;omega
 | succ k ihk =>
  intro h1 h2
  by_cases e:k=i
  ·subst e
   have hl:=hd_make_low (ops:=ops) (hp:=hp) (T:=T) (L:=L) (i:=k) k (Nat.le_refl _)
   have e1:hd ops hp T (setL L k) (k+1)=putH (hd ops hp T (setL L k) k) (T k).nx b:=by
    conv=>lhs;unfold hd
    rw[if_neg fun h=>hnc h.2,if_pos ⟨setL_same L k,hk⟩,hb]
   have e2:hd ops hp T L (k+1)=hd ops hp T L k:=by
    conv=>lhs;unfold hd
    rw[if_neg fun h=>hnc h.2,if_neg fun h=>by rw[hL] at h;exact absurd h.1 (by decide)]
   rw[e1,e2,hl]
  ·have ih':=ihk (by omega) (by omega)
   have hs:setL L i k=L k:=setL_other L e
   have e1:hd ops hp T (setL L i) (k+1)=if L k=true∧isK ops T .make k then putH (hd ops hp T (setL L i) k) (T k).nx (headB (T (k+1)).pend) else hd ops hp T (setL L i) k:=by
    conv=>lhs;unfold hd
    rw[hs,if_neg fun h=>by rw[hlat k (by omega) h.2] at h;exact absurd h.1 (by decide)]
   have e2:hd ops hp T L (k+1)=if L k=true∧isK ops T .make k then putH (hd ops hp T L k) (T k).nx (headB (T (k+1)).pend) else hd ops hp T L k:=by
    conv=>lhs;unfold hd
    rw[if_neg fun h=>by rw[hlat k (by omega) h.2] at h;exact absurd h.1 (by decide)]
   rw[e1,e2,ih']
   split
   ·have hm:=(R.make_nx hk).2
    have hle:=R.nx_mono (show i+1≤k by omega) (by omega)
    funext c
    unfold putH
    by_cases c1:c=(T k).nx
    ·rw[if_pos c1,if_neg (by omega),if_pos c1]
    ·rw[if_neg c1]
     by_cases c2:c=(T i).nx
     ·rw[if_pos c2,if_pos c2]
     ·rw[if_neg c2,if_neg c2,if_neg c1]
   ·rfl
theorem make_inv (R:Run P ih ops n tm hp nx T) (hc:Closed ops L) (I:Inv P ops n hp T r w a L r' a' w') {i:Nat} {o:Oper} (ho:ops[i]?=some o) (hL:L i=false) (hdst:dstOk o.dst n=true)
  (h2:∀ t,o.dst=some t→∀ j,i<j→(ops[j]?).bind (·.dst)=some t→L j=false) {v:AV} (hS:Stp P ih ops T i o v) (hk:isK ops T .make i) (hnc:¬ isK ops T .chain i) {b:Blk}
  (hb:headB (T (i+1)).pend=b) {obj:Obj} {u:Value}
  (hu:∀ s:Rho,(below r' (T i).nx).le s→s (T i).nx=some ⟨w'.heap.size,0,0,false⟩→Rel s v u∧BOk s (w'.alloc obj) ⟨w'.heap.size,0,0,false⟩ b) :
  Inv P ops n hp T r w a (setL L i) (r'.put (T i).nx ⟨w'.heap.size,0,0,false⟩) (a'.put o.dst u) (w'.alloc obj):=by
 have hi:=(R.make_nx hk).1
 have hnx:=(R.make_nx hk).2
 have hlat:=later R hc hL (.inl hk)
 have hle:=lc_le (ops:=ops) hL hlat
 have hlc:lc ops T (setL L i) ops.size=lc ops T L ops.size:=lc_set_other hnc _
 have hnew:r' (T i).nx=none:=by
  cases h:r' (T i).nx with
  | none=>rfl
  | some y =>
   rcases names R I hi hL hle (b:=(T i).nx) (by rw[h];simp) with h | ⟨j,h1,h2,h3,h4,h5,h6⟩ <;> omega
 have hrr:=Rho.put_le (r:=r') ⟨w'.heap.size,0,0,false⟩ hnew
 have hput:∀ c,c≠(T i).nx→(r'.put (T i).nx ⟨w'.heap.size,0,0,false⟩) c=r' c:=fun c hc=>by unfold Rho.put;rw[if_neg hc]
 have hsame:=Rho.put_same r' (T i).nx ⟨w'.heap.size,0,0,false⟩
 have hx:Rel (below (r'.put (T i).nx ⟨w'.heap.size,0,0,false⟩) (T (i+1)).nx) v u :=
  (hu _ (below_mono hrr (by omega)) (by unfold below;rw[if_pos (by omega)];exact hsame)).1
 obtain⟨s1,s2⟩:=slot_step R I.slot I.size hrr ho hdst h2 hS hx
 refine { size:=s1,defs:=(put_defers _ _ _).trans I.defs,slot:=s2,gam:=fun k h1 h2=>?_,real:=fun c x hcx=>?_,ext:=I.ext.trans (Ext.alloc hnew 0) I.fr.size,fr:=I.fr.trans I.ext (Fr.alloc r' w' obj),dom:=fun c hcx=>?_,apt:=fun j h1 h2 h3=>?_,low:=fun c g1 g2=>?_ }
 ·rw[hlc] at h1
  by_cases hki:k≤i
  ·have hm:=R.nx_mono hki (by omega)
   have e:below (r'.put (T i).nx ⟨w'.heap.size,0,0,false⟩) (T k).nx=below r' (T k).nx:=by
    funext c;unfold below
    split
    ·exact hput c (by omega)
    ·rfl
   rw[hd_make_low k hki,e]
   exact (I.gam k h1 h2).more obj
  ·have hm:=R.nx_mono (show i+1≤k by omega) h2
   have e:below (r'.put (T i).nx ⟨w'.heap.size,0,0,false⟩) (T k).nx=(below r' (T k).nx).put (T i).nx ⟨w'.heap.size,0,0,false⟩:=by
    funext c
    by_cases hcn:c=(T i).nx
    ·subst hcn;rw[Rho.put_same];unfold below;rw[if_pos (by omega)];exact hsame
    ·have:((below r' (T k).nx).put (T i).nx ⟨w'.heap.size,0,0,false⟩) c=below r' (T k).nx c:=by unfold Rho.put;rw[if_neg hcn]
     rw[this];unfold below;rw[hput c hcn]
   rw[hd_make_high R hL hk hnc hlat hb k (by omega) h2,e]
   refine (I.gam k h1 h2).alloc (by unfold below;rw[hnew];split <;> rfl) obj b 0 (hu _ (fun c x hcx=>?_) (Rho.put_same _ _ _)).2
   obtain⟨q1,q2⟩:=below_some hcx
   unfold Rho.put;rw[if_neg (by omega)]
   unfold below;rw[if_pos (by omega)];exact q2
 ·rw[World.size_alloc]
  by_cases hcn:c=(T i).nx
  ·subst hcn;rw[hsame] at hcx;injection hcx with hcx;subst hcx;show w'.heap.size<_;omega
  ·rw[hput c hcn] at hcx;have:=I.real c x hcx;omega
 ·rw[hlc]
  by_cases hcn:c=(T i).nx
  ·exact .inr ⟨i,hle,hi,hk,setL_same L i,hcn⟩
  ·rw[hput c hcn] at hcx
   rcases I.dom c hcx with h | ⟨j,q1,q2,q3,q4,q5⟩
   ·exact .inl h
   ·exact .inr ⟨j,q1,q2,q3,by unfold setL;split <;> first | rfl | exact q4,q5⟩
 ·rw[hlc] at h1
  by_cases hji:j=i
  ·subst hji
   refine⟨_,hsame,rfl,fun c x hcn hcx e=>?_⟩
   rw[hput c hcn] at hcx
   have:=I.real c x hcx
   have e':x.blk=w'.heap.size:=e
   omega
  ·rw[setL_other L hji] at h3
   obtain⟨y,q1,q2,q3⟩:=I.apt j h1 h2 h3
   refine⟨y,hrr _ _ q1,q2,fun c x hcn hcx=>?_⟩
   by_cases hci:c=(T i).nx
   ·subst hci;rw[hsame] at hcx;injection hcx with hcx;subst hcx
    have:=I.real _ y q1
    show w'.heap.size≠y.blk
    omega
   ·rw[hput c hci] at hcx;exact q3 c x hcn hcx
 ·have hne:c≠i:=fun e=>hnc (e ▸ g2)
  exact I.low c (by rw[← setL_other L hne];exact g1) g2
end
end Go.Proofs.YtdmelebgdaiinaaGreatDoor.Ev
set_option linter.unusedVariables false
set_option linter.unusedSimpArgs false
namespace Go.Proofs.YtdmelebgdaiinaaGreatDoor.Ev
def mergeR (r1 r':Rho) (m:Nat):Rho:=fun b=>if b<m then r1 b else r' b
theorem mergeR_low {r1 r':Rho} {m b:Nat} (h:b<m):mergeR r1 r' m b=r1 b:=by unfold mergeR;rw[if_pos h]
theorem mergeR_high {r1 r':Rho} {m b:Nat} (h:¬ b<m):mergeR r1 r' m b=r' b:=by unfold mergeR;rw[if_neg h]
section
variable {P : Program} {ih : K} {ops : Array Oper} {n nx : Nat} {tm : Tr AV} {hp : Hp} {T : Nat → Ds} {L : Nat → Bool} {r r' r1 : Rho} {w w' w'' : World} {a a' : Act}
open Classical in
theorem hd_chain_high (R:Run P ih ops n tm hp nx T) (h0:∀ b k,getB hp b=some k→b<nx) (hlow:∀ c,L c=true→isK ops T .chain c→∀ b k,getB (T (c+1)).hp b=some k→b<(T (c+1)).nx)
  {i:Nat} (hL:L i=false) (hk:isK ops T .chain i) (hnm:¬ isK ops T .make i) (hlat:∀ c,i<c→isK ops T .chain c→L c=false) (hg:∀ b k,getB (T (i+1)).hp b=some k→b<(T (i+1)).nx) :
  ∀ k,i<k→k≤ops.size→hd ops hp T (setL L i) k=fun b=>if b<(T (i+1)).nx then getB (T (i+1)).hp b else hd ops hp T L k b:=by
 intro k
 induction k with
 | zero=>intro h;omega
 | succ k ihk =>
  intro h1 h2
  by_cases e:k=i
  ·subst e
   have e1:hd ops hp T (setL L k) (k+1)=getB (T (k+1)).hp:=by
    conv=>lhs;unfold hd
    rw[if_pos ⟨setL_same L k,hk⟩]
   rw[e1]
   funext b
   split
   ·rfl
   ·rename_i hb
    have n1:getB (T (k+1)).hp b=none:=by
     cases hq:getB (T (k+1)).hp b with
     | none=>rfl
     | some kk=>exact absurd (hg b kk hq) hb
    have n2:hd ops hp T L (k+1) b=none:=by
     cases hq:hd ops hp T L (k+1) b with
     | none=>rfl
     | some kk=>exact absurd (hd_dom R h0 hlow (k+1) h2 b kk hq) hb
    rw[n1,n2]
  ·have ih':=ihk (by omega) (by omega)
   have hs:setL L i k=L k:=setL_other L e
   conv=>lhs;unfold hd
   rw[hs,if_neg fun h=>by rw[hlat k (by omega) h.2] at h;exact absurd h.1 (by decide),ih']
   have e2:∀ b,hd ops hp T L (k+1) b=(if L k=true∧isK ops T .make k then putH (hd ops hp T L k) (T k).nx (headB (T (k+1)).pend) else hd ops hp T L k) b:=fun b=>by
    conv=>lhs;unfold hd
    rw[if_neg fun h=>by rw[hlat k (by omega) h.2] at h;exact absurd h.1 (by decide)]
   funext b
   rw[e2 b]
   split
   ·have hle:=R.nx_mono (show i+1≤k by omega) (by omega)
    unfold putH
    by_cases c1:b=(T k).nx
    ·rw[if_pos c1,if_neg (by omega),if_pos c1]
    ·rw[if_neg c1,if_neg c1]
   ·rfl
theorem chain_inv (R : Run P ih ops n tm hp nx T) (h0 : ∀ b k, getB hp b = some k → b < nx) (hf : Fresh nx r) (hc : Closed ops L) (I : Inv P ops n hp T r w a L r' a' w') {i : Nat} {o : Oper} (ho : ops[i]? = some o) (hL : L i = false) (hdst : dstOk o.dst n = true)
    (h2 : ∀ t, o.dst = some t → ∀ j, i < j → (ops[j]?).bind (·.dst) = some t → L j = false) {v : AV} (hS : Stp P ih ops T i o v) (hk : isK ops T .chain i) (hnm : ¬ isK ops T .make i) {u : Value}
    (hu : Rel r1 v u) (E : Ext (below r' (T i).nx) r1 w') (F : Fr (below r' (T i).nx) w' w'') (G : Gam (getB (T (i + 1)).hp) r1 w'') (hf1 : Fresh (T (i + 1)).nx r1) :
    Inv P ops n hp T r w a (setL L i) (mergeR r1 r' (T (i + 1)).nx) (a'.put o.dst u) w'' := by
  have hi : i < ops.size := (Array.getElem?_eq_some_iff.1 ho).1
  have hmi := R.nx_le hi
  have hn0 : nx ≤ (T i).nx := by have := R.nx_mono (Nat.zero_le i) (by omega); rw [R.start] at this; exact this
  have hlat := later R hc hL (.inr hk)
  have hle := lc_le (ops := ops) hL hlat
  have hlc : lc ops T (setL L i) ops.size = i + 1 := lc_set_same hk _ hi fun j q1 _ q3 => hlat j q1 q3
  have hfr1 : ∀ {b : Nat} {x : BI}, r1 b = some x → b < (T (i + 1)).nx := fun {b x} h => by
    by_cases hb : b < (T (i + 1)).nx
    · exact hb
    · rw [hf1 b (by omega)] at h; exact absurd h (by simp)
  have hg : ∀ b k, getB (T (i + 1)).hp b = some k → b < (T (i + 1)).nx := fun b k h => by
    obtain ⟨x, h1, _⟩ := G.blk b k h; exact hfr1 h1
  have hrr : r'.le (mergeR r1 r' (T (i + 1)).nx) := fun b x hb => by
    rcases names R I hi hL hle (b := b) (by rw [hb]; simp) with h | ⟨j, q1, q2, q3, q4, q5, q6⟩
    · rw [mergeR_low (by omega)]
      exact E.le _ _ (by unfold below; rw [if_pos h]; exact hb)
    · rw [mergeR_high (by omega)]; exact hb
  have hr1 : ∀ m, (T (i + 1)).nx ≤ m → r1.le (below (mergeR r1 r' (T (i + 1)).nx) m) := fun m hm b x hb => by
    have := hfr1 hb
    unfold below; rw [if_pos (by omega), mergeR_low this]; exact hb
  obtain ⟨s1, s2⟩ := slot_step R I.slot I.size hrr ho hdst h2 hS (hu.mono (hr1 _ (Nat.le_refl _)) _ _)
  have HD := hd_chain_high R h0 I.low hL hk hnm hlat hg
  -- what was made and is not yet handed to a call lies apart
  have sep : ∀ j y, i < j → j < ops.size → isK ops T .make j → L j = true → r' (T j).nx = some y → ∀ b x, r1 b = some x → x.blk ≠ y.blk := by
    intro j y q1 q2 q3 q4 q5 b x hb
    obtain ⟨y', p1, p2, p3⟩ := I.apt j (by omega) q3 q4
    rw [q5] at p1; injection p1 with p1; subst p1
    have hnj := R.nx_mono (show i + 1 ≤ j by omega) (by omega)
    have low : ∀ c z, below r' (T i).nx c = some z → z.blk ≠ y.blk := fun c z hz => by
      obtain ⟨e1, e2⟩ := below_some hz
      exact p3 c z (by omega) e2
    cases hq : below r' (T i).nx b with
    | some z =>
      have := E.le _ _ hq
      rw [hb] at this; injection this with this; subst this
      exact low b _ hq
    | none =>
      obtain ⟨e1, e2⟩ := E.new b x hq hb
      rcases e2 with e2 | ⟨b0, x0, e3, e4, e5⟩
      · have := I.real _ _ q5; omega
      · rw [← e5]; exact low b0 x0 e3
  have kept : ∀ j y, i < j → j < ops.size → isK ops T .make j → L j = true → r' (T j).nx = some y → w''.heap[y.blk]? = w'.heap[y.blk]? := by
    intro j y q1 q2 q3 q4 q5
    refine F.blk _ (I.real _ _ q5) fun b x hb _ => ?_
    exact sep j y q1 q2 q3 q4 q5 b x (E.le _ _ hb)
  have high : ∀ {b : Nat} {x : BI}, ¬ b < (T (i + 1)).nx → r' b = some x → ∃ j, i < j ∧ j < ops.size ∧ isK ops T .make j ∧ L j = true ∧ b = (T j).nx := fun {b x} hb hx => by
    rcases names R I hi hL hle (b := b) (by rw [hx]; simp) with h | ⟨j, q1, q2, q3, q4, q5, q6⟩
    · omega
    · exact ⟨j, q1, q2, q3, q4, q5⟩
  have EE : Ext r (below r' (T i).nx) w := by
    refine ⟨fun b x hb => ?_, fun b x e1 e2 => I.ext.new b x e1 (below_some e2).2⟩
    have : b < nx := by
      by_cases hlt : b < nx
      · exact hlt
      · rw [hf b (by omega)] at hb; exact absurd hb (by simp)
    unfold below; rw [if_pos (by omega)]; exact I.ext.le _ _ hb
  have E1 := EE.trans E I.fr.size
  refine { size := s1, defs := (put_defers _ _ _).trans I.defs, slot := s2, gam := fun k g1 g2 => ?_, real := fun c x hcx => ?_, ext := ⟨Rho.le_trans I.ext.le hrr, fun b x e1 e2 => ?_⟩, fr := I.fr.trans EE F, dom := fun c hcx => ?_, apt := fun j g1 g2 g3 => ?_, low := fun c g1 g2 => ?_ }
  · rw [hlc] at g1
    have hm := R.nx_mono g1 g2
    have gk := I.gam k (by omega) g2
    rw [HD k (by omega) g2]
    have up : ∀ {c : Nat} {x : BI}, below (mergeR r1 r' (T (i + 1)).nx) (T k).nx c = some x → (c < (T (i + 1)).nx → r1 c = some x) ∧ (¬ c < (T (i + 1)).nx → below r' (T k).nx c = some x) := fun {c x} h => by
      obtain ⟨e1, e2⟩ := below_some h
      refine ⟨fun hc => ?_, fun hc => ?_⟩
      · rwa [mergeR_low hc] at e2
      · rw [mergeR_high hc] at e2; unfold below; rw [if_pos e1]; exact e2
    refine ⟨fun b kk hb => ?_, fun b x hb => ?_, fun b kk x b' kk' x' p1 p2 p3 p4 p5 p6 p7 => ?_⟩
    · by_cases hlt : b < (T (i + 1)).nx
      · have hb : (if b < (T (i + 1)).nx then getB (T (i + 1)).hp b else hd ops hp T L k b) = some kk := hb
        rw [if_pos hlt] at hb
        obtain ⟨x, e1, e2⟩ := G.blk b kk hb
        exact ⟨x, hr1 _ hm _ _ e1, e2.kept (hr1 _ hm) rfl⟩
      · have hb : (if b < (T (i + 1)).nx then getB (T (i + 1)).hp b else hd ops hp T L k b) = some kk := hb
        rw [if_neg hlt] at hb
        obtain ⟨x, e1, e2⟩ := gk.blk b kk hb
        obtain ⟨j, q1, q2, q3, q4, q5⟩ := high hlt (below_some e1).2
        have e3 := (below_some e1).2
        rw [q5] at e3
        exact ⟨x, below_mono hrr (Nat.le_refl _) _ _ e1, e2.kept (below_mono hrr (Nat.le_refl _)) (kept j x q1 q2 q3 q4 e3)⟩
    · by_cases hlt : b < (T (i + 1)).nx
      · exact G.real _ _ ((up hb).1 hlt)
      · exact Nat.lt_of_lt_of_le (gk.real _ _ ((up hb).2 hlt)) F.size
    · have p1 : (if b < (T (i + 1)).nx then getB (T (i + 1)).hp b else hd ops hp T L k b) = some kk := p1
      have p4 : (if b' < (T (i + 1)).nx then getB (T (i + 1)).hp b' else hd ops hp T L k b') = some kk' := p4
      by_cases hb : b < (T (i + 1)).nx <;> by_cases hb' : b' < (T (i + 1)).nx
      · rw [if_pos hb] at p1; rw [if_pos hb'] at p4
        exact G.sep b kk x b' kk' x' p1 p2 ((up p3).1 hb) p4 ((up p5).1 hb') p6 p7
      · obtain ⟨e1, e2⟩ := below_some ((up p5).2 hb')
        obtain ⟨j, q1, q2, q3, q4, q5⟩ := high hb' e2
        rw [q5] at e2
        exact absurd p7.symm (sep j x' q1 q2 q3 q4 e2 b x ((up p3).1 hb))
      · obtain ⟨e1, e2⟩ := below_some ((up p3).2 hb)
        obtain ⟨j, q1, q2, q3, q4, q5⟩ := high hb e2
        rw [q5] at e2
        exact absurd p7 (sep j x q1 q2 q3 q4 e2 b' x' ((up p5).1 hb'))
      · rw [if_neg hb] at p1; rw [if_neg hb'] at p4
        exact gk.sep b kk x b' kk' x' p1 p2 ((up p3).2 hb) p4 ((up p5).2 hb') p6 p7
  · by_cases hlt : c < (T (i + 1)).nx
    · rw [mergeR_low hlt] at hcx; exact G.real _ _ hcx
    · rw [mergeR_high hlt] at hcx; exact Nat.lt_of_lt_of_le (I.real _ _ hcx) F.size
  · by_cases hlt : b < (T (i + 1)).nx
    · rw [mergeR_low hlt] at e2; exact E1.new b x e1 e2
    · rw [mergeR_high hlt] at e2; exact I.ext.new b x e1 e2
  · rw [hlc]
    by_cases hlt : c < (T (i + 1)).nx
    · exact .inl hlt
    · rw [mergeR_high hlt] at hcx
      rcases names R I hi hL hle hcx with h | ⟨j, q1, q2, q3, q4, q5, q6⟩
      · omega
      · exact .inr ⟨j, by omega, q2, q3, by rw [setL_other L (by omega)]; exact q4, q5⟩
  · rw [hlc] at g1
    rw [setL_other L (by omega)] at g3
    obtain ⟨y, q1, q2, q3⟩ := I.apt j (by omega) g2 g3
    refine ⟨y, hrr _ _ q1, q2, fun c x hcn hcx => ?_⟩
    by_cases hlt : c < (T (i + 1)).nx
    · rw [mergeR_low hlt] at hcx
      exact sep j y (by omega) (R.make_nx g2).1 g2 g3 q1 c x hcx
    · rw [mergeR_high hlt] at hcx; exact q3 c x hcn hcx
  · by_cases e : c = i
    · subst e; exact hg
    · exact I.low c (by rw [← setL_other L e]; exact g1) g2
end
end Go.Proofs.YtdmelebgdaiinaaGreatDoor.Ev
set_option linter.unusedVariables false
set_option linter.unusedSimpArgs false
namespace Go.Proofs.YtdmelebgdaiinaaGreatDoor.Ev
section
variable {P : Program} {ih : K} {ops : Array Oper} {n nx : Nat} {tm : Tr AV} {hp : Hp} {T : Nat → Ds} {L : Nat → Bool} {r r' : Rho} {w w' : World} {a a' : Act}
def Rd (P:Program) (o:Oper) (q:Tr AV) (v:AV) (h:Hp):Prop:=∃ hp' nx',opX o.op P q h 0=.ok v hp' nx'
theorem readIs_ok {o:Oper} {q:Tr AV} {v:AV} {h:Hp} (hr:readIs P o q v h=true):Rd P o q v h:=by
 unfold readIs at hr
 split at hr
 ·rename_i u hp' nx' hX
  rw[eqV_eq hr] at hX
  exact⟨hp',nx',hX⟩
 ·exact absurd hr (by decide)
theorem Stp.past {i:Nat} {o:Oper} {v:AV} (ho:ops[i]?=some o) (h:Stp P ih ops T i o v) :
  (isK ops T .chain i∧(T (i+1)).chs=i :: (T i).chs∧(T (i+1)).hist=(T i).hp :: (T i).hist∧waOk P (anc ops i) (T (i+1)).hp (T i).wa=true) ∨
  (¬ isK ops T .chain i∧(T (i+1)).chs=(T i).chs∧(T (i+1)).hist=(T i).hist∧(T (i+1)).hp=(T i).hp):=by
 cases h with
 | no hw hT=>exact .inr ⟨isK_no ho hw,by rw[hT],by rw[hT],by rw[hT]⟩
 | pure _ _ _ hw hc hX hT=>exact .inr ⟨fun h=>absurd ((isK_iff ho hw hc).1 h) (by simp),by rw[hT],by rw[hT],by rw[hT]⟩
 | calm _ _ _ hw hc hX hT=>exact .inr ⟨fun h=>absurd ((isK_iff ho hw hc).1 h) (by simp),by rw[hT],by rw[hT],by rw[hT]⟩
 | make _ _ _ _ hw hc hX hb hT=>exact .inr ⟨fun h=>absurd ((isK_iff ho hw hc).1 h) (by simp),by rw[hT],by rw[hT],by rw[hT]⟩
 | read _ _ _ hw hc hX hk hT=>exact .inr ⟨fun h=>absurd ((isK_iff ho hw hc).1 h) (by simp),by rw[hT],by rw[hT],by rw[hT]⟩
 | chain _ _ _ hw hc h1 h2 hX hn hwa hT=>exact .inl ⟨(isK_iff ho hw hc).2 rfl,by rw[hT],by rw[hT],by rw[hT];exact hwa⟩
theorem Stp.wa {i:Nat} {o:Oper} {v:AV} (h:Stp P ih ops T i o v):∀ x∈(T i).wa,x∈(T (i+1)).wa:=by
 intro x hx
 cases h with
 | no hw hT=>rw[hT];exact hx
 | pure _ _ _ hw hc hX hT=>rw[hT];exact hx
 | calm _ _ _ hw hc hX hT=>rw[hT];exact hx
 | make _ _ _ _ hw hc hX hb hT=>rw[hT];exact hx
 | read _ _ _ hw hc hX hk hT=>rw[hT];exact List.mem_cons_of_mem _ hx
 | chain _ _ _ hw hc h1 h2 hX hn hwa hT=>rw[hT];exact hx
theorem Run.wa (R : Run P ih ops n tm hp nx T) {x : Wa} {i : Nat} (hx : x ∈ (T i).wa) : ∀ k, i ≤ k → k ≤ ops.size → x ∈ (T k).wa := by
  intro k
  induction k with
  | zero => intro h _; have : i = 0 := by omega
            subst this; exact hx
  | succ k ihk =>
    intro h1 h2
    by_cases e : i = k + 1
    · subst e; exact hx
    · obtain ⟨_, v, hS⟩ := R.cases (Array.getElem?_eq_getElem (show k < ops.size by omega))
      exact hS.wa x (ihk (by omega) (by omega))
theorem waOk_ok {m:Nat} {h:Hp} : ∀ {l:List Wa},waOk P m h l=true→∀ x∈l,bit m x.i=true∨(Rd P x.o x.tm x.v h∧lowV x.nx x.v=true):=by
 intro l
 induction l with
 | nil=>intro _ x hx;exact absurd hx (by simp)
 | cons y l ih0 =>
  intro hh x hx
  have h':sel (or (bit m y.i) (and (readIs P y.o y.tm y.v h) (lowV y.nx y.v))) (waOk P m h l) false=true:=hh
  cases hb:or (bit m y.i) (and (readIs P y.o y.tm y.v h) (lowV y.nx y.v)) with
  | false=>rw[hb] at h';exact absurd (show false=true from h') (by decide)
  | true =>
   rw[hb] at h'
   rcases List.mem_cons.1 hx with rfl | hx
   ·cases hbit:bit m x.i with
    | true=>exact .inl rfl
    | false =>
     rw[hbit] at hb
     obtain⟨q1,q2⟩:=and2 (show and (readIs P x.o x.tm x.v h) (lowV x.nx x.v)=true from hb)
     exact .inr ⟨readIs_ok q1,q2⟩
   ·exact ih0 h' x hx
theorem back {m:Nat} {o:Oper} {q:Tr AV} {v:AV} (R:Run P ih ops n tm hp nx T) (ha:∀ j,bit m j=true→L j=true):∀ k,k≤ops.size→backOk P o q v m (T k).chs (T k).hist=true→Rd P o q v (T k).hp→Rd P o q v (T (lc ops T L k)).hp:=by
 intro k
 induction k with
 | zero=>intro _ _ h;exact h
 | succ k ihk =>
  intro h1 h2 h3
  have ho:ops[k]?=some ops[k]:=Array.getElem?_eq_getElem (by omega)
  obtain⟨_,u,hS⟩:=R.cases ho
  unfold lc
  rcases hS.past ho with ⟨c1,c2,c3,c4⟩ | ⟨c1,c2,c3,c4⟩
  ·by_cases hLk:L k=true
   ·rw[if_pos ⟨hLk,c1⟩];exact h3
   ·rw[if_neg fun h=>hLk h.1]
    rw[c2,c3] at h2
    have h4:sel (bit m k) true (sel (readIs P o q v (T k).hp) (backOk P o q v m (T k).chs (T k).hist) false)=true:=h2
    cases hb:bit m k with
    | true=>exact absurd (ha k hb) hLk
    | false =>
     rw[hb] at h4
     have h5:sel (readIs P o q v (T k).hp) (backOk P o q v m (T k).chs (T k).hist) false=true:=h4
     cases hr:readIs P o q v (T k).hp with
     | false=>rw[hr] at h5;exact absurd (show false=true from h5) (by decide)
     | true=>rw[hr] at h5;exact ihk (by omega) h5 (readIs_ok hr)
  ·rw[if_neg fun h=>c1 h.2]
   rw[c2,c3] at h2;rw[c4] at h3
   exact ihk (by omega) h2 h3
theorem lc_const {i : Nat} : ∀ k, i ≤ k → (∀ j, i ≤ j → j < k → ¬ (L j = true ∧ isK ops T .chain j)) → lc ops T L k = lc ops T L i := by
  intro k
  induction k with
  | zero => intro h _; have : i = 0 := by omega
            subst this; rfl
  | succ k ihk =>
    intro h1 h2
    by_cases e : i = k + 1
    · subst e; rfl
    · conv => lhs; unfold lc
      rw [if_neg (h2 k (by omega) (by omega))]
      exact ihk (by omega) fun j q1 q2 => h2 j q1 (by omega)
def roOf (s:Rho):Rho:=fun b=>match s b with | some x=>if x.ro=true then some x else none | none=>none
theorem roOf_some {s:Rho} (b:Nat) (x:BI) (h:roOf s b=some x):s b=some x∧x.ro=true:=by
 unfold roOf at h
 split at h
 ·split at h
  ·rename_i hb hr;injection h with h;subst h;exact⟨hb,hr⟩
  ·exact absurd h (by simp)
 ·exact absurd h (by simp)
theorem roOf_glob {P:Program} {s:Rho} (h:Glob P s):Glob P (roOf s):=fun g hg=>by
 obtain⟨xt,h1⟩:=h g hg
 refine⟨xt,?_⟩
 unfold roOf
 rw[h1]
 rfl
theorem step_ok (hk:KOk P ih) (R:Run P ih ops n tm hp nx T) (hg:Glob P r) (h0:∀ b k,getB hp b=some k→b<nx) (hf:Fresh nx r) (hc:Closed ops L) (I:Inv P ops n hp T r w a L r' a' w') {i:Nat} {o:Oper} (ho:ops[i]?=some o) (hL:L i=false)
  (hready:∀ e∈o.after.toList,Region.binds .any e=true→L e.on=true) {N:Act→World→Prop} {Q:Exit→Act→World→Prop} (hN:∀ r'' a'' w'',Inv P ops n hp T r w a (setL L i) r'' a'' w''→N a'' w''):wpOp P ops Q i N a' w':=by
 have hi:i<ops.size:=(Array.getElem?_eq_some_iff.1 ho).1
 have ha:=closed_anc hc i fun o' ho'=>by rw[ho] at ho';injection ho' with ho';subst ho';exact hready
 have ht:=acO_ok R hc I ho hL ha
 have hn0:∀ k,k≤ops.size→nx≤(T k).nx:=fun k hk=>by have:=R.nx_mono (Nat.zero_le k) hk;rw[R.start] at this;exact this
 have gl:∀ m,nx≤m→Glob P (below r' m):=fun m hm c hcg=>by
  obtain⟨xt,h1⟩:=hg c hcg
  have:c<nx:=by
   by_cases hlt:c<nx
   ·exact hlt
   ·rw[hf c (by omega)] at h1;exact absurd h1 (by simp)
  exact⟨xt,by unfold below;rw[if_pos (by omega)];exact I.ext.le _ _ h1⟩
 obtain⟨hdst,v,hS⟩:=R.cases ho
 have h2:∀ t,o.dst=some t→∀ j,i<j→(ops[j]?).bind (·.dst)=some t→L j=false:=fun t ht=>(looks R hc ho hL ha (.inr ht)).2
 have hwd:∀ {t},wanted? ops o.guard (qAt ops T i o)=some t→Region.wanted o (yielded ops a'.tmps)=t:=fun {t} h=>by
  rw[← acO_wanted I.size (o:=o)];exact wanted_ok ht h
 simp only[wpOp,ho]
 have hS':=hS
 cases hS with
 | no hw hT =>
  rw[hwd hw]
  exact hN _ _ _ (quiet R I ho hdst h2 hS' rel_undef (isK_no ho hw) (isK_no ho hw))
 | pure _ hp' nx' hw hcl hX hT =>
  rw[hwd hw,if_pos rfl]
  have gl0:Gam (getB .leaf) (below r' (T i).nx) w':=⟨fun b k h=>absurd (show getP (pos b) .leaf=some k from h) (by rw[getP_leaf];simp),fun b x h=>I.real b x (below_some h).2,fun b k x b' k' x' h=>absurd (show getP (pos b) .leaf=some k from h) (by rw[getP_leaf];simp)⟩
  obtain⟨x,hrun,hx⟩:=still_ok ht (gl _ (hn0 i (by omega))) gl0 (.inl hcl) hX
  rw[acO_exec I.size fun cs b e=>by rw[e] at hcl;exact Cl.noConfusion hcl] at hrun
  refine .inl ?_
  unfold Oper.wp
  rw[hrun]
  have e:(T (i+1)).nx=(T i).nx:=by rw[hT]
  exact hN _ _ _ (quiet R I ho hdst h2 hS' (by rw[e];exact hx) (fun h=>absurd ((isK_iff ho hw hcl).1 h) (by simp)) (fun h=>absurd ((isK_iff ho hw hcl).1 h) (by simp)))
 | calm _ hp' nx' hw hcl hX hT =>
  rw[hwd hw,if_pos rfl]
  obtain⟨f,args,hX,hv,hla,hlv⟩:=hX
  have gl0:Gam (getB .leaf) (below r' (T i).nx) w':=⟨fun b k h=>absurd (show getP (pos b) .leaf=some k from h) (by rw[getP_leaf];simp),fun b x h=>I.real b x (below_some h).2,fun b k x b' k' x' h=>absurd (show getP (pos b) .leaf=some k from h) (by rw[getP_leaf];simp)⟩
  have hsel:∀ cs b,o.op≠.select cs b:=fun cs b e=>by rw[e] at hcl;exact Cl.noConfusion hcl
  have hres:=opX_ok (o:=o) ht (gl _ (hn0 i (by omega))) gl0 (below_fresh r' (T i).nx)
  rw[hX] at hres
  obtain⟨us,hrun,hus⟩:=hres
  rw[acO_exec I.size hsel] at hrun
  have le0:∀ (s t:Rho),(below s 0).le t:=fun s t b x hb=>absurd (below_some hb).1 (by omega)
  have hro:∀ b x,roOf (below r' (T i).nx) b=some x→below r' (T i).nx b=some x∧x.ro=true:=roOf_some
  have hcl':=(hk.call _ _ _ _ _ _ _ _ _ hv (roOf (below r' (T i).nx)) w' us ((lowAs_ok hla hus).mono (le0 _ _) _ _) (roOf_glob (gl _ (hn0 i (by omega))))
   ⟨fun b k h=>absurd (show getP (pos b) .leaf=some k from h) (by rw[getP_leaf];simp),fun b x h=>gl0.real b x (hro b x h).1,fun b k x b' k' x' h=>absurd (show getP (pos b) .leaf=some k from h) (by rw[getP_leaf];simp)⟩
   (fun b hb=>by
    cases h:roOf (below r' (T i).nx) b with
    | none=>rfl
    | some x=>have:=(hro b x h).1;rw[below_fresh r' (T i).nx b hb] at this;exact absurd this (by simp))).1 rfl
  refine .inl ?_
  unfold Oper.wp
  rw[hrun]
  refine hcl'.mono ?_
  rintro e w1 ⟨x,r1,rfl,hx,E,F,G,hf1⟩
  have hh:∀ i,i<w'.heap.size→w1.heap[i]?=w'.heap[i]?:=fun j hj=>F.blk j hj fun b y hb hf'=>by
   have:=(hro b y hb).2;rw[this] at hf';exact absurd hf' (by decide)
  have e:(T (i+1)).nx=(T i).nx:=by rw[hT]
  exact hN _ _ _ (quiet R (I.grow F.os F.tape F.output F.size hh) ho hdst h2 hS' ((lowA_ok hlv hx).mono (le0 _ _) _ _) (fun h=>absurd ((isK_iff ho hw hcl).1 h) (by simp)) (fun h=>absurd ((isK_iff ho hw hcl).1 h) (by simp)))
 | make _ hp' nx' b hw hcl hX hb hT =>
  rw[hwd hw,if_pos rfl]
  obtain⟨obj,u,hrun,hu⟩:=make_run ht (gl _ (hn0 i (by omega))) hcl hX hb w'
  rw[acO_exec I.size fun cs b e=>by rw[e] at hcl;exact Cl.noConfusion hcl] at hrun
  refine .inl ?_
  unfold Oper.wp
  rw[hrun]
  exact hN _ _ _ (make_inv R hc I ho hL hdst h2 hS' ((isK_iff ho hw hcl).2 rfl) (fun h=>absurd ((isK_iff ho hw hcl).1 h) (by simp)) (b:=b) (by rw[hT];rfl) hu)
 | read _ hp' nx' hw hcl hX hkb hT =>
  rw[hwd hw,if_pos rfl]
  have hnc:¬ isK ops T .chain i:=fun h=>absurd ((isK_iff ho hw hcl).1 h) (by simp)
  have hnm:¬ isK ops T .make i:=fun h=>absurd ((isK_iff ho hw hcl).1 h) (by simp)
  have hlcN:=(lc_spec (ops:=ops) (T:=T) (L:=L) ops.size).1
  have glc:=I.gam _ (Nat.le_refl _) hlcN
  have hlc:=hd_lc (L:=L) R ops.size
  have e:(T (i+1)).nx=(T i).nx:=by rw[hT]
  have key:∃ x,(execOp (acO (Oper.looksAt ops o) n a').eval o).run P w'=.ok (.value x) w'∧Rel (below r' (T (i+1)).nx) v x:=by
   rw[e]
   by_cases hlt:lc ops T L ops.size≤i
   ·obtain⟨h1,n1,hX'⟩ : Rd P o (qAt ops T i o) v (T (lc ops T L ops.size)).hp:=by
     rw[lc_const (i:=i) ops.size (by omega) fun j q1 q2=>(lc_spec (ops:=ops) (T:=T) (L:=L) ops.size).2.2 j (by omega) q2]
     exact back R ha i (by omega) hkb ⟨hp',nx',hX⟩
    have gi:Gam (getB (T (lc ops T L ops.size)).hp) (below r' (T i).nx) w':=by
     refine (I.gam i hlt (by omega)).sub fun b k hb=>?_
     rw[← hlc] at hb
     have hdom:=hd_dom R h0 I.low _ hlcN b k hb
     rw[hd_low R hdom i hlt (by omega) fun j q1 q2=>(lc_spec (ops:=ops) (T:=T) (L:=L) ops.size).2.2 j q1 (by omega)]
     exact hb
    exact still_ok ht (gl _ (hn0 i (by omega))) gi (.inr hcl) hX'
   ·obtain⟨c,hcq⟩ : ∃ c,lc ops T L ops.size=c+1:=⟨lc ops T L ops.size - 1,by omega⟩
    obtain⟨hLc,hcc⟩:=(lc_spec (ops:=ops) (T:=T) (L:=L) ops.size).2.1 c hcq
    have hci:c≠i:=fun e=>hnc (e ▸ hcc)
    have hmem:(⟨i,o,qAt ops T i o,v,(T i).nx⟩ : Wa)∈(T c).wa:=R.wa (i:=i+1) (by rw[hT];exact List.mem_cons_self) c (by omega) (by omega)
    obtain⟨oc,hoc,hwc,hclc⟩:=hcc
    obtain⟨_,vc,hSc⟩:=R.cases hoc
    rcases hSc.past hoc with ⟨_,_,_,c4⟩ | ⟨c1,_⟩
    ·rcases waOk_ok c4 _ hmem with hbit | ⟨⟨h1,n1,hX'⟩,hlow⟩
     ·have:=closed_anc' hc hLc hbit
      rw[show (L i=true)=(false=true) by rw[hL]] at this
      exact absurd this (by decide)
     ·rw[← hcq] at hX'
      rw[hlc] at glc
      have ht':=ht.mono (below_mono (Rho.le_refl r') (R.nx_mono (show i≤lc ops T L ops.size by omega) hlcN))
      obtain⟨x,q1,q2⟩:=still_ok ht' (gl _ (hn0 _ hlcN)) glc (.inr hcl) hX'
      refine⟨x,q1,(lowV_ok hlow q2).mono (fun b y hb=>?_) _ _⟩
      obtain⟨p1,p2⟩:=below_some hb
      unfold below;rw[if_pos p1];exact (below_some p2).2
    ·exact absurd ⟨oc,hoc,hwc,hclc⟩ c1
  obtain⟨x,hrun,hx⟩:=key
  rw[acO_exec I.size fun cs b e=>by rw[e] at hcl;exact Cl.noConfusion hcl] at hrun
  refine .inl ?_
  unfold Oper.wp
  rw[hrun]
  exact hN _ _ _ (quiet R I ho hdst h2 hS' hx hnm hnc)
 | chain _ hp' nx' hw hcl g1 g2 hX hn hwa hT =>
  rw[hwd hw,if_pos rfl]
  have hkc:isK ops T .chain i:=(isK_iff ho hw hcl).2 rfl
  have hnm:¬ isK ops T .make i:=fun h=>absurd ((isK_iff ho hw hcl).1 h) (by simp)
  have hlt:=lc_le (ops:=ops) hL (later R hc hL (.inr hkc))
  have g:Gam (getB (unpend (T i).pend (T i).hp)) (below r' (T i).nx) w':=by
   rw[hd_text R i (by omega),← hd_congr (L:=L) i fun j hj hkj=>by rw[R.chain_all hc hkc ha j hj hkj]]
   exact I.gam i hlt (by omega)
  have e1:(T (i+1)).hp=hp':=by rw[hT]
  have e2:(T (i+1)).nx=nx':=by rw[hT]
  have hsel:∀ cs b,o.op≠.select cs b:=fun cs b e=>by
   rw[e] at hX
   rcases hX with hX | ⟨f,args,hX,_⟩
   ·exact absurd (show Ev.R.no=_ from hX) (by simp)
   ·exact absurd (show Ev.R.no=_ from hX) (by simp)
  have hres:=opX_ok (o:=o) ht (gl _ (hn0 i (by omega))) g (below_fresh r' (T i).nx)
  refine .inl ?_
  rcases hX with hX | ⟨f,args,hX,hcall⟩
  ·rw[hX] at hres
   obtain⟨x,w1,r1,hrun,hx,E,F,G,hf1⟩:=hres
   rw[acO_exec I.size hsel] at hrun
   have hI:=chain_inv R h0 hf hc I ho hL hdst h2 hS' hkc hnm hx E F (by rw[e1];exact G) (by rw[e2];exact hf1)
   unfold Oper.wp
   rcases hrun with hrun | ⟨hrun,rfl⟩
   ·rw[hrun];exact hN _ _ _ hI
   ·rw[hrun];exact hN _ _ _ hI
  ·rw[hX] at hres
   obtain⟨us,hrun,hus⟩:=hres
   rw[acO_exec I.size hsel] at hrun
   have hcl':=(hk.call _ _ _ _ _ _ _ _ _ hcall (below r' (T i).nx) w' us hus (gl _ (hn0 i (by omega))) g (below_fresh r' (T i).nx)).1 rfl
   unfold Oper.wp
   rw[hrun]
   refine hcl'.mono ?_
   rintro e w1 ⟨x,r1,rfl,hx,E,F,G,hf1⟩
   exact hN _ _ _ (chain_inv R h0 hf hc I ho hL hdst h2 hS' hkc hnm hx E F (by rw[e1];exact G) (by rw[e2];exact hf1))
end
end Go.Proofs.YtdmelebgdaiinaaGreatDoor.Ev
set_option linter.unusedVariables false
set_option linter.unusedSimpArgs false
namespace Go.Proofs.YtdmelebgdaiinaaGreatDoor.Ev
section
variable {P : Program} {r : Rho} {n : Nat} {tm : Tr AV} {a : Act} {w : World} {hp : Hp} {nx : Nat} {ih : K} {l : Nat}
theorem upon_in {o:Oper} {next:Act→World→Prop} {Q:Exit→Act→World→Prop} {q:Result Next} (h:o.upon P a next Q q):o.uponIn (Fence.wide.inRound l) 0 P a next Q q:=by
 cases q with
 | ok x w' =>
  cases x with
  | value v=>exact h
  | skip=>exact h
  | defer d=>exact h
  | enter f args=>exact⟨fun h=>absurd h (by simp[Fence.wide,Fence.inRound]),(callsIn_wide.2 h).inRound l⟩
  | row s args=>exact⟨fun h=>absurd h (by simp[Fence.wide,Fence.inRound]),fun c cs _=>let ⟨v,w',q1,q2⟩:=h c cs;⟨v,w',q1,stepsIn_wide.2 q2⟩⟩
  | _=>exact h.elim
 | halt x w'=>cases x <;> exact h
theorem oper_in {o:Oper} {next:Act→World→Prop} {Q:Exit→Act→World→Prop} (hnd:∀ c,o.op≠.defer c) (h:o.wp P a w next Q):o.wpIn (Fence.wide.inRound l) 0 P a w next Q:=by
 refine⟨fun _ _=>trivial,?_⟩
 show o.uponIn _ 0 P a next Q ((o.semAt (some l) a.eval).run P w)
 rw[Oper.semAt_some _ _ _ hnd]
 exact upon_in h
theorem noDf_ok {ops:Array Oper} (h:noDf ops=true):∀ o∈ops.toList,∀ c,o.op≠.defer c:=by
 unfold noDf at h
 generalize ops.toList=L at h
 induction L with
 | nil=>intro o ho;exact absurd ho (by simp)
 | cons p L ihl =>
  intro o ho c hc
  have h':(match p.op with | .defer _=>false | _=>(List.rec (motive:=fun _=>Bool) true (fun o _ r=>match o.op with | .defer _=>false | _=>r) L:Bool))=true:=h
  rcases List.mem_cons.1 ho with e | e
  ·subst e;rw[hc] at h';exact absurd (show false=true from h') (by decide)
  ·refine ihl ?_ o e c hc
   cases hp:p.op <;> rw[hp] at h' <;> first | exact h' | exact absurd (show false=true from h') (by decide)
theorem list_in {ops:Array Oper} {Q:Exit→Act→World→Prop} (hQ:¬ LetsOut Q):∀ (L:List Oper),(∀ o∈L,∀ c,o.op≠.defer c)→∀ a w,wpList P ops Q L a w→wpListIn (Fence.wide.inRound l) 0 P ops Q L a w
 | [],_,_,_,h=>h
 | o :: L,hnd,a,w,h=>by
  unfold wpList at h
  unfold wpListIn
  split
  ·rename_i hw
   rw[if_pos hw] at h
   rcases h with h | h
   ·exact Oper.wpIn_mono (list_in hQ L fun o ho=>hnd o (List.mem_cons_of_mem _ ho)) (oper_in (hnd o List.mem_cons_self) h)
   ·exact absurd h.2 hQ
  ·rename_i hw
   rw[if_neg hw] at h
   exact⟨fun _ _=>trivial,list_in hQ L (fun o ho=>hnd o (List.mem_cons_of_mem _ ho)) _ _ h⟩
theorem op_in {ops:Array Oper} {Q:Exit→Act→World→Prop} (hQ:¬ LetsOut Q) (hnd:∀ o∈ops.toList,∀ c,o.op≠.defer c) {i:Nat} {K K':Act→World→Prop} (hK:∀ a w,K a w→K' a w) {a:Act} {w:World} (h:wpOp P ops Q i K a w):wpOpIn (Fence.wide.inRound l) 0 P ops Q i K' a w:=by
 unfold wpOp at h
 unfold wpOpIn
 cases ho:ops[i]? with
 | none=>rw[ho] at h;exact hK _ _ h
 | some o =>
  rw[ho] at h
  dsimp only at h ⊢
  split
  ·rename_i hw
   rw[if_pos hw] at h
   rcases h with h | h
   ·exact Oper.wpIn_mono hK (oper_in (hnd o (Array.mem_toList_iff.2 (Array.mem_of_getElem? ho))) h)
   ·exact absurd h.2 hQ
  ·rename_i hw
   rw[if_neg hw] at h
   exact⟨fun _ _=>trivial,hK _ _ h⟩
theorem any_in {ops:Array Oper} {Q:Exit→Act→World→Prop} (hQ:¬ LetsOut Q) (hnd:∀ o∈ops.toList,∀ c,o.op≠.defer c):∀ (fuel:Nat) (listed:Array Bool) (a:Act) (w:World),
  wpAny P .any ops Q fuel listed a w→wpAnyIn (Fence.wide.inRound l) 0 P .any ops Q fuel listed a w
 | 0,_,_,_,h=>h
 | fuel+1,_,_,_,h=>⟨h.1,fun i hi=>op_in hQ hnd (fun a w h=>any_in hQ hnd fuel _ a w h) (h.2 i hi)⟩
theorem post_out {out:Out} (hgood:out.good=true):¬ LetsOut (Post P r w n out):=by
 rintro ⟨a,w',h⟩
 cases out with
 | norm _ _ _=>exact absurd h.1 (by simp)
 | exit _ _ _ _=>exact absurd h.1 (by simp)
 | ret _ _ _=>exact absurd h.1 (by simp)
 | value _ _ _=>exact absurd (show false=true from hgood) (by decide)
 | fail _=>exact absurd (show false=true from hgood) (by decide)
theorem loopFromR_round {c:Code} {Q:Exit→Act→World→Prop} (h:c.wpIn (Fence.wide.inRound l) 0 P (Exit.then (fun a' w'=>LoopFromR P l c Q a' w') Q) a w):LoopFromR P l c Q a w:=by
 intro b k cs hro
 have hr:(Fence.wide.inRound l).room (cs.length+1+0):=room_wide _
 obtain⟨e,a₁,w₁,hq,harr⟩:=h b (.inLoop c :: k) cs hro trivial hr
 cases e with
 | normal =>
  obtain⟨e₂,a₂,w₂,hq₂,harr₂⟩:=hq b k cs hro
  exact⟨e₂,a₂,w₂,hq₂,.of_steps (StepsIn.trans harr (.one (fenced_calm (F:=Fence.wide.inRound l) (n:=0) trivial hr rfl) stepR_inLoop)) harr₂⟩
 | exit id=>exact⟨_,a₁,w₁,hq,.pass (x:=.inLoop c) rfl (fun _ _=>.inl (by simp)) harr⟩
 | goto l=>exact⟨_,a₁,w₁,hq,.pass (x:=.inLoop c) rfl (fun _ _=>.inl (by simp)) harr⟩
 | ret=>exact⟨_,a₁,w₁,hq,.pass (x:=.inLoop c) rfl (fun _ _=>.inl (by simp)) harr⟩
 | panic ch=>exact⟨_,a₁,w₁,hq,.pass (x:=.inLoop c) rfl (fun _ _=>.inl (by simp)) harr⟩
 | outgrown=>exact⟨_,a₁,w₁,hq,.pass (x:=.inLoop c) rfl (fun _ _=>.inl (by simp)) harr⟩
theorem wpIn_of_loopFromR {c:Code} {Q:Exit→Act→World→Prop} (h:LoopFromR P l c Q a w):(Code.loop c).wpIn (Fence.wide.inRound l) 0 P Q a w:=by
 intro b k cs hro hb hr
 obtain⟨e,a',w',hq,harr⟩:=h b k cs hro
 exact⟨e,a',w',hq,.of_steps (.one (fenced_calm (F:=Fence.wide.inRound l) (n:=0) trivial hr rfl) stepR_loop) harr⟩
theorem seqR_ok {c:Code} {o1:Out} {f:Tr AV→Hp→Nat→Out} {Q:Exit→Act→World→Prop} (ht:TmOk r n tm a) (hg:Glob P r) (g:Gam (getB hp) r w) (hf:Fresh nx r) (h1:CodeOkR P l c tm n hp nx o1)
  (hgood:(onNorm o1 f).good=true) {next:Act→World→Prop}
  (h2:∀ tm' hp' nx' r' a' w',o1=.norm tm' hp' nx'→TmOk r' n tm' a'→Glob P r'→Gam (getB hp') r' w'→Fresh nx' r'→Ext r r' w→Fr r w w'→next a' w')
  (h3:∀ e a' w',Post P r w n (onNorm o1 f) e a' w'→Q e a' w'):c.wpIn (Fence.wide.inRound l) 0 P (Exit.then next Q) a w:=by
 cases o1 with
 | norm tm' hp' nx' =>
  refine Code.wpIn_mono (fun e a' w' hp=>?_) (h1 r w a ht hg g hf rfl)
  obtain⟨rfl,r',q1,q2,q3,q4,q5⟩:=hp
  exact h2 _ _ _ r' a' w' rfl q1 (hg.mono q2.le) q4 q5 q2 q3
 | exit id tm' hp' nx' =>
  refine Code.wpIn_mono (fun e a' w' hp=>?_) (h1 r w a ht hg g hf rfl)
  obtain⟨rfl,hst⟩:=hp
  exact h3 _ _ _ ⟨rfl,hst⟩
 | ret tm' hp' nx' =>
  refine Code.wpIn_mono (fun e a' w' hp=>?_) (h1 r w a ht hg g hf rfl)
  obtain⟨rfl,hst⟩:=hp
  exact h3 _ _ _ ⟨rfl,hst⟩
 | value _ _ _=>exact absurd (show false=true from hgood) (by decide)
 | fail _=>exact absurd (show false=true from hgood) (by decide)
theorem loopR_ok (hk:KOkR P ih) (c:Code) (hc:okC c=true) (tm:Tr AV) (n:Nat) (hp:Hp) (nx:Nat):LoopOkR P l c tm n hp nx (cLoop c ih P tm n hp nx):=by
 intro r w a ht hg g hf hgood
 refine loopFromR_round (seqR_ok (f:=fun tm hp nx=>ih (.code (.loop c)) tm n hp nx) ht hg g hf (hk.code l c tm n hp nx hc) hgood ?_ fun _ _ _ h=>h)
 intro tm' hp' nx' r' a' w' ho ht' hg' g' hf' he hfr
 have hgood':(onNorm (ih (.code c) tm n hp nx) fun tm hp nx=>ih (.code (.loop c)) tm n hp nx).good=true:=hgood
 rw[ho] at hgood'
 have:=hk.loop l c tm' n hp' nx' hc r' w' a' ht' hg' g' hf' hgood'
 intro b k cs hro
 obtain⟨e,a2,w2,q,arr⟩:=this b k cs hro
 refine⟨e,a2,w2,?_,arr⟩
 show Post P r w n (onNorm (ih (.code c) tm n hp nx) fun tm hp nx=>ih (.code (.loop c)) tm n hp nx) e a2 w2
 rw[ho]
 exact Post.trans (tm':=tm') (hp':=hp') (nx':=nx') (a':=a') he hfr q
def DrawOkR (P:Program):Prop:=∀ ih,KOk P ih→∀ l id ops tm n hp nx,noDf ops=true→CodeOkR P l (.region id ops true) tm n hp nx (drawS ops ih P tm n hp nx)
theorem codeR_ok (hk:KOk P ih) (hkr:KOkR P ih) (hd:DrawOkR P) (c:Code) (hc:okC c=true) (tm:Tr AV) (n:Nat) (hp:Hp) (nx:Nat):CodeOkR P l c tm n hp nx (codeS c ih P tm n hp nx):=by
 intro r w a ht hg g hf hgood
 cases c with
 | skip=>exact wpIn_skip ⟨rfl,r,ht,Ext.refl _ _,Fr.refl _ _,g,hf⟩
 | label l=>exact wpIn_label ⟨rfl,r,ht,Ext.refl _ _,Fr.refl _ _,g,hf⟩
 | region id ops draw =>
  have hnd:noDf ops=true:=hc
  cases draw with
  | false=>exact wpIn_region_list (list_in (post_out hgood) _ (noDf_ok hnd) _ _ (opsS_ok hk ops.toList ht hg g hf rfl hgood _ fun _ _ _ h=>h))
  | true=>exact hd ih hk l id ops tm n hp nx hnd r w a ht hg g hf hgood
 | seq x y =>
  obtain⟨c1,c2⟩:=sel_none2 (show sel (okC x) (okC y) false=true from hc)
  refine wpIn_seq (seqR_ok (f:=fun tm hp nx=>ih (.code y) tm n hp nx) ht hg g hf (hkr.code l x tm n hp nx c1) hgood ?_ fun _ _ _ h=>h)
  intro tm' hp' nx' r' a' w' ho ht' hg' g' hf' he hfr
  have hgood':(onNorm (ih (.code x) tm n hp nx) fun tm hp nx=>ih (.code y) tm n hp nx).good=true:=hgood
  rw[ho] at hgood'
  refine Code.wpIn_mono (fun e a2 w2 q=>?_) (hkr.code l y tm' n hp' nx' c2 r' w' a' ht' hg' g' hf' hgood')
  show Post P r w n (onNorm (ih (.code x) tm n hp nx) fun tm hp nx=>ih (.code y) tm n hp nx) e a2 w2
  rw[ho]
  exact Post.trans (tm':=tm') (hp':=hp') (nx':=nx') (a':=a') he hfr q
 | cond c x y =>
  obtain⟨c1,c2⟩:=sel_none2 (show sel (okC x) (okC y) false=true from hc)
  have hgood' : Out.good (Option.rec (motive := fun _ => Out) (.fail "cond") (fun t => ih (.code (sel t x y)) tm n hp nx) (bnd (opnd P c tm) asBool)) = true := hgood
  cases hc:bnd (opnd P c tm) asBool with
  | none=>rw[hc] at hgood';exact absurd (show false=true from hgood') (by decide)
  | some t =>
   rw[hc] at hgood'
   obtain⟨b,h1,h2⟩:=bnd_some hc
   have:=asBool_some h2;subst this
   have hev:=rel_bool.1 (opnd_ok ht hg h1)
   have hcode:=hkr.code l (sel t x y) tm n hp nx (by cases t <;> assumption) r w a ht hg g hf hgood'
   have hout:codeS (.cond c x y) ih P tm n hp nx=ih (.code (sel t x y)) tm n hp nx:=by
    show Option.rec (motive := fun _ => Out) (.fail "cond") (fun t => ih (.code (sel t x y)) tm n hp nx) (bnd (opnd P c tm) asBool) = _
    rw[hc]
   rw[hout]
   refine wpIn_cond hev ?_
   cases t <;> exact hcode
 | block id c =>
  refine wpIn_block ?_
  have hgood':(offBlock id (ih (.code c) tm n hp nx)).good=true:=hgood
  have hcode:=hkr.code l c tm n hp nx hc r w a ht hg g hf
  have hout:codeS (.block id c) ih P tm n hp nx=offBlock id (ih (.code c) tm n hp nx):=rfl
  rw[hout]
  cases ho:ih (.code c) tm n hp nx with
  | norm tm' hp' nx' =>
   rw[ho] at hcode
   refine Code.wpIn_mono (fun e a' w' q=>?_) (hcode rfl)
   obtain⟨rfl,hst⟩:=q
   exact⟨rfl,hst⟩
  | exit j tm' hp' nx' =>
   rw[ho] at hcode
   refine Code.wpIn_mono (fun e a' w' q=>?_) (hcode rfl)
   obtain⟨rfl,hst⟩:=q
   show Exit.inBlock id (Post P r w n (sel (Nat.beq j id) (.norm tm' hp' nx') (.exit j tm' hp' nx'))) (.exit j) a' w'
   unfold Exit.inBlock
   dsimp only
   cases hj:Nat.beq j id with
   | true=>rw[if_pos (beq_eq hj)];exact⟨rfl,hst⟩
   | false =>
    rw[if_neg fun e=>by subst e;rw[Nat.beq_refl] at hj;exact absurd hj (by decide)]
    exact⟨rfl,hst⟩
  | ret tm' hp' nx' =>
   rw[ho] at hcode
   refine Code.wpIn_mono (fun e a' w' q=>?_) (hcode rfl)
   obtain⟨rfl,hst⟩:=q
   exact⟨rfl,hst⟩
  | value _ _ _=>rw[ho] at hgood';exact absurd (show false=true from hgood') (by decide)
  | fail _=>rw[ho] at hgood';exact absurd (show false=true from hgood') (by decide)
 | loop c=>exact wpIn_of_loopFromR (loopR_ok hkr c hc tm n hp nx r w a ht hg g hf hgood)
 | rangeFunc _ _ _ _=>exact absurd (show false=true from hc) (by decide)
 | exit id=>exact wpIn_exit ⟨rfl,r,ht,Ext.refl _ _,Fr.refl _ _,g,hf⟩
 | scope _=>exact absurd (show false=true from hgood) (by decide)
 | goto _=>exact absurd (show false=true from hgood) (by decide)
 | ret=>exact wpIn_ret ⟨rfl,r,ht,Ext.refl _ _,Fr.refl _ _,g,hf⟩
 | refuse _=>exact absurd (show false=true from hgood) (by decide)
theorem ev_ok {P:Program} {hook:Hook} (hd:DrawOk P) (hdr:DrawOkR P) (hra:RangeOk P) (hh:HookOk P hook):∀ m,KOk P (ev hook P m)∧KOkR P (ev hook P m):=by
 intro m
 induction m with
 | zero =>
  refine⟨⟨fun c tm n hp nx r w a _ _ _ _ hgood=>absurd (show false=true from hgood) (by decide),fun c tm n hp nx r w a _ _ _ _ hgood=>absurd (show false=true from hgood) (by decide),fun f args tm mode hp nx v hp' nx' h=>?_⟩,
   ⟨fun l c tm n hp nx _ r w a _ _ _ _ hgood=>absurd (show false=true from hgood) (by decide),fun l c tm n hp nx _ r w a _ _ _ _ hgood=>absurd (show false=true from hgood) (by decide)⟩⟩
  exact absurd (show Out.fail "fuel" = .value v hp' nx' from h) (by simp)
 | succ m ihm =>
  exact⟨⟨fun c tm n hp nx=>loop_ok ihm.1 c tm n hp nx,fun c tm n hp nx=>code_ok ihm.1 ihm.2 hd hra c tm n hp nx,fun f args tm mode hp nx v hp' nx' h=>call_ok ihm.1 hh f args tm mode hp nx v hp' nx' h⟩,
   ⟨fun l c tm n hp nx hc=>loopR_ok ihm.2 c hc tm n hp nx,fun l c tm n hp nx hc=>codeR_ok ihm.1 ihm.2 hdr c hc tm n hp nx⟩⟩
end
end Go.Proofs.YtdmelebgdaiinaaGreatDoor.Ev
set_option linter.unusedVariables false
set_option linter.unusedSimpArgs false
namespace Go.Proofs.YtdmelebgdaiinaaGreatDoor.Ev
section
variable {P : Program} {ih : K} {ops : Array Oper} {n nx : Nat} {tm : Tr AV} {hp : Hp} {T : Nat → Ds} {r : Rho} {w : World} {a : Act}
theorem mem_ready {listed:Array Bool} {i:Nat} : i∈Region.ready .any ops listed↔i<ops.size∧listed.getD i true=false∧∃ o,ops[i]?=some o∧∀ e∈o.after.toList,Region.binds .any e=true→listed.getD e.on false=true:=by
 unfold Region.ready
 rw[List.mem_filter,List.mem_range]
 cases ho:ops[i]? with
 | none=>simp
 | some o =>
  simp only[Option.map_some,Option.getD_some,Bool.and_eq_true,Bool.not_eq_true',Option.some.injEq,exists_eq_left',Array.all_eq_true',Bool.or_eq_true]
  refine and_congr_right fun _=>and_congr_right fun _=>?_
  constructor
  ·intro h e he hb
   rcases h e (by simpa using he) with h | h
   ·rw[hb] at h;exact absurd h (by decide)
   ·exact h
  ·intro h e he
   cases hb:Region.binds .any e with
   | false=>exact .inl rfl
   | true=>exact .inr (h e (by simpa using he) hb)
theorem all_listed (R:Run P ih ops n tm hp nx T) {listed:Array Bool} (hs:listed.size=ops.size) (h:Region.ready .any ops listed=[]):∀ j,j<ops.size→listed.getD j true=true:=by
 intro j
 induction j using Nat.strongRecOn with
 | _ j ihj =>
  intro hj
  cases hl:listed.getD j true with
  | true=>rfl
  | false =>
   have ho:ops[j]?=some ops[j]:=Array.getElem?_eq_getElem hj
   have:j∈Region.ready .any ops listed:=mem_ready.2 ⟨hj,hl,_,ho,fun e he hb=>by
    have hlt:=R.edges j _ ho e he hb
    have:=ihj e.on hlt (by omega)
    rw[Array.getD_eq_getD_getElem?,Array.getElem?_eq_getElem (show e.on<listed.size by omega)] at this ⊢
    exact this⟩
   rw[h] at this;exact absurd this (by simp)
theorem draw_any (hk:KOk P ih) (R:Run P ih ops n tm hp nx T) (hg:Glob P r) (h0:∀ b k,getB hp b=some k→b<nx) (hf:Fresh nx r) {Q:Exit→Act→World→Prop}
  (hQ:∀ L r'' a'' w'',(∀ j,j<ops.size→L j=true)→Inv P ops n hp T r w a L r'' a'' w''→Q .normal a'' w'') :
  ∀ fuel (listed:Array Bool) (L:Nat→Bool) r' a' w',listed.size=ops.size→(∀ j,j<ops.size→listed[j]?=some (L j))→listed.toList.count false≤fuel→Closed ops L→Inv P ops n hp T r w a L r' a' w'→wpAny P .any ops Q fuel listed a' w':=by
 intro fuel
 induction fuel with
 | zero =>
  intro listed L r' a' w' hs hL hcnt hc I
  have hall:∀ j,j<ops.size→L j=true:=fun j hj=>by
   cases h:L j with
   | true=>rfl
   | false =>
    have h1:=hL j hj
    rw[h] at h1
    have:false∈listed.toList:=by
     rw[List.mem_iff_getElem?];exact⟨j,by simpa using h1⟩
    have:=List.count_pos_iff.2 this
    omega
  refine⟨?_,hQ L r' a' w' hall I⟩
  rw[List.eq_nil_iff_forall_not_mem]
  intro i hi
  obtain⟨h1,h2,_⟩:=mem_ready.1 hi
  rw[Array.getD_eq_getD_getElem?,hL i h1,hall i h1] at h2
  exact absurd h2 (by decide)
 | succ fuel ihf =>
  intro listed L r' a' w' hs hL hcnt hc I
  refine⟨fun h=>?_,fun i hi=>?_⟩
  ·have:=all_listed R hs h
   refine hQ L r' a' w' (fun j hj=>?_) I
   have h1:=this j hj
   rw[Array.getD_eq_getD_getElem?,hL j hj] at h1
   exact h1
  ·obtain⟨h1,h2,o,ho,h3⟩:=mem_ready.1 hi
   have hLi:L i=false:=by
    rw[Array.getD_eq_getD_getElem?,hL i h1] at h2;exact h2
   have hready:∀ e∈o.after.toList,Region.binds .any e=true→L e.on=true:=fun e he hb=>by
    have:=h3 e he hb
    have hlt:=R.edges i o ho e he hb
    rw[Array.getD_eq_getD_getElem?,hL e.on (by omega)] at this
    exact this
   refine step_ok hk R hg h0 hf hc I ho hLi hready fun r'' a'' w'' I'=>?_
   refine ihf _ (setL L i) r'' a'' w'' (by simp[hs]) (fun j hj=>?_) ?_ (fun j p hj hp e he hb=>?_) I'
   ·by_cases e:j=i
    ·subst e;rw[Array.getElem?_setIfInBounds_self,if_pos (by omega),setL_same]
    ·rw[Array.getElem?_setIfInBounds_ne (Ne.symm e),hL j hj,setL_other L e]
   ·rw[Array.toList_setIfInBounds,List.count_set (by simpa using (by omega:i<listed.size))]
    have hli : listed.toList[i]'(by simpa using (by omega : i < listed.size)) = false := by
     have:=hL i h1
     rw[hLi,Array.getElem?_eq_getElem (by omega)] at this
     injection this
    rw[hli]
    have hm:false∈listed.toList:=by rw[← hli];exact List.getElem_mem _
    have:=List.count_pos_iff.2 hm
    simp only[beq_self_eq_true,if_true,show (true==false)=false from rfl,Bool.false_eq_true,if_false];omega
   ·by_cases hji:j=i
    ·subst hji
     rw[ho] at hp;injection hp with hp;subst hp
     have:=hready e he hb
     unfold setL;split <;> first | rfl | exact this
    ·rw[setL_other L hji] at hj
     have:=hc j p hj hp e he hb
     unfold setL;split <;> first | rfl | exact this
theorem df_keep (R:Run P ih ops n tm hp nx T):∀ i,i≤ops.size→getP .h (T i).tm=getP .h tm:=by
 intro i
 induction i with
 | zero=>intro _;rw[R.start]
 | succ i ihi =>
  intro hi
  obtain⟨_,v,hS⟩:=R.cases (Array.getElem?_eq_getElem (show i<ops.size by omega))
  rw[hS.tm_eq]
  unfold setT
  split
  ·rw[getP_setP_other _ _ _ _ (Ne.symm (pos_succ_ne _))];exact ihi (by omega)
  ·exact ihi (by omega)
theorem below_id {m:Nat} (hf:Fresh m r):below r m=r:=by
 funext b;unfold below
 split
 ·rfl
 ·rename_i h;exact (hf b (by omega)).symm
end
theorem draw_all {P:Program} {ih:K} (hk:KOk P ih) (ops:Array Oper) (tm:Tr AV) (n:Nat) (hp:Hp) (nx:Nat) (r:Rho) (w:World) (a:Act) (ht:TmOk r n tm a) (hg:Glob P r) (g:Gam (getB hp) r w) (hf:Fresh nx r)
  (hgood:(drawS ops ih P tm n hp nx).good=true):wpAny P .any ops (Post P r w n (drawS ops ih P tm n hp nx)) ops.size (Array.replicate ops.size false) a { w with drawn:=w.drawn+1 }:=by
 unfold drawS at hgood ⊢
 cases hdr:drawOk ops ops.toList (ancs ops.toList []) ops.toList 0 [] with
 | false=>rw[hdr] at hgood;exact absurd (show false=true from hgood) (by decide)
 | true =>
  cases hr:dRun P ih ops n (ancs ops.toList []) ops.toList 0 { tm,hp,pend:=[],nx,hist:=[],chs:=[],wa:=[] } with
  | none=>rw[hdr,hr] at hgood;exact absurd (show false=true from hgood) (by decide)
  | some s =>
   show wpAny P .any ops (Post P r w n (.norm s.tm (unpend s.pend s.hp) s.nx)) ops.size (Array.replicate ops.size false) a { w with drawn:=w.drawn+1 }
   obtain⟨T,t1,t2,t3⟩:=dRun_states hr
   have t3':T ops.size=s:=by rw[Nat.zero_add] at t3;simpa using t3
   have R:Run P ih ops n tm hp nx T:=⟨t1,fun i o ho=>by
    have:=t2 i o (by simpa using ho)
    rw[Nat.zero_add] at this
    exact this,(region_checks hdr).1,(region_checks hdr).2⟩
   have h0:∀ b k,getB hp b=some k→b<nx:=fun b k h=>by
    obtain⟨x,h1,_⟩:=g.blk b k h
    by_cases hlt:b<nx
    ·exact hlt
    ·rw[hf b (by omega)] at h1;exact absurd h1 (by simp)
   have hlw:∀ (t:Tmp) (k:Nat),lw ops (fun _=>false) t k=0:=fun t k=>by
    induction k with
    | zero=>rfl
    | succ k ihk=>unfold lw;rw[if_neg fun h=>absurd h.1 (by decide),ihk]
   have hlc:∀ (k:Nat),lc ops T (fun _=>false) k=0:=fun k=>by
    induction k with
    | zero=>rfl
    | succ k ihk=>unfold lc;rw[if_neg fun h=>absurd h.1 (by decide),ihk]
   have hhd:∀ (k:Nat),hd ops hp T (fun _=>false) k=getB hp:=fun k=>by
    induction k with
    | zero=>rfl
    | succ k ihk=>unfold hd;rw[if_neg fun h=>absurd h.1 (by decide),if_neg fun h=>absurd h.1 (by decide),ihk]
   have hn:∀ k,k≤ops.size→nx≤(T k).nx:=fun k hk=>by have:=R.nx_mono (Nat.zero_le k) hk;rw[R.start] at this;exact this
   have fresh:∀ m,nx≤m→Fresh m r:=fun m hm b hb=>hf b (by omega)
   have start:Inv P ops n hp T r w a (fun _=>false) r a w.drew :=
    {size:=ht.size,defs:=rfl
     slot:=fun t=>by
      rw[hlw t ops.size,below_id (fresh _ (hn 0 (Nat.zero_le _)))]
      have:(T 0).tm=tm:=by rw[R.start]
      rw[this];exact ht.slot t
     gam:=fun k _ h2=>by rw[hhd k,below_id (fresh _ (hn k h2))];exact g.drew
     real:=fun b x h=>g.drew.real b x h
     ext:=Ext.refl _ _
     fr:=Fr.drew _ _
     dom:=fun b hb=>by
      left
      rw[hlc ops.size]
      have:=hn 0 (Nat.zero_le _)
      by_cases hlt:b<nx
      ·omega
      ·exact absurd (hf b (by omega)) hb
     apt:=fun j _ _ h=>absurd h (by decide)
     low:=fun c h=>absurd h (by decide) }
   refine draw_any (w:=w) (a:=a) hk R hg h0 hf (fun L r' a' w' hall I=>?_) ops.size _ (fun _=>false) r a w.drew (by simp) (fun j hj=>by simp[hj]) (by simp[List.count_replicate]) (fun j o h=>absurd (show false=true from h) (by decide)) start
   have hfr:Fresh (T ops.size).nx r':=fun b hb=>by
    cases h:r' b with
    | none=>rfl
    | some y =>
     rcases I.dom b (by rw[h];simp) with h1 | ⟨j,h1,h2,h3,h4,h5⟩
     ·have:=R.nx_mono (lc_spec (ops:=ops) (T:=T) (L:=L) ops.size).1 (Nat.le_refl _);omega
     ·have:=(R.make_nx h3).2
      have:=R.nx_mono (show j+1≤ops.size by omega) (Nat.le_refl _)
      omega
   refine⟨rfl,r',⟨I.size,fun t=>?_,?_⟩,I.ext,I.fr,?_,by rw[← t3'];exact hfr⟩
   ·obtain⟨q1,q2,q3⟩:=lw_spec (ops:=ops) (L:=L) t ops.size
    rw[← t3',slot_keep R (t:=t) (b:=lw ops L t ops.size) ops.size q1 (Nat.le_refl _) fun j e1 e2 e3=>q3 j e1 e2 ⟨hall j e2,e3⟩]
    exact (I.slot t).mono (below_le r' _) _ _
   ·rw[← t3',df_keep R _ (Nat.le_refl _),I.defs]
    exact ht.defs.mono I.ext.le
   ·have hG:=I.gam ops.size (lc_spec (ops:=ops) (T:=T) (L:=L) ops.size).1 (Nat.le_refl _)
    rw[below_id hfr] at hG
    rw[← t3',hd_text R _ (Nat.le_refl _),← hd_congr (L:=L) ops.size fun j hj _=>hall j hj]
    exact hG
theorem draw_ok {P:Program} (hm:P.follows .mixedOrders=true):DrawOk P:=by
 intro ih hk id ops tm n hp nx r w a ht hg g hf hgood
 exact wp_region_any hm (draw_all hk ops tm n hp nx r w a ht hg g hf hgood)
theorem drawR_ok {P:Program} (hm:P.follows .mixedOrders=true):DrawOkR P:=by
 intro ih hk l id ops tm n hp nx hnd r w a ht hg g hf hgood
 exact wpIn_region_any hm (any_in (post_out hgood) (noDf_ok hnd) _ _ _ _ (draw_all hk ops tm n hp nx r w a ht hg g hf hgood))
end Go.Proofs.YtdmelebgdaiinaaGreatDoor.Ev
set_option linter.unusedVariables false
set_option linter.unusedSimpArgs false
namespace Go.Proofs.YtdmelebgdaiinaaGreatDoor.Ev
section
variable {P : Program} {r : Rho} {n : Nat} {tm : Tr AV} {a : Act} {w : World} {hp : Hp} {nx : Nat} {ih : K}
theorem loadB_cell (g:Gam (getB hp) r w) {b off:Nat} {x:BI} {v:AV} (hx:r b=some x) (hl:loadB hp none (b,off)=some v):∃ u,w.cell? ⟨x.blk,x.sh+off,none⟩=some u∧Rel r v u:=by
 obtain⟨cs,h1,h2⟩:=bnd_some (show bnd (bnd (getB hp b) cellsB) (fun cs=>rowOf cs off none)=some v from hl)
 obtain⟨y,sz,own,sh,c,e,f,h3,_,h4,h5,h6,_⟩:=cellsB_ok g h1
 rw[hx] at h3;injection h3 with h3;subst h3
 have h7:cs[off]?=some v:=by rw[← nth_eq];exact h2
 obtain⟨u,h8,h9⟩:=h6 off v h7
 exact⟨u,by rw[cell_of_heap h4];exact h8,h9⟩
theorem loadB_cells (g:Gam (getB hp) r w) {b off m:Nat} {x:BI} {v:AV} (hx:r b=some x) (hl:loadB hp (some m) (b,off)=some v) :
  ∃ l us,v=.agg l∧us.length=m∧Rels r l us∧∀ (i:Nat) (u:Value),us[i]?=some u→w.cell? ⟨x.blk,x.sh+off+i,none⟩=some u:=by
 obtain⟨cs,h1,h2⟩:=bnd_some (show bnd (bnd (getB hp b) cellsB) (fun cs=>rowOf cs off (some m))=some v from hl)
 obtain⟨y,sz,own,sh,c,e,f,h3,_,h4,h5,h6,_⟩:=cellsB_ok g h1
 rw[hx] at h3;injection h3 with h3;subst h3
 obtain⟨l,h7,h8⟩:=bnd_some (show bnd (takeN m (dropN cs off)) (fun l=>some (AV.agg l))=some v from h2)
 injection h8 with h8;subst h8
 obtain⟨h9,h10⟩:=takeN_some h7
 rw[dropN_eq] at h9 h10
 simp only[List.length_drop] at h9
 have hL:((c.toList.drop (x.sh+off)).take m).length=m:=by
  simp only[List.length_take,List.length_drop,Array.length_toList]
  rcases Nat.eq_zero_or_pos m with h0 | h0 <;> omega
 have hget:∀ i,i<m→((c.toList.drop (x.sh+off)).take m)[i]?=c[x.sh+off+i]?:=by
  intro i hi
  rw[List.getElem?_take_of_lt hi,List.getElem?_drop]
  simp
 refine⟨l,(c.toList.drop (x.sh+off)).take m,rfl,hL,Rels_iff.2 ⟨by rw[hL,h10];simp;omega,fun i q hq=>?_⟩,fun i u hu=>?_⟩
 ·subst h10
  have hi:i<m:=by
   have:=(List.getElem?_eq_some_iff.1 hq).1
   simp at this;omega
  rw[List.getElem?_take_of_lt hi,List.getElem?_drop] at hq
  obtain⟨u,h11,h12⟩:=h6 _ _ hq
  refine⟨u,?_,h12⟩
  rw[hget i hi,← h11]
  congr 1;omega
 ·have hi:i<m:=by rw[← hL];exact (List.getElem?_eq_some_iff.1 hu).1
  rw[hget i hi] at hu
  rw[cell_of_heap h4,hu]
theorem Gam.putU {h:H} (g:Gam h r w) {L:Nat} (hL:∀ b x,r b=some x→x.blk≠L) (o:Obj):Gam h r (w.putObj L o) :=
 ⟨fun b k hb=>let ⟨x,h1,h2⟩:=g.blk b k hb;⟨x,h1,h2.kept (Rho.le_refl r) (World.putObj_heap_other (hL b x h1))⟩,fun b x hb=>by rw[World.putObj_size];exact g.real b x hb,g.sep⟩
theorem Fr.putU {W:World} (h:Fr r w W) {L:Nat} (hL:w.heap.size≤L) (o:Obj):Fr r w (W.putObj L o) :=
 ⟨h.os,h.tape,h.output,by rw[World.putObj_size];exact h.size,fun i hi hn=>by rw[World.putObj_heap_other (by omega)];exact h.blk i hi hn⟩
theorem Ext.noName {r':Rho} {W:World} (e:Ext r r' W) {L:Nat} (hs:L<W.heap.size) (hL:∀ b x,r b=some x→x.blk≠L):∀ b x,r' b=some x→x.blk≠L:=by
 intro b x hb
 cases hr:r b with
 | some y=>have:=e.le _ _ hr;rw[hb] at this;injection this with this;subst this;exact hL b _ hr
 | none =>
  rcases (e.new _ _ hr hb).2 with h | ⟨b0,x0,h1,_,h3⟩
  ·omega
  ·rw[← h3];exact hL b0 x0 h1
theorem Ext.congr {r':Rho} {W W':World} (e:Ext r r' W) (h:W'.heap.size=W.heap.size):Ext r r' W' :=
 ⟨e.le,fun b x h1 h2=>by rw[h];exact e.new b x h1 h2⟩
theorem Fr.drewN (r:Rho) (w:World) (m:Nat):Fr r w (w.drewN m):=⟨rfl,rfl,rfl,Nat.le_refl _,fun _ _ _=>rfl⟩
theorem TmOk.noDf (ht:TmOk r n tm a):TmOk r n (setP none .h tm) { tmps:=a.tmps,defers:=[] }:=by
 refine⟨ht.size,fun t=>?_,?_⟩
 ·have:Ev.slot (setP none .h tm) t=Ev.slot tm t:=by
   unfold Ev.slot
   rw[getP_setP_other _ _ _ _ (pos_succ_ne t)]
  rw[this];exact TmOk.slot ht t
 ·rw[getP_setP_same];rfl
theorem parms_ok {ps:Array Tmp} {p:Tmp×Tmp} (h:parms ps=some p):ps=#[p.1,p.2]:=by
 unfold parms at h
 split at h
 ·injection h with h;subst h;rfl
 ·exact absurd h (by simp)
theorem iterOf_ok {v:AV} {f:FuncId×Nat×Nat} (h:iterOf v=some f):v=.func f.1 [] [.ptr f.2.1 f.2.2]:=by
 unfold iterOf at h
 split at h
 ·injection h with h;subst h;rfl
 ·exact absurd h (by simp)
theorem sizeOut_ok {o:Out} {sz:Nat} (h:sizeOut o=some sz):∃ k hp nx,o=.value (.int k (.ofNat sz)) hp nx:=by
 unfold sizeOut at h
 split at h
 ·injection h with h;subst h;exact⟨_,_,_,rfl⟩
 ·exact absurd h (by simp)
theorem lenS_ok {v:AV} {m:Nat} (h:lenS v=some m):∃ b off cap ex,v=.slice b off m cap ex:=by
 unfold lenS at h
 split at h
 ·injection h with h;subst h;exact⟨_,_,_,_,rfl⟩
 ·exact absurd h (by simp)
theorem marks_ok {d:Option AV} {D:Nat} {m:AV} {ds:List Deferred} {x:BI} (h:marks d D=some m) (hd:DfOk r d ds) (hx:r D=some x):DfOk r (some m) ({ target:=.collected x.blk,args:=#[] } :: ds):=by
 unfold marks at h
 split at h
 ·injection h with h;subst h
  have hd:ds=[]:=hd
  subst hd
  exact⟨D,0,x,[],rfl,hx,rfl,rfl⟩
 ·rename_i l
  injection h with h;subst h
  exact⟨D,0,x,ds,rfl,hx,rfl,hd⟩
 ·exact absurd h (by simp)
theorem roundO_ok {o O:Out} {f:Hp→Nat→Out} (h:roundO o f=O) (hO:O.good=true):∃ tm hp nx,o=.norm tm hp nx∧f hp nx=O:=by
 cases o with
 | norm tm hp nx=>exact⟨tm,hp,nx,rfl,h⟩
 | exit _ _ _ _=>rw[← h] at hO;exact absurd (show false=true from hO) (by decide)
 | ret _ _ _=>rw[← h] at hO;exact absurd (show false=true from hO) (by decide)
 | value _ _ _=>rw[← h] at hO;exact absurd (show false=true from hO) (by decide)
 | fail _=>rw[← h] at hO;exact absurd (show false=true from hO) (by decide)
theorem onNorm_norm {o:Out} {f:Tr AV→Hp→Nat→Out} {tm':Tr AV} {hp':Hp} {nx':Nat} (h:onNorm o f=.norm tm' hp' nx'):∃ tm hp nx,o=.norm tm hp nx∧f tm hp nx=.norm tm' hp' nx':=by
 cases o with
 | norm tm hp nx=>exact⟨tm,hp,nx,rfl,h⟩
 | exit _ _ _ _=>exact absurd (show Out.exit _ _ _ _=.norm tm' hp' nx' from h) (by simp)
 | ret _ _ _=>exact absurd (show Out.ret _ _ _=.norm tm' hp' nx' from h) (by simp)
 | value _ _ _=>exact absurd (show Out.value _ _ _=.norm tm' hp' nx' from h) (by simp)
 | fail _=>exact absurd (show Out.fail _=.norm tm' hp' nx' from h) (by simp)
structure RSt (P:Program) (ih:K) (asg body:Code) (p0 p1:Tmp) (c:Nat×Nat) (sz:Nat) (tm tm1:Tr AV) (n:Nat) (O:Out) (r:Rho) (w:World) (nx:Nat) (L:Nat) (rec:Loop) (k:Nat) (W:World) (r':Rho) (hp':Hp) (nx':Nat):Prop where
 run:backS ih asg body p0 p1 c sz tm tm1 n k hp' nx'=O
 ext:Ext r r' w
 fr:Fr r w W
 gam:Gam (getB hp') r' W
 fresh:Fresh nx' r'
 mark:r' nx=some ⟨w.heap.size,0,0,false⟩
 noL:∀ b x,r' b=some x→x.blk≠L
 lop:W.heap[L]?=some (.loop rec)
theorem rangeFn_ok:RangeOk P:=by
 intro ih hk hkr gg ps asg body tm n hp nx r w a ht hg g hf hgood
 unfold cRange at hgood ⊢
 cases hq:bnd (opnd P gg tm) iterOf with
 | none=>rw[hq] at hgood;exact absurd (show false=true from hgood) (by decide)
 | some f =>
 rw[hq] at hgood
 dsimp only at hgood ⊢
 cases hps:parms ps with
 | none=>rw[hps] at hgood;exact absurd (show false=true from hgood) (by decide)
 | some p =>
 rw[hps] at hgood
 dsimp only at hgood ⊢
 cases hsz:sizeOut (ih (.call f.1 []) .leaf 7 hp nx) with
 | none=>rw[hsz] at hgood;exact absurd (show false=true from hgood) (by decide)
 | some sz =>
 rw[hsz] at hgood
 dsimp only at hgood ⊢
 cases hln:bnd (loadB hp none f.2) lenS with
 | none=>rw[hln] at hgood;exact absurd (show false=true from hgood) (by decide)
 | some len =>
 rw[hln] at hgood
 dsimp only at hgood ⊢
 cases hmk:marks (getP .h tm) nx with
 | none=>rw[hmk] at hgood;exact absurd (show false=true from hgood) (by decide)
 | some m =>
 rw[hmk] at hgood
 dsimp only at hgood ⊢
 unfold rangeS at hgood ⊢
 cases hok:and (okC asg) (and (okC body) (and (Nat.blt p.1 n) (and (Nat.blt p.2 n) (Nat.ble len 1000000)))) with
 | false=>rw[hok] at hgood;exact absurd (show false=true from hgood) (by decide)
 | true =>
 rw[hok] at hgood
 obtain⟨O,hO⟩ : ∃ O,O=backS ih asg body p.1 p.2 f.2 sz tm (setP (some m) .h tm) n len (setB (some .dfr) nx hp) (Nat.succ nx):=⟨_,rfl⟩
 have hgood:O.good=true:=by rw[hO];exact hgood
 show (Code.rangeFunc gg ps asg body).wp P (Post P r w n (backS ih asg body p.1 p.2 f.2 sz tm (setP (some m) .h tm) n len (setB (some .dfr) nx hp) (Nat.succ nx))) a w
 rw[← hO]
 obtain⟨o1,o2⟩:=and2 hok
 obtain⟨o2,o3⟩:=and2 o2
 obtain⟨o3,o4⟩:=and2 o3
 obtain⟨o4,o5⟩:=and2 o4
 have hp0:=blt_lt o3
 have hp1:=blt_lt o4
 have hlen:=ble_le o5
 have hps':=parms_ok hps
 subst hps'
 obtain⟨vg,g1,g2⟩:=bnd_some hq
 have:=iterOf_ok g2
 subst this
 obtain⟨xa,xb,e1,e2,e3⟩:=rel_func.1 (opnd_ok ht hg g1)
 have hxa:xa=#[]:=by rw[← Array.toList_inj];exact Rels_nil.1 e2
 subst hxa
 obtain⟨u,us,e4,e5,e6⟩:=Rels_cons.1 e3
 have:=Rels_nil.1 e6
 subst this
 have hxb:xb=#[u]:=by rw[← Array.toList_inj,e4]
 subst hxb
 obtain⟨xc,c1,rfl⟩:=rel_ptr.1 e5
 obtain⟨ki,hpi,nxi,hit⟩:=sizeOut_ok hsz
 obtain⟨hcf,hiter⟩:=(hk.call _ _ _ _ _ _ _ _ _ hit r w #[] (Rels_nil.2 rfl) hg g hf).2.2 rfl ki sz rfl
 obtain⟨vs,l1,l2⟩:=bnd_some hln
 obtain⟨bs,off,cap,ex,rfl⟩:=lenS_ok l2
 refine (wpIn_wide (n:=0)).1 (wpIn_rangeFunc fun fn _=>?_)
 obtain⟨R,hR⟩ : ∃ R:LoopState→Option Code→Loop,R=fun st pe=>{ state:=st,pending:=pe,fn,tmps:=a.tmps,params:=#[p.1,p.2],assign:=asg,body,defers:=w.heap.size }:=⟨_,rfl⟩
 obtain⟨W1,hW1⟩ : ∃ W1,W1=(w.alloc (.deferred (some []))).alloc (.loop (R .ready none)):=⟨_,rfl⟩
 have kL:W1.heap[w.heap.size+1]?=some (.loop (R .ready none)):=by
  rw[hW1];have:=World.alloc_heap_new (w.alloc (.deferred (some []))) (.loop (R .ready none));rwa [World.size_alloc] at this
 have hn:r nx=none:=hf nx (Nat.le_refl _)
 have G1:Gam (getB (setB (some .dfr) nx hp)) (r.put nx ⟨w.heap.size,0,0,false⟩) W1:=by
  rw[getB_put,hW1]
  refine Gam.more (g.alloc hn _ _ 0 ?_) _
  exact⟨heap_alloc_new _ _,rfl⟩
 have hle:r.le (r.put nx ⟨w.heap.size,0,0,false⟩):=Rho.put_le _ hn
 have F1:Fr r w W1:=by rw[hW1];exact (Fr.alloc r w _).trans (Ext.refl _ _) (Fr.alloc r _ _)
 have S0:RSt P ih asg body p.1 p.2 f.2 sz tm (setP (some m) .h tm) n O r w nx (w.heap.size+1) (R .ready none) len W1 (r.put nx ⟨w.heap.size,0,0,false⟩) (setB (some .dfr) nx hp) (Nat.succ nx) :=
  ⟨hO.symm,Ext.alloc hn 0,F1,G1,hf.put _,Rho.put_same _ _ _,fun b x hb=>by
   unfold Rho.put at hb
   split at hb
   ·injection hb with hb;subst hb;show w.heap.size≠w.heap.size+1;omega
   ·have:=g.real _ _ hb;omega,kL⟩
 refine⟨w.heap.size+1,[{ target:=.collected w.heap.size,args:=#[] }],W1,{ target:=.fn (.func f.1) #[.pointer (some ⟨xc.blk,xc.sh+f.2.2,none⟩)],args:=#[.func (.yield (w.heap.size+1)) #[] #[]] },W1,f.1,
  #[.func (.yield (w.heap.size+1)) #[] #[],.pointer (some ⟨xc.blk,xc.sh+f.2.2,none⟩)],W1,?_,?_,fun _ _=>trivial,?_,(fun h=>absurd h (by simp[Fence.wide])),?_⟩
 ·rw[hW1,hR];exact run_enterLoop_outer _ _ _ _ _
 ·simp only[resolve,e1]
  simp[go_sem]
 ·exact hcf _ _
 ·have hcell0:∃ A cp,W1.cell? ⟨xc.blk,xc.sh+f.2.2,none⟩=some (.slice (some A) len cp):=by
   obtain⟨u,q1,q2⟩:=loadB_cell g c1 (show loadB hp none (f.2.1,f.2.2)=_ from l1)
   obtain⟨x0,A,q3,q4,_⟩:=rel_slice.1 q2
   refine⟨A,cap+(if ex=true then 0 else x0.xt),?_⟩
   rw[← q4,← q1]
   have hlt:=g.real _ _ c1
   rw[hW1]
   simp only[World.cell?]
   rw[heap_alloc_lt (by rw[World.size_alloc];show xc.blk<_;omega),heap_alloc_lt (by exact hlt)]
  refine (hiter (w.heap.size+1) ⟨xc.blk,xc.sh+f.2.2,none⟩ len (fun k W=>∃ r' hp' nx',RSt P ih asg body p.1 p.2 f.2 sz tm (setP (some m) .h tm) n O r w nx (w.heap.size+1) (R .ready none) k W r' hp' nx') W1 ?_ hlen hcell0 ?_ ⟨_,_,_,S0⟩).mono ?_
  ·rintro k W q ⟨r',hp',nx',S⟩
   exact⟨r',hp',nx',S.run,S.ext,S.fr.trans (Ext.refl _ _) (Fr.drewN r W q),S.gam.heap rfl,S.fresh,S.mark,S.noL,S.lop⟩
  ·rintro k W ⟨r',hp',nx',S⟩
   have hrun : Option.rec (motive := fun _ => Out) (.fail "element") (fun v => roundO (roundS ih asg body p.1 p.2 tm n k v hp' nx') (backS ih asg body p.1 p.2 f.2 sz tm (setP (some m) .h tm) n k)) (bnd (loadB hp' none f.2) (elemB hp' sz k)) = O := S.run
   cases hel:bnd (loadB hp' none f.2) (elemB hp' sz k) with
   | none=>rw[hel] at hrun;rw[← hrun] at hgood;exact absurd (show false=true from hgood) (by decide)
   | some v =>
   rw[hel] at hrun
   obtain⟨tm2,hp2,nx2,hro,hnext⟩:=roundO_ok (show roundO _ _=O from hrun) hgood
   obtain⟨vc,d1,d2⟩:=bnd_some hel
   have hxc':r' f.2.1=some xc:=S.ext.le _ _ c1
   obtain⟨uc,d3,d4⟩:=loadB_cell S.gam hxc' (show loadB hp' none (f.2.1,f.2.2)=_ from d1)
   cases vc <;> first | exact absurd (show none=some v from d2) (by simp) | skip
   rename_i b2 off2 m2 cap2 ex2
   obtain⟨d5,d6⟩:=sel_none (show sel (and (Nat.blt k m2) (Nat.ble m2 cap2)) (loadB hp' (some sz) (b2,off2+k * sz)) none=some v from d2)
   obtain⟨d5,d7⟩:=and2 d5
   have hkm:=blt_lt d5
   have hmc:=ble_le d7
   obtain⟨x2,A2,d8,rfl,d10⟩:=rel_slice.1 d4
   have hA:=d10 (by omega)
   subst hA
   obtain⟨lv,us,rfl,d11,d12,d13⟩:=loadB_cells S.gam d8 d6
   refine⟨_,_,m2,_,us,d3,hkm,d11,fun i u hu=>?_,fun q=>?_⟩
   ·rw[← d13 i u hu]
    rw[show x2.sh+off2+k * sz+i=x2.sh+(off2+k * sz)+i by omega]
   ·have hyl:=run_yield (P:=P) (w:=W.drewN q) (args:=#[.int .i64 (k:Int),.agg us.toArray]) (show (W.drewN q).heap[w.heap.size+1]?=_ from S.lop) (by rw[hR];rfl)
    have hsl:w.heap.size+1<W.heap.size:=(Array.getElem?_eq_some_iff.1 S.lop).1
    refine⟨fn,_,asg,body,by rw[hyl,hR],roundIn_of_wpIn trivial ?_⟩
    rw[hR]
    have htm:∀ ts:Array Value,((#[p.1,p.2] : Array Tmp).zip #[Value.int .i64 (k:Int),.agg us.toArray]).foldl (fun tmps (t,a)=>tmps.setIfInBounds t a) ts=(ts.setIfInBounds p.1 (.int .i64 k)).setIfInBounds p.2 (.agg us.toArray):=fun ts=>by simp
    dsimp only
    erw [htm]
    obtain⟨tma,hpa,nxa,ha1,ha2⟩:=onNorm_norm hro
    have ht0:TmOk r' n (setP (some (.agg lv)) (pos (Nat.succ p.2)) (setP (some (.int .i64 (Int.ofNat k))) (pos (Nat.succ p.1)) (setP none .h tm))) { tmps:=(a.tmps.setIfInBounds p.1 (.int .i64 k)).setIfInBounds p.2 (.agg us.toArray),defers:=[] } :=
     ((ht.mono S.ext.le).noDf.put (rel_int.2 rfl) hp0).put (rel_agg.2 ⟨_,rfl,d12⟩) hp1
    have hasg:=hkr.code (w.heap.size+1) asg _ n hp' nx' o1 r' (W.drewN q) _ ht0 (hg.mono S.ext.le) (S.gam.heap rfl) S.fresh (by rw[ha1];rfl)
    rw[ha1] at hasg
    refine Code.wpIn_mono (fun e a1 w1 q1=>?_) hasg
    obtain⟨rfl,ra,s1,s2,s3,s4,s5⟩:=q1
    have hszq:(W.drewN q).heap.size=W.heap.size:=rfl
    have hl1:w1.heap[w.heap.size+1]?=some (.loop (R .ready none)):=by
     rw[s3.blk _ (by rw[hszq];exact hsl) fun b x hb _=>S.noL b x hb];exact S.lop
    have noLa:=s2.noName (by rw[hszq];exact hsl) S.noL
    refine⟨_,run_beginRound hl1 (by rw[hR]),?_⟩
    obtain⟨w2,hw2⟩ : ∃ w2,w2=w1.putObj (w.heap.size+1) (.loop { R .ready none with state:=.busy }):=⟨_,rfl⟩
    rw[← hw2]
    have hs1:w1.heap.size=w2.heap.size:=by rw[hw2,World.putObj_size]
    have hlt1:w.heap.size+1<w1.heap.size:=(Array.getElem?_eq_some_iff.1 hl1).1
    have hl2:w2.heap[w.heap.size+1]?=some (.loop { R .ready none with state:=.busy }):=by rw[hw2];exact World.putObj_heap_same hlt1
    have hbody:=hkr.code (w.heap.size+1) body tma n hpa nxa o2 ra w2 a1 s1 (hg.mono (Rho.le_trans S.ext.le s2.le)) (by rw[hw2];exact s4.putU noLa _) s5 (by rw[ha2];rfl)
    rw[ha2] at hbody
    refine Code.wpIn_mono (fun e a3 w3 q3=>?_) hbody
    obtain⟨rfl,rb,t1,t2,t3,t4,t5⟩:=q3
    have hl3:w3.heap[w.heap.size+1]?=some (.loop { R .ready none with state:=.busy }):=by
     rw[t3.blk _ (by rw[← hs1];exact hlt1) fun b x hb _=>noLa b x hb];exact hl2
    have hlt3:w.heap.size+1<w3.heap.size:=(Array.getElem?_eq_some_iff.1 hl3).1
    have noLb:=t2.noName (by rw[← hs1];exact hlt1) noLa
    have E1:Ext r ra w:=S.ext.trans (s2.congr rfl) S.fr.size
    have Fa:Fr r w w1:=(S.fr.trans (Ext.refl _ _) (Fr.drewN r W q)).trans S.ext s3
    have Fb:Fr r w w2:=by rw[hw2];exact Fa.putU (by omega) _
    have Fc:Fr r w w3:=Fb.trans E1 t3
    refine⟨_,_,run_endRound (P:=P) none hl3,rfl,rb,hp2,nx2,hnext,E1.trans t2 Fb.size,Fc.putU (by omega) _,t4.putU noLb _,t5,t2.le _ _ (s2.le _ _ S.mark),noLb,?_⟩
    rw[World.putObj_heap_same hlt3,hR]
    rfl
  ·rintro e W2 ⟨⟨v,rfl⟩,r',hp',nx',S⟩
   have he:=run_endLoop (P:=P) S.lop (by rw[hR];simp)
   have hpn:(R .ready none).pending=none:=by rw[hR]
   rw[hpn] at he
   refine⟨none,_,he,?_⟩
   have hO':Out.norm (setP (some m) .h tm) hp' nx'=O:=S.run
   show Post P r w n O .normal _ _
   rw[← hO']
   have htr:=ht.mono S.ext.le
   refine⟨rfl,r',⟨ht.size,fun t=>?_,?_⟩,S.ext,S.fr.putU (by omega) _,S.gam.putU S.noL _,S.fresh⟩
   ·have:slot (setP (some m) .h tm) t=slot tm t:=by
     unfold slot
     rw[getP_setP_other _ _ _ _ (pos_succ_ne t)]
    rw[this];exact htr.slot t
   ·rw[getP_setP_same]
    exact marks_ok hmk htr.defs S.mark
end
theorem ev_holds {P:Program} {hook:Hook} (hm:P.follows .mixedOrders=true) (hh:HookOk P hook):∀ m,KOk P (ev hook P m):=fun m=>(ev_ok (draw_ok hm) (drawR_ok hm) rangeFn_ok hh m).1
end Go.Proofs.YtdmelebgdaiinaaGreatDoor.Ev
set_option linter.unusedVariables false
set_option linter.unusedSimpArgs false
namespace Go.Proofs.YtdmelebgdaiinaaGreatDoor.Ev
noncomputable section
mutual
def eqAV:AV→AV→Bool
 | .func f a b,y=>match y with | .func g c d=>and (Nat.beq f g) (and (eqAVs a c) (eqAVs b d)) | _=>false
 | .iface t a,y=>match y with | .iface u b=>and (Nat.beq t u) (eqAV a b) | _=>false
 | .agg l,y=>match y with | .agg m=>eqAVs l m | _=>false
 | .tuple l,y=>match y with | .tuple m=>eqAVs l m | _=>false
 | .bool b,y=>eqA (.bool b) y
 | .int k n,y=>eqA (.int k n) y
 | .str s,y=>eqA (.str s) y
 | .ptr b o,y=>eqA (.ptr b o) y
 | .nilPtr,y=>eqA .nilPtr y
 | .slice b o l c e,y=>eqA (.slice b o l c e) y
 | .nilSlice,y=>eqA .nilSlice y
 | .map b,y=>eqA (.map b) y
 | .nilMap,y=>eqA .nilMap y
 | .nilFunc,y=>eqA .nilFunc y
 | .nilIface,y=>eqA .nilIface y
def eqAVs:List AV→List AV→Bool
 | [],y=>match y with | []=>true | _=>false
 | a :: l,y=>match y with | b :: m=>sel (eqAV a b) (eqAVs l m) false | []=>false
end
mutual
theorem eqAV_eq:∀ (x y:AV),eqAV x y=true→x=y
 | .func f a b,y,h=>by
  unfold eqAV at h
  cases y <;> first | exact absurd (show false=true from h) (by decide) | skip
  rename_i g c d
  obtain⟨h1,h2⟩:=and2 (show and (Nat.beq f g) (and (eqAVs a c) (eqAVs b d))=true from h)
  obtain⟨h3,h4⟩:=and2 h2
  rw[beq_eq h1,eqAVs_eq a c h3,eqAVs_eq b d h4]
 | .iface t a,y,h=>by
  unfold eqAV at h
  cases y <;> first | exact absurd (show false=true from h) (by decide) | skip
  rename_i u b
  obtain⟨h1,h2⟩:=and2 (show and (Nat.beq t u) (eqAV a b)=true from h)
  rw[beq_eq h1,eqAV_eq a b h2]
 | .agg l,y,h=>by
  unfold eqAV at h
  cases y <;> first | exact absurd (show false=true from h) (by decide) | skip
  rename_i m
  rw[eqAVs_eq l m h]
 | .tuple l,y,h=>by
  unfold eqAV at h
  cases y <;> first | exact absurd (show false=true from h) (by decide) | skip
  rename_i m
  rw[eqAVs_eq l m h]
 | .bool b,y,h=>by unfold eqAV at h;exact eqA_eq h
 | .int k n,y,h=>by unfold eqAV at h;exact eqA_eq h
 | .str s,y,h=>by unfold eqAV at h;exact eqA_eq h
 | .ptr b o,y,h=>by unfold eqAV at h;exact eqA_eq h
 | .nilPtr,y,h=>by unfold eqAV at h;exact eqA_eq h
 | .slice b o l c e,y,h=>by unfold eqAV at h;exact eqA_eq h
 | .nilSlice,y,h=>by unfold eqAV at h;exact eqA_eq h
 | .map b,y,h=>by unfold eqAV at h;exact eqA_eq h
 | .nilMap,y,h=>by unfold eqAV at h;exact eqA_eq h
 | .nilFunc,y,h=>by unfold eqAV at h;exact eqA_eq h
 | .nilIface,y,h=>by unfold eqAV at h;exact eqA_eq h
theorem eqAVs_eq:∀ (x y:List AV),eqAVs x y=true→x=y
 | [],y,h=>by
  unfold eqAVs at h
  cases y <;> first | rfl | exact absurd (show false=true from h) (by decide)
 | a :: l,y,h=>by
  unfold eqAVs at h
  cases y with
  | nil=>exact absurd (show false=true from h) (by decide)
  | cons b m =>
   have h':sel (eqAV a b) (eqAVs l m) false=true:=h
   cases hb:eqAV a b with
   | false=>rw[hb] at h';exact absurd (show false=true from h') (by decide)
   | true=>rw[hb] at h';rw[eqAV_eq a b hb,eqAVs_eq l m h']
end
def eqE (x:List (AV×AV)):List (AV×AV)→Bool :=
 List.rec (motive:=fun _=>List (AV×AV)→Bool) (fun y=>List.rec (motive:=fun _=>Bool) true (fun _ _ _=>false) y)
  (fun a _ eq y=>List.rec (motive:=fun _=>Bool) false (fun b y _=>sel (and (eqAV a.1 b.1) (eqAV a.2 b.2)) (eq y) false) y) x
theorem eqE_eq:∀ {x y:List (AV×AV)},eqE x y=true→x=y:=by
 intro x
 induction x with
 | nil=>intro y h;cases y with | nil=>rfl | cons _ _=>exact absurd (show false=true from h) (by decide)
 | cons a x ih =>
  intro y h
  cases y with
  | nil=>exact absurd (show false=true from h) (by decide)
  | cons b y =>
   have h':sel (and (eqAV a.1 b.1) (eqAV a.2 b.2)) (eqE x y) false=true:=h
   cases hb:and (eqAV a.1 b.1) (eqAV a.2 b.2) with
   | false=>rw[hb] at h';exact absurd (show false=true from h') (by decide)
   | true =>
    rw[hb] at h'
    obtain⟨h1,h2⟩:=and2 hb
    have:a=b:=Prod.ext (eqAV_eq _ _ h1) (eqAV_eq _ _ h2)
    rw[this,ih h']
theorem strEq_eq' {s t:List Nat} (h:strEq s t=true):s=t:=by
 have:=eqA_eq (x:=.str s) (y:=.str t) h
 injection this
def eqB (b c:Bool):Bool:=sel b c (not c)
theorem eqB_eq {b c:Bool} (h:eqB b c=true):b=c:=by cases b <;> cases c <;> first | rfl | exact absurd (show false=true from h) (by decide)
def eqBlk (x y:Blk):Bool :=
 match x with
 | .cells cs sz own sh=>(match y with | .cells cs' sz' own' sh'=>and (eqAVs cs cs') (and (Nat.beq sz sz') (and (eqB own own') (strEq sh sh'))) | _=>false)
 | .map es own=>(match y with | .map es' own'=>and (eqE es es') (eqB own own') | _=>false)
 | .iter s p=>(match y with | .iter s' p'=>and (strEq s s') (Nat.beq p p') | _=>false)
 | .dfr=>(match y with | .dfr=>true | _=>false)
theorem eqBlk_eq {x y:Blk} (h:eqBlk x y=true):x=y:=by
 cases x with
 | cells cs sz own sh =>
  cases y <;> first | exact absurd (show false=true from h) (by decide) | skip
  rename_i cs' sz' own' sh'
  obtain⟨h1,h2⟩:=and2 (show and (eqAVs cs cs') (and (Nat.beq sz sz') (and (eqB own own') (strEq sh sh')))=true from h)
  obtain⟨h3,h4⟩:=and2 h2
  obtain⟨h5,h6⟩:=and2 h4
  rw[eqAVs_eq _ _ h1,beq_eq h3,eqB_eq h5,strEq_eq' h6]
 | map es own =>
  cases y <;> first | exact absurd (show false=true from h) (by decide) | skip
  rename_i es' own'
  obtain⟨h1,h2⟩:=and2 (show and (eqE es es') (eqB own own')=true from h)
  rw[eqE_eq h1,eqB_eq h2]
 | iter s p =>
  cases y <;> first | exact absurd (show false=true from h) (by decide) | skip
  rename_i s' p'
  obtain⟨h1,h2⟩:=and2 (show and (strEq s s') (Nat.beq p p')=true from h)
  rw[strEq_eq' h1,beq_eq h2]
 | dfr=>cases y <;> first | rfl | exact absurd (show false=true from h) (by decide)
def mkH (l:List (Nat×Blk)):Hp:=List.rec (motive:=fun _=>Hp) .leaf (fun p _ r=>setB (some p.2) p.1 r) l
def hasAll (l:List (Nat×Blk)) (hp:Hp):Bool:=List.rec (motive:=fun _=>Bool) true (fun p _ r=>sel (match getB hp p.1 with | some k=>eqBlk k p.2 | none=>false) r false) l
theorem hasAll_ok {hp:Hp} : ∀ {l:List (Nat×Blk)},hasAll l hp=true→∀ b k,getB (mkH l) b=some k→getB hp b=some k:=by
 intro l
 induction l with
 | nil=>intro _ b k h;exact absurd (show getP (pos b) .leaf=some k from h) (by rw[getP_leaf];simp)
 | cons p l ih =>
  intro h b k hb
  have h':sel (match getB hp p.1 with | some k=>eqBlk k p.2 | none=>false) (hasAll l hp) false=true:=h
  have hb':getB (setB (some p.2) p.1 (mkH l)) b=some k:=hb
  rw[getB_put] at hb'
  cases hq:getB hp p.1 with
  | none=>rw[hq] at h';exact absurd (show false=true from h') (by decide)
  | some j =>
   rw[hq] at h'
   have h':sel (eqBlk j p.2) (hasAll l hp) false=true:=h'
   cases he:eqBlk j p.2 with
   | false=>rw[he] at h';exact absurd (show false=true from h') (by decide)
   | true =>
    rw[he] at h'
    unfold putH at hb'
    split at hb'
    ·rename_i e;subst e;injection hb' with hb';subst hb';rw[hq,eqBlk_eq he]
    ·exact ih h' b k hb'
structure Known where
 f:FuncId
 args:List AV
 S:List (Nat×Blk)
 nx:Nat
 v:AV
 S':List (Nat×Blk)
 nx':Nat
def Known.ok (P:Program) (k:Known):Prop:=CallOk P 0 k.f k.args (mkH k.S) k.nx k.v (mkH k.S') k.nx'
def Known.fits (k:Known) (mode:Nat) (f:FuncId) (args:List AV) (hp:Hp) (nx:Nat):Bool :=
 and (Nat.beq mode 0) (and (Nat.beq f k.f) (and (Nat.ble nx k.nx) (and (eqAVs args k.args) (hasAll k.S hp))))
def hookOf (l:List Known):Hook:=fun mode f args hp nx =>
 List.rec (motive:=fun _=>Option (AV×Hp×Nat)) none (fun k _ r=>sel (k.fits mode f args hp nx) (some (k.v,mkH k.S',k.nx')) r) l
theorem hookOf_ok {P:Program} : ∀ {l:List Known},(∀ k∈l,k.ok P)→HookOk P (hookOf l):=by
 intro l
 induction l with
 | nil=>intro _ mode f args hp nx v hp' nx' h;exact absurd (show none=some (v,hp',nx') from h) (by simp)
 | cons k l ih =>
  intro hl mode f args hp nx v hp' nx' h
  have h':sel (k.fits mode f args hp nx) (some (k.v,mkH k.S',k.nx')) (hookOf l mode f args hp nx)=some (v,hp',nx'):=h
  cases hb:k.fits mode f args hp nx with
  | false=>rw[hb] at h';exact ih (fun q hq=>hl q (List.mem_cons_of_mem _ hq)) mode f args hp nx v hp' nx' h'
  | true =>
   rw[hb] at h'
   injection (show some (k.v,mkH k.S',k.nx')=some (v,hp',nx') from h') with h'
   injection h' with e1 e2
   injection e2 with e2 e3
   subst e1;subst e2;subst e3
   obtain⟨g1,g2⟩:=and2 hb
   obtain⟨g3,g4⟩:=and2 g2
   obtain⟨g5,g6⟩:=and2 g4
   obtain⟨g7,g8⟩:=and2 g6
   have e1:=beq_eq g1;have e2:=beq_eq g3;have e3:=eqAVs_eq _ _ g7
   subst e1
   have e2:f=k.f:=e2
   subst e2;subst e3
   intro r w us hus hg g hf
   exact hl k List.mem_cons_self r w us hus hg (g.sub (hasAll_ok g8)) fun b hb=>hf b (Nat.le_trans (ble_le g5) hb)
def hookOr (h1 h2:Hook):Hook:=fun mode f args hp nx=>Option.rec (motive:=fun _=>Option (AV×Hp×Nat)) (h2 mode f args hp nx) some (h1 mode f args hp nx)
theorem hookOr_ok {P:Program} {h1 h2:Hook} (g1:HookOk P h1) (g2:HookOk P h2):HookOk P (hookOr h1 h2):=by
 intro mode f args hp nx v hp' nx' h
 unfold hookOr at h
 cases hq:h1 mode f args hp nx with
 | none=>rw[hq] at h;exact g2 mode f args hp nx v hp' nx' h
 | some q=>rw[hq] at h;exact g1 mode f args hp nx v hp' nx' (hq.trans h)
def retHook (f1:FuncId) (na:Nat):Hook:=fun mode f args hp nx=>sel (and (Nat.beq mode 1) (and (Nat.beq f f1) (Nat.beq (lenL args) na))) (some (.tuple [],hp,nx)) none
theorem retHook_ok {P:Program} {f1:FuncId} {na:Nat} (h:∀ us:Array Value,us.size=na→∀ w,CallsD P f1 us .returning w fun e u w'=>e=.returned (.tuple #[])∧u=.returning∧w'=w):HookOk P (retHook f1 na):=by
 intro mode f args hp nx v hp' nx' hh
 obtain⟨h1,h2⟩:=sel_none (show sel (and (Nat.beq mode 1) (and (Nat.beq f f1) (Nat.beq (lenL args) na))) (some (AV.tuple [],hp,nx)) none=some (v,hp',nx') from hh)
 injection h2 with h2
 injection h2 with e1 e2
 injection e2 with e2 e3
 subst e1;subst e2;subst e3
 obtain⟨g1,g2⟩:=and2 h1
 obtain⟨g2,g3⟩:=and2 g2
 have e1:=beq_eq g1;have e2:f=f1:=beq_eq g2;have e3:=beq_eq g3
 subst e1;subst e2
 intro r w us hus hg g hf
 refine⟨fun h=>absurd h (by decide),fun _=>(h us (by have:=hus.length;rw[← e3,lenL_eq,← this];simp) w).mono ?_,fun h=>absurd h (by decide)⟩
 rintro e u w' ⟨rfl,rfl,rfl⟩
 exact⟨_,r,rfl,rfl,rel_undef,Ext.refl _ _,Fr.refl _ _,g,hf⟩
def iterHook (f1:FuncId) (sz:Nat):Hook:=fun mode f _ hp nx=>sel (and (Nat.beq mode 7) (Nat.beq f f1)) (some (.int .i64 (Int.ofNat sz),hp,nx)) none
theorem iterHook_ok {P:Program} {f1:FuncId} {sz:Nat} (h:IterOk P f1 sz):HookOk P (iterHook f1 sz):=by
 intro mode f args hp nx v hp' nx' hh
 obtain⟨h1,h2⟩:=sel_none (show sel (and (Nat.beq mode 7) (Nat.beq f f1)) (some (AV.int .i64 (Int.ofNat sz),hp,nx)) none=some (v,hp',nx') from hh)
 injection h2 with h2
 injection h2 with e1 e2
 obtain⟨g1,g2⟩:=and2 h1
 have e3:=beq_eq g1;have e4:f=f1:=beq_eq g2
 subst e1;subst e3;subst e4
 intro r w us hus hg g hf
 refine⟨fun h=>absurd h (by decide),fun h=>absurd h (by decide),fun _ k sz' e=>?_⟩
 injection e with _ e
 injection e with e
 subst e;exact h
def runOk (o:Out) (v:AV) (S':List (Nat×Blk)) (nx':Nat):Bool:=match o with | .value u hp nx=>and (eqAV u v) (and (Nat.beq nx nx') (hasAll S' hp)) | _=>false
theorem known_ok {P:Program} {hook:Hook} (hm:P.follows .mixedOrders=true) (hh:HookOk P hook) (m:Nat) (k:Known) (h:runOk (ev hook P m (.call k.f k.args) .leaf 0 (mkH k.S) k.nx) k.v k.S' k.nx'=true):k.ok P:=by
 cases ho:ev hook P m (.call k.f k.args) .leaf 0 (mkH k.S) k.nx with
 | value u hp nx =>
  rw[ho] at h
  obtain⟨h1,h2⟩:=and2 (show and (eqAV u k.v) (and (Nat.beq nx k.nx') (hasAll k.S' hp))=true from h)
  obtain⟨h3,h4⟩:=and2 h2
  have e1:=eqAV_eq _ _ h1;have e2:=beq_eq h3
  have hc:=(ev_holds hm hh m).call _ _ _ _ _ _ _ _ _ ho
  intro r w us hus hg g hf
  refine⟨fun _=>((hc r w us hus hg g hf).1 rfl).mono ?_,fun h=>absurd h (by decide),fun h=>absurd h (by decide)⟩
  rintro e w' ⟨x,r',q1,q2,q3,q4,q5,q6⟩
  exact⟨x,r',q1,e1 ▸ q2,q3,q4,q5.sub (hasAll_ok h4),e2 ▸ q6⟩
 | norm _ _ _=>rw[ho] at h;exact absurd (show false=true from h) (by decide)
 | exit _ _ _ _=>rw[ho] at h;exact absurd (show false=true from h) (by decide)
 | ret _ _ _=>rw[ho] at h;exact absurd (show false=true from h) (by decide)
 | fail _=>rw[ho] at h;exact absurd (show false=true from h) (by decide)
end
end Go.Proofs.YtdmelebgdaiinaaGreatDoor.Ev
set_option maxRecDepth 20000
namespace Go.Proofs.YtdmelebgdaiinaaGreatDoor.Ev
theorem resolve_idle (us:Array Value) (hs:us.size=3) (w:World):CallsD Tryz.prog 73 us .returning w fun e u w'=>e=.returned (.tuple #[])∧u=.returning∧w'=w:=by
 obtain⟨l⟩:=us
 match l,hs with
 | [a,b,c],_ =>
 have hta:∀ w:World,(Instr.typeAssert .nilIface 20 31 true).run Tryz.prog w=.ok (.tuple #[.int .i64 0,.bool false]) w:=fun _=>by kernel_rfl
 refine callsD_of_wpS Tryz.func73 rfl fun c₀ cs hu=>?_
 apply wpS_seq
 apply wpS_region
 simp[wpOpsS,go_sem,recoverD,hu,hta,Tryz.ntmps73,Exit.thenS]
 apply wpS_seq
 apply wpS_region
 simp[wpOpsS,go_sem,Exit.thenS]
 refine wpS_cond (t:=false) (by simp[Act.eval,Array.replicate]) ?_
 simp only[Bool.false_eq_true,if_false]
 refine wpS_of_wp (wp_skip ?_)
 cases c₀
 simp_all [bodyPostS,results,Tryz.results73,Exit.thenS]
end Go.Proofs.YtdmelebgdaiinaaGreatDoor.Ev
