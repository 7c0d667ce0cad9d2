/- The evaluator: code. The evaluator: regions that draw their order: what the checks say. The evaluator: regions that draw their order: how they stand in the midst. -/
import Derived.Test.YtbdbhdcbdfbnnaaGreatDoorJ5
set_option linter.unusedVariables false
set_option linter.unusedSimpArgs false
set_option linter.unusedVariables false
set_option linter.unusedSimpArgs false
namespace Go.Proofs.YtbdbhdcbdfbnnaaGreatDoor.Ev
section
variable {P : Program} {r : Rho} {n : Nat} {tm : Tr AV} {a : Act} {w : World} {hp : Hp} {nx : Nat} {ih : K}
theorem loopFrom_round {c:Code} {Q:Exit→Act→World→Prop} (h:c.wp P (Exit.then (fun a' w'=>LoopFrom P c Q a' w') Q) a w):LoopFrom P c Q a w:=by
 intro b k cs
 obtain⟨e,a₁,w₁,hq,harr⟩:=h b (.inLoop c :: k) cs
 cases e with
 | normal =>
  obtain⟨e₂,a₂,w₂,hq₂,harr₂⟩:=hq b k cs
  exact⟨e₂,a₂,w₂,hq₂,.of_steps (Steps.trans harr (.one step_inLoop)) harr₂⟩
 | exit id=>exact⟨_,a₁,w₁,hq,.pass (x:=.inLoop c) rfl (fun _ _=>.inl (by simp)) harr⟩
 | goto l=>exact⟨_,a₁,w₁,hq,.pass (x:=.inLoop c) rfl (fun _ _=>.inl (by simp)) harr⟩
 | ret=>exact⟨_,a₁,w₁,hq,.pass (x:=.inLoop c) rfl (fun _ _=>.inl (by simp)) harr⟩
 | panic ch=>exact⟨_,a₁,w₁,hq,.pass (x:=.inLoop c) rfl (fun _ _=>.inl (by simp)) harr⟩
 | outgrown=>exact⟨_,a₁,w₁,hq,.pass (x:=.inLoop c) rfl (fun _ _=>.inl (by simp)) harr⟩
theorem wp_of_loopFrom {c:Code} {Q:Exit→Act→World→Prop} (h:LoopFrom P c Q a w):(Code.loop c).wp P Q a w:=by
 intro b k cs
 obtain⟨e,a',w',hq,harr⟩:=h b k cs
 exact⟨e,a',w',hq,.of_steps (.one step_loop) harr⟩
theorem Post.trans {tm':Tr AV} {hp':Hp} {nx':Nat} {a':Act} {w':World} {r':Rho} (e:Ext r r' w) (f:Fr r w w') {out:Out} {x:Exit} {a'':Act} {w'':World} (h:Post P r' w' n out x a'' w''):Post P r w n out x a'' w'':=by
 cases out with
 | norm _ _ _=>exact⟨h.1,h.2.trans (tm':=tm') (hp':=hp') (nx':=nx') (a':=a') e f⟩
 | exit _ _ _ _=>exact⟨h.1,h.2.trans (tm':=tm') (hp':=hp') (nx':=nx') (a':=a') e f⟩
 | ret _ _ _=>exact⟨h.1,h.2.trans (tm':=tm') (hp':=hp') (nx':=nx') (a':=a') e f⟩
 | value _ _ _=>exact trivial
 | fail _=>exact trivial
def DrawOk (P:Program):Prop:=∀ ih,KOk P ih→∀ id ops tm n hp nx,CodeOk P (.region id ops true) tm n hp nx (drawS ops ih P tm n hp nx)
def RangeOk (P:Program):Prop:=∀ ih,KOk P ih→KOkR P ih→∀ g ps asg body tm n hp nx,CodeOk P (.rangeFunc g ps asg body) tm n hp nx (cRange g ps asg body ih P tm n hp nx)
theorem sel_none2 {a b:Bool} (h:sel a b false=true):a=true∧b=true:=by cases a <;> cases b <;> simp_all [sel]
theorem seq_ok {c:Code} {o1:Out} {f:Tr AV→Hp→Nat→Out} {Q:Exit→Act→World→Prop} (ht:TmOk r n tm a) (hg:Glob P r) (g:Gam (getB hp) r w) (hf:Fresh nx r) (h1:CodeOk P c tm n hp nx o1)
  (hgood:(onNorm o1 f).good=true) {next:Act→World→Prop}
  (h2:∀ tm' hp' nx' r' a' w',o1=.norm tm' hp' nx'→TmOk r' n tm' a'→Glob P r'→Gam (getB hp') r' w'→Fresh nx' r'→Ext r r' w→Fr r w w'→next a' w')
  (h3:∀ e a' w',Post P r w n (onNorm o1 f) e a' w'→Q e a' w'):c.wp P (Exit.then next Q) a w:=by
 cases o1 with
 | norm tm' hp' nx' =>
  refine Code.wp_mono (fun e a' w' hp=>?_) (h1 r w a ht hg g hf rfl)
  obtain⟨rfl,r',q1,q2,q3,q4,q5⟩:=hp
  exact h2 _ _ _ r' a' w' rfl q1 (hg.mono q2.le) q4 q5 q2 q3
 | exit id tm' hp' nx' =>
  refine Code.wp_mono (fun e a' w' hp=>?_) (h1 r w a ht hg g hf rfl)
  obtain⟨rfl,hst⟩:=hp
  exact h3 _ _ _ ⟨rfl,hst⟩
 | ret tm' hp' nx' =>
  refine Code.wp_mono (fun e a' w' hp=>?_) (h1 r w a ht hg g hf rfl)
  obtain⟨rfl,hst⟩:=hp
  exact h3 _ _ _ ⟨rfl,hst⟩
 | value _ _ _=>exact absurd (show false=true from hgood) (by decide)
 | fail _=>exact absurd (show false=true from hgood) (by decide)
theorem loop_ok (hk:KOk P ih) (c:Code) (tm:Tr AV) (n:Nat) (hp:Hp) (nx:Nat):LoopOk P c tm n hp nx (cLoop c ih P tm n hp nx):=by
 intro r w a ht hg g hf hgood
 refine loopFrom_round (seq_ok (f:=fun tm hp nx=>ih (.code (.loop c)) tm n hp nx) ht hg g hf (hk.code c tm n hp nx) hgood ?_ fun _ _ _ h=>h)
 intro tm' hp' nx' r' a' w' ho ht' hg' g' hf' he hfr
 have hgood':(onNorm (ih (.code c) tm n hp nx) fun tm hp nx=>ih (.code (.loop c)) tm n hp nx).good=true:=hgood
 rw[ho] at hgood'
 have:=hk.loop c tm' n hp' nx' r' w' a' ht' hg' g' hf' hgood'
 intro b k cs
 obtain⟨e,a2,w2,q,arr⟩:=this b k cs
 refine⟨e,a2,w2,?_,arr⟩
 show Post P r w n (onNorm (ih (.code c) tm n hp nx) fun tm hp nx=>ih (.code (.loop c)) tm n hp nx) e a2 w2
 rw[ho]
 exact Post.trans (tm':=tm') (hp':=hp') (nx':=nx') (a':=a') he hfr q
theorem code_ok (hk:KOk P ih) (hkr:KOkR P ih) (hd:DrawOk P) (hra:RangeOk P) (c:Code) (tm:Tr AV) (n:Nat) (hp:Hp) (nx:Nat):CodeOk P c tm n hp nx (codeS c ih P tm n hp nx):=by
 intro r w a ht hg g hf hgood
 cases c with
 | skip=>exact wp_skip ⟨rfl,r,ht,Ext.refl _ _,Fr.refl _ _,g,hf⟩
 | label l=>exact wp_label ⟨rfl,r,ht,Ext.refl _ _,Fr.refl _ _,g,hf⟩
 | region id ops draw =>
  cases draw with
  | false=>exact wp_region_list (opsS_ok hk ops.toList ht hg g hf rfl hgood _ fun _ _ _ h=>h)
  | true=>exact hd ih hk id ops tm n hp nx r w a ht hg g hf hgood
 | seq x y =>
  refine wp_seq (seq_ok (f:=fun tm hp nx=>ih (.code y) tm n hp nx) ht hg g hf (hk.code x tm n hp nx) hgood ?_ fun _ _ _ h=>h)
  intro tm' hp' nx' r' a' w' ho ht' hg' g' hf' he hfr
  have hgood':(onNorm (ih (.code x) tm n hp nx) fun tm hp nx=>ih (.code y) tm n hp nx).good=true:=hgood
  rw[ho] at hgood'
  refine Code.wp_mono (fun e a2 w2 q=>?_) (hk.code y tm' n hp' nx' r' w' a' ht' hg' g' hf' hgood')
  show Post P r w n (onNorm (ih (.code x) tm n hp nx) fun tm hp nx=>ih (.code y) tm n hp nx) e a2 w2
  rw[ho]
  exact Post.trans (tm':=tm') (hp':=hp') (nx':=nx') (a':=a') he hfr q
 | cond c x y =>
  have hgood' : Out.good (Option.rec (motive := fun _ => Out) (.fail "cond") (fun t => ih (.code (sel t x y)) tm n hp nx) (bnd (opnd P c tm) asBool)) = true := hgood
  cases hc:bnd (opnd P c tm) asBool with
  | none=>rw[hc] at hgood';exact absurd (show false=true from hgood') (by decide)
  | some t =>
   rw[hc] at hgood'
   obtain⟨b,h1,h2⟩:=bnd_some hc
   have:=asBool_some h2;subst this
   have hev:=rel_bool.1 (opnd_ok ht hg h1)
   have hcode:=hk.code (sel t x y) tm n hp nx r w a ht hg g hf hgood'
   have hout:codeS (.cond c x y) ih P tm n hp nx=ih (.code (sel t x y)) tm n hp nx:=by
    show Option.rec (motive := fun _ => Out) (.fail "cond") (fun t => ih (.code (sel t x y)) tm n hp nx) (bnd (opnd P c tm) asBool) = _
    rw[hc]
   rw[hout]
   refine wp_cond hev ?_
   cases t <;> exact hcode
 | block id c =>
  refine wp_block ?_
  have hgood':(offBlock id (ih (.code c) tm n hp nx)).good=true:=hgood
  have hcode:=hk.code c tm n hp nx r w a ht hg g hf
  have hout:codeS (.block id c) ih P tm n hp nx=offBlock id (ih (.code c) tm n hp nx):=rfl
  rw[hout]
  cases ho:ih (.code c) tm n hp nx with
  | norm tm' hp' nx' =>
   rw[ho] at hcode
   refine Code.wp_mono (fun e a' w' q=>?_) (hcode rfl)
   obtain⟨rfl,hst⟩:=q
   exact⟨rfl,hst⟩
  | exit j tm' hp' nx' =>
   rw[ho] at hcode
   refine Code.wp_mono (fun e a' w' q=>?_) (hcode rfl)
   obtain⟨rfl,hst⟩:=q
   show Exit.inBlock id (Post P r w n (sel (Nat.beq j id) (.norm tm' hp' nx') (.exit j tm' hp' nx'))) (.exit j) a' w'
   unfold Exit.inBlock
   dsimp only
   cases hj:Nat.beq j id with
   | true=>rw[if_pos (beq_eq hj)];exact⟨rfl,hst⟩
   | false =>
    rw[if_neg fun e=>by subst e;rw[Nat.beq_refl] at hj;exact absurd hj (by decide)]
    exact⟨rfl,hst⟩
  | ret tm' hp' nx' =>
   rw[ho] at hcode
   refine Code.wp_mono (fun e a' w' q=>?_) (hcode rfl)
   obtain⟨rfl,hst⟩:=q
   exact⟨rfl,hst⟩
  | value _ _ _=>rw[ho] at hgood';exact absurd (show false=true from hgood') (by decide)
  | fail _=>rw[ho] at hgood';exact absurd (show false=true from hgood') (by decide)
 | loop c=>exact wp_of_loopFrom (loop_ok hk c tm n hp nx r w a ht hg g hf hgood)
 | rangeFunc gg ps asg body=>exact hra ih hk hkr gg ps asg body tm n hp nx r w a ht hg g hf hgood
 | exit id=>exact wp_exit ⟨rfl,r,ht,Ext.refl _ _,Fr.refl _ _,g,hf⟩
 | scope _=>exact absurd (show false=true from hgood) (by decide)
 | goto _=>exact absurd (show false=true from hgood) (by decide)
 | ret=>exact wp_ret ⟨rfl,r,ht,Ext.refl _ _,Fr.refl _ _,g,hf⟩
 | refuse _=>exact absurd (show false=true from hgood) (by decide)
theorem startTm_slot:∀ (args:List AV) (i:Nat) (tm:Tr AV) (t:Nat),slot (startTm args i tm) t=if i≤t∧t<i+args.length then (args[t - i]?).getD (.tuple []) else slot tm t:=by
 intro args
 induction args with
 | nil=>intro i tm t;rw[if_neg (by simp only[List.length_nil];omega)];rfl
 | cons v args ihh =>
  intro i tm t
  show slot (startTm args (Nat.succ i) (setP (some v) (pos (Nat.succ i)) tm)) t=_
  rw[ihh,slot_set]
  simp only[List.length_cons]
  by_cases h1:Nat.succ i≤t∧t<Nat.succ i+args.length
  ·rw[if_pos h1,if_pos (by omega),show t - i=(t - Nat.succ i)+1 by omega,List.getElem?_cons_succ]
  ·rw[if_neg h1]
   by_cases h2:t=i
   ·subst h2;rw[if_pos rfl,if_pos (by omega)];simp
   ·rw[if_neg h2,if_neg (by omega)]
theorem startTm_df:∀ (args:List AV) (i:Nat) (tm:Tr AV),getP .h (startTm args i tm)=getP .h tm:=by
 intro args
 induction args with
 | nil=>intro i tm;rfl
 | cons v args ihh =>
  intro i tm
  show getP .h (startTm args (Nat.succ i) (setP (some v) (pos (Nat.succ i)) tm))=_
  rw[ihh,getP_setP_other _ _ _ _ (Ne.symm (pos_succ_ne i))]
theorem start_ok {args:List AV} {us:Array Value} (hu:Rels r args us.toList) {m:Nat} (hm:args.length≤m):TmOk r m (startTm args 0 .leaf) { tmps:=us++Array.replicate (m - us.size) undef,defers:=[] }:=by
 have hl:us.size=args.length:=by have:=hu.length;simpa using this
 refine⟨by simp;omega,fun t=>?_,?_⟩
 ·rw[startTm_slot]
  simp only[Nat.zero_le,true_and,Nat.zero_add,Nat.sub_zero,Array.getD_eq_getD_getElem?]
  by_cases ht:t<args.length
  ·rw[if_pos ht,Array.getElem?_append_left (by omega)]
   have h1:args[t]?=some args[t]:=List.getElem?_eq_getElem ht
   obtain⟨u,h2,h3⟩:=hu.get h1
   rw[h1]
   have h4:us[t]?=some u:=by rw[← h2];simp
   rw[h4]
   exact h3
  ·rw[if_neg ht,Array.getElem?_append_right (by omega)]
   have h0:slot (.leaf:Tr AV) t=.tuple []:=by unfold slot;rw[getP_leaf]
   rw[h0]
   have:((Array.replicate (m - us.size) undef)[t - us.size]?).getD undef=undef:=by
    rw[Array.getElem?_replicate];split <;> rfl
   rw[this]
   exact rel_undef
 ·rw[startTm_df,getP_leaf];rfl
theorem one1_ok {l:List AV} {us:Array Value} (h:Rels r l us.toList):Rel r (one1 l) (if h:us.size=1 then us[0] else .tuple us):=by
 unfold one1
 split
 ·rename_i v
  obtain⟨x,xs,e1,e2,e3⟩:=Rels_cons.1 h
  have:=Rels_nil.1 e3
  subst this
  have hus:us=#[x]:=by rw[← Array.toList_inj,e1]
  subst hus
  exact e2
 ·rename_i hne
  have hs:¬ us.size=1:=fun hs=>by
   have hl:=h.length
   rw[Array.length_toList,hs] at hl
   obtain⟨v,hv⟩:=List.length_eq_one_iff.1 hl.symm
   exact hne v hv
  rw[dif_neg hs]
  exact rel_tuple.2 ⟨us,rfl,h⟩
theorem resF_ok (ht:TmOk r n tm a) (g:Gam (getB hp) r w):∀ {rs:List ResultVar} {l:List AV},resF P tm hp rs=some l →
  ∃ us:List Value,Rels r l us∧(rs.mapM (fun x:ResultVar=>match x with | .tmp t=>pure (a.tmps.getD t undef) | .cell b t=>do loadVar t (← Go.asAddr (a.tmps.getD b undef))):Sem (List Value)).run P w=.ok us w:=by
 intro rs
 induction rs with
 | nil=>intro l h;injection (show some []=some l from h) with h;subst h;exact⟨[],Rels_nil.2 rfl,rfl⟩
 | cons x rs ihh =>
  intro l h
  cases x with
  | tmp t =>
   obtain⟨m,h1,h2⟩:=bnd_some (show bnd (resF P tm hp rs) (fun l=>some (slot tm t :: l))=some l from h)
   injection h2 with h2;subst h2
   obtain⟨us,q1,q2⟩:=ihh h1
   exact⟨_ :: us,Rels_cons.2 ⟨_,_,rfl,ht.slot t,q1⟩,by simp only[List.mapM_cons,Sem.run_bind,Sem.run_pure,Result.andThen_ok,q2]⟩
  | cell b t =>
   obtain⟨p,h1,h2⟩:=bnd_some (show bnd (asPtr (slot tm b)) (fun p=>bnd (aggSize P t) fun s=>bnd (loadB hp s p) fun v=>bnd (resF P tm hp rs) fun l=>some (v :: l))=some l from h)
   obtain⟨s,h3,h4⟩:=bnd_some h2
   obtain⟨v,h5,h6⟩:=bnd_some h4
   obtain⟨m,h7,h8⟩:=bnd_some h6
   injection h8 with h8;subst h8
   obtain⟨us,q1,q2⟩:=ihh h7
   have hp2:=asPtr_some h1
   have hs:=ht.slot b
   rw[hp2] at hs
   obtain⟨y,e1,e2⟩:=rel_ptr.1 hs
   obtain⟨u,l1,l2⟩:=loadB_run g h3 e1 h5
   refine⟨u :: us,Rels_cons.2 ⟨_,_,rfl,l2,q1⟩,?_⟩
   have hasA:(Go.asAddr (a.tmps.getD b undef)).run P w=.ok ⟨y.blk,y.sh+p.2,none⟩ w:=by rw[e2];rfl
   simp only[List.mapM_cons,Sem.run_bind,Sem.run_pure,Result.andThen_ok,hasA,l1,q2]
theorem results_ok (ht:TmOk r n tm a) (g:Gam (getB hp) r w) {fn:Func} {l:List AV} (h:resF P tm hp fn.results.toList=some l):∃ x,(results fn a.tmps).run P w=.ok x w∧Rel r (one1 l) x:=by
 obtain⟨us,h1,h2⟩:=resF_ok (P:=P) ht g h
 refine⟨_,?_,one1_ok (us:=us.toArray) (by simpa using h1)⟩
 unfold results
 rw[Array.mapM_eq_mapM_toList]
 simp only[Sem.run_bind,Sem.run_map]
 have:=h2
 erw [this]
 rfl
theorem Gam.kill {h h':H} {r:Rho} {w w':World} (g:Gam h r w) {m:Nat} {k:Blk} {x:BI} (hk:h m=some k) (ho:k.owned=true) (hsh:k.shares=[]) (hx:r m=some x)
  (hsub:∀ b j,h' b=some j→b≠m∧h b=some j) (hoth:∀ i,i≠x.blk→w'.heap[i]?=w.heap[i]?) (hsz:w.heap.size≤w'.heap.size):Gam h' r w':=by
 refine⟨fun b j hb=>?_,fun b y hb=>Nat.lt_of_lt_of_le (g.real _ _ hb) hsz,fun b j y b' j' y' h1 h2 h3 h4 h5 h6 h7=>g.sep b j y b' j' y' (hsub _ _ h1).2 h2 h3 (hsub _ _ h4).2 h5 h6 h7⟩
 obtain⟨e,h1⟩:=hsub b j hb
 obtain⟨y,h3,h4⟩:=g.blk b j h1
 refine⟨y,h3,h4.kept (Rho.le_refl r) (hoth _ fun e'=>?_)⟩
 have:=(g.sep m k x b j y hk ho hx h1 h3 e e').1
 rw[hsh] at this;exact absurd this (by simp)
theorem marks_leave {P:Program} {fn:Func} {tmps:Array Value} {R:Ending→World→Prop} {r:Rho} {k:Hp→Out} {o:Out} (hno:∀ m,o≠.fail m):∀ (ml:List AV) (ds:List Deferred) (hp:Hp) (w:World),MkOk r ml ds→Gam (getB hp) r w→leaveM ml k hp=o →
  (∀ hp2 w2,Gam (getB hp2) r w2→Fr r w w2→k hp2=o→∃ v,(results fn tmps).run P w2=.ok v w2∧R (.returned v) w2)→LeavesInM Fence.wide 0 P fn tmps R ds .returning w:=by
 intro ml
 induction ml with
 | nil =>
  intro ds hp w hm g h hk
  have hm:ds=[]:=hm
  subst hm
  exact hk hp w g (Fr.refl _ _) h
 | cons v ml ihm =>
  intro ds hp w hm g h hk
  obtain⟨D,oo,x,ds',rfl,e2,rfl,hm'⟩:=hm
  have h : sel (isDfr (getB hp D)) (leaveM ml k (setB none D hp)) (.fail "marks") = o := h
  cases hb:isDfr (getB hp D) with
  | false=>rw[hb] at h;exact absurd h.symm (hno _)
  | true =>
   rw[hb] at h
   have h:leaveM ml k (setB none D hp)=o:=h
   have hD:getB hp D=some .dfr:=by
    unfold isDfr at hb
    split at hb
    ·rename_i e;exact e
    ·exact absurd hb (by decide)
   obtain⟨x',r1,b1,b2⟩:=g.blk D _ hD
   rw[e2] at r1;injection r1 with r1;subst r1
   have hoth:∀ i,i≠x.blk→(w.putObj x.blk (.deferred none)).heap[i]?=w.heap[i]?:=fun i hi=>World.putObj_heap_other hi
   have hsz:w.heap.size≤(w.putObj x.blk (.deferred none)).heap.size:=by simp
   have F1:Fr r w (w.putObj x.blk (.deferred none)):=Fr.turn e2 b2 rfl rfl rfl hoth hsz
   refine⟨by simp,.inl ⟨x.blk,_,rfl,run_takeDeferred b1,ihm ds' (setB none D hp) _ hm' (g.kill hD rfl rfl e2 (fun b j hb=>?_) hoth hsz) h fun hp2 w2 g2 f2 hk2=>hk hp2 w2 g2 (F1.trans (Ext.refl _ _) f2) hk2⟩⟩
   rw[getB_setB] at hb
   split at hb
   ·exact absurd hb (by simp)
   ·rename_i hne;exact⟨hne,hb⟩
def HookOk (P:Program) (hk:Hook):Prop:=∀ mode f args hp nx v hp' nx',hk mode f args hp nx=some (v,hp',nx')→CallOk P mode f args hp nx v hp' nx'
theorem call_ok (hk : KOk P ih) {hook : Hook} (hh : HookOk P hook) (f : FuncId) (args : List AV) (tm : Tr AV) (mode : Nat) (hp : Hp) (nx : Nat) (v : AV) (hp' : Hp) (nx' : Nat)
    (h : callS hook f args ih P tm mode hp nx = .value v hp' nx') : CallOk P mode f args hp nx v hp' nx' := by
  unfold callS at h
  cases hq : hook mode f args hp nx with
  | some q =>
    obtain ⟨v0, hp0, nx0⟩ := q
    rw [hq] at h
    have h' : Out.value v0 hp0 nx0 = .value v hp' nx' := h
    injection h' with h1 h2 h3
    subst h1; subst h2; subst h3
    exact hh _ _ _ _ _ _ _ _ hq
  | none =>
    rw [hq] at h
    cases hfn : P.funcs[f]? with
    | none => rw [hfn] at h; exact absurd (show Out.fail "func" = .value v hp' nx' from h) (by simp)
    | some fn =>
      rw [hfn] at h
      cases hb : fn.body with
      | none =>
        have h' : Option.rec (motive := fun _ => Out) (.fail fn.name) (fun c => sel (Nat.ble (lenL args) fn.ntmps) (sel (Nat.beq mode 0) (resO ih P fn (ih (.code c) (startTm args 0 .leaf) fn.ntmps hp nx)) (sel (Nat.beq mode 1) (resO1 P fn (ih (.code c) (startTm args 0 .leaf) fn.ntmps hp nx)) (.fail "mode"))) (.fail "args")) fn.body = .value v hp' nx' := h
        rw [hb] at h'
        exact absurd (show Out.fail fn.name = .value v hp' nx' from h') (by simp)
      | some c =>
        have h' : Option.rec (motive := fun _ => Out) (.fail fn.name) (fun c => sel (Nat.ble (lenL args) fn.ntmps) (sel (Nat.beq mode 0) (resO ih P fn (ih (.code c) (startTm args 0 .leaf) fn.ntmps hp nx)) (sel (Nat.beq mode 1) (resO1 P fn (ih (.code c) (startTm args 0 .leaf) fn.ntmps hp nx)) (.fail "mode"))) (.fail "args")) fn.body = .value v hp' nx' := h
        rw [hb] at h'
        have h2 : sel (Nat.ble (lenL args) fn.ntmps) (sel (Nat.beq mode 0) (resO ih P fn (ih (.code c) (startTm args 0 .leaf) fn.ntmps hp nx)) (sel (Nat.beq mode 1) (resO1 P fn (ih (.code c) (startTm args 0 .leaf) fn.ntmps hp nx)) (.fail "mode"))) (.fail "args") = .value v hp' nx' := h'
        cases hle : Nat.ble (lenL args) fn.ntmps with
        | false => rw [hle] at h2; exact absurd (show Out.fail "args" = .value v hp' nx' from h2) (by simp)
        | true =>
          rw [hle] at h2
          have hle' := ble_le hle
          rw [lenL_eq] at hle'
          intro r w us hu hg g hf
          have hst := start_ok hu hle'
          have hcode := hk.code c (startTm args 0 .leaf) fn.ntmps hp nx r w _ hst hg g hf
          -- the end without a deferred call
          have fin0 : ∀ {tm' : Tr AV} {hp1 : Hp} {nx1 : Nat} {r' : Rho} {a' : Act} {w' : World}, TmOk r' fn.ntmps tm' a' → Gam (getB hp1) r' w' → ∀ {l : List AV}, resF P tm' hp1 fn.results.toList = some l → ∃ x, (results fn a'.tmps).run P w' = .ok x w' ∧ Rel r' (one1 l) x := fun ht' g' _ hl => results_ok ht' g' hl
          have opt : ∀ {tm' : Tr AV} {hp1 : Hp} {nx1 : Nat}, Option.rec (motive := fun _ => Out) (.fail "results") (fun l => .value (one1 l) hp1 nx1) (resF P tm' hp1 fn.results.toList) = .value v hp' nx' → ∃ l, resF P tm' hp1 fn.results.toList = some l ∧ v = one1 l ∧ hp' = hp1 ∧ nx' = nx1 := by
            intro tm' hp1 nx1 ho
            cases hr : resF P tm' hp1 fn.results.toList with
            | none => rw [hr] at ho; exact absurd (show Out.fail "results" = .value v hp' nx' from ho) (by simp)
            | some l =>
              rw [hr] at ho
              have ho' : Out.value (one1 l) hp1 nx1 = .value v hp' nx' := ho
              injection ho' with e1 e2 e3
              exact ⟨l, rfl, e1.symm, e2.symm, e3.symm⟩
          refine ⟨fun hm => ?_, fun hm => ?_, fun hm => by subst hm; exact absurd (show Out.fail "mode" = .value v hp' nx' from h2) (by simp)⟩
          · subst hm
            have h3 : resO ih P fn (ih (.code c) (startTm args 0 .leaf) fn.ntmps hp nx) = .value v hp' nx' := h2
            by_cases hmk : ∀ tm' hp1 nx1, (ih (.code c) (startTm args 0 .leaf) fn.ntmps hp nx = .norm tm' hp1 nx1 ∨ ih (.code c) (startTm args 0 .leaf) fn.ntmps hp nx = .ret tm' hp1 nx1) → ¬ ∃ ml, getP .h tm' = some (.agg ml)
            case neg =>
              have hmk' : ∃ tm' hp1 nx1, (ih (.code c) (startTm args 0 .leaf) fn.ntmps hp nx = .norm tm' hp1 nx1 ∨ ih (.code c) (startTm args 0 .leaf) fn.ntmps hp nx = .ret tm' hp1 nx1) ∧ ∃ ml, getP .h tm' = some (.agg ml) :=
                Classical.byContradiction fun hno => hmk fun tm' hp1 nx1 h1 h2 => hno ⟨tm', hp1, nx1, h1, h2⟩
              obtain ⟨tm', hp1, nx1, ho, ml, hml⟩ := hmk'
              have hl : leaveS P ih tm' hp1 nx1 (fun hp nx => Option.rec (motive := fun _ => Out) (.fail "results") (fun l => .value (one1 l) hp nx) (resF P tm' hp fn.results.toList)) = .value v hp' nx' := by
                rcases ho with ho | ho <;> (rw [ho] at h3; exact h3)
              unfold leaveS at hl
              rw [hml] at hl
              have hl2 : leaveM ml (fun hp => Option.rec (motive := fun _ => Out) (.fail "results") (fun l => .value (one1 l) hp nx1) (resF P tm' hp fn.results.toList)) hp1 = .value v hp' nx' := hl
              refine callsIn_wide.1 (callsIn_of_wp_marks (n := 0) hfn hb trivial (wpIn_wide.2 ?_))
              have hst : ∀ a' w', St P r w fn.ntmps tm' hp1 nx1 a' w' → LeavesInM Fence.wide 0 P fn a'.tmps (fun e w' => ∃ x r', e = .returned x ∧ Rel r' v x ∧ Ext r r' w ∧ Fr r w w' ∧ Gam (getB hp') r' w' ∧ Fresh nx' r') a'.defers .returning w' := by
                rintro a' w' ⟨r', q1, q2, q3, q4, q5⟩
                have hdf := q1.defs
                rw [hml] at hdf
                refine marks_leave (fun _ => by simp) ml a'.defers hp1 w' hdf q4 hl2 fun hp2 w2 g2 f2 hk2 => ?_
                obtain ⟨l, l1, rfl, rfl, rfl⟩ := opt hk2
                obtain ⟨x, x1, x2⟩ := results_ok (P := P) q1 g2 l1
                exact ⟨x, x1, x, r', rfl, x2, q2, q3.trans q2 f2, g2, q5⟩
              rcases ho with ho | ho
              · rw [ho] at hcode
                refine Code.wp_mono (fun e a' w' q => ?_) (hcode rfl)
                obtain ⟨rfl, q⟩ := q
                exact hst a' w' q
              · rw [ho] at hcode
                refine Code.wp_mono (fun e a' w' q => ?_) (hcode rfl)
                obtain ⟨rfl, q⟩ := q
                exact hst a' w' q
            refine calls_of_wp_defers hfn hb ?_
            -- what stands behind the body
            have last : ∀ {tm' : Tr AV} {hp1 : Hp} {nx1 : Nat} (hsrc : ih (.code c) (startTm args 0 .leaf) fn.ntmps hp nx = .norm tm' hp1 nx1 ∨ ih (.code c) (startTm args 0 .leaf) fn.ntmps hp nx = .ret tm' hp1 nx1), leaveS P ih tm' hp1 nx1 (fun hp nx => Option.rec (motive := fun _ => Out) (.fail "results") (fun l => .value (one1 l) hp nx) (resF P tm' hp fn.results.toList)) = .value v hp' nx' →
                ∀ a' w', St P r w fn.ntmps tm' hp1 nx1 a' w' → Leaves P fn a'.tmps (fun e w' => ∃ x r', e = .returned x ∧ Rel r' v x ∧ Ext r r' w ∧ Fr r w w' ∧ Gam (getB hp') r' w' ∧ Fresh nx' r') a'.defers .returning w' := by
              intro tm' hp1 nx1 hsrc hl a' w' hst'
              obtain ⟨r', q1, q2, q3, q4, q5⟩ := hst'
              unfold leaveS at hl
              have hdf := q1.defs
              cases hdd : getP .h tm' with
              | none =>
                rw [hdd] at hl hdf
                have hdf' : a'.defers = [] := hdf
                obtain ⟨l, l1, rfl, rfl, rfl⟩ := opt (show Option.rec (motive := fun _ => Out) (.fail "results") (fun l => .value (one1 l) hp1 nx1) (resF P tm' hp1 fn.results.toList) = .value v hp' nx' from hl)
                obtain ⟨x, x1, x2⟩ := results_ok (P := P) q1 q4 l1
                rw [hdf']
                exact ⟨x, x1, x, r', rfl, x2, q2, q3, q4, q5⟩
              | some dv =>
                rw [hdd] at hl hdf
                unfold DfOk at hdf
                split at hdf
                · rename_i heq; exact absurd heq (by simp)
                · rename_i gf cs heq
                  injection heq with heq
                  subst heq
                  obtain ⟨cv, d1, d2⟩ := hdf
                  have hl' : leaveD ih gf cs hp1 nx1 (fun hp nx => Option.rec (motive := fun _ => Out) (.fail "results") (fun l => .value (one1 l) hp nx) (resF P tm' hp fn.results.toList)) (funKind P gf) = Out.value v hp' nx' := hl
                  cases hfk : funKind P gf with
                  | none => rw [hfk] at hl'; exact absurd (show Out.fail "deferred" = .value v hp' nx' from hl') (by simp)
                  | some fk =>
                    rw [hfk] at hl'
                    cases fk with
                    | clone => exact absurd (show Out.fail "deferred" = .value v hp' nx' from hl') (by simp)
                    | own =>
                      have hown := (funKind_ok hfk).2
                      have hl2 : leaveE (ih (.call gf cs) .leaf 1 hp1 nx1) (fun hp nx => Option.rec (motive := fun _ => Out) (.fail "results") (fun l => .value (one1 l) hp nx) (resF P tm' hp fn.results.toList)) = Out.value v hp' nx' := hl'
                      cases hcl : ih (.call gf cs) .leaf 1 hp1 nx1 with
                      | value v2 hp2 nx2 =>
                        rw [hcl] at hl2
                        have hcall := (hk.call _ _ _ _ _ _ _ _ _ hcl r' w' cv d2 (hg.mono q2.le) q4 q5).2.1 rfl
                        rw [d1]
                        have hcv : (#[] : Array Value) ++ cv = cv := by simp
                        refine leaves_cons (by simp) (f := gf) (args := cv) (by simp only [invoke]; rw [hcv]; exact hown cv w') (hcall.mono ?_)
                        rintro e u w2 ⟨x2, r2, rfl, rfl, p1, p2, p3, p4, p5⟩
                        obtain ⟨l, l1, rfl, rfl, rfl⟩ := opt (show Option.rec (motive := fun _ => Out) (.fail "results") (fun l => .value (one1 l) hp2 nx2) (resF P tm' hp2 fn.results.toList) = .value v hp' nx' from hl2)
                        obtain ⟨x, x1, x2'⟩ := results_ok (P := P) (q1.mono p2.le) p4 l1
                        exact ⟨x, x1, x, r2, rfl, x2', q2.trans p2 q3.size, q3.trans q2 p3, p4, p5⟩
                      | fail m => rw [hcl] at hl2; exact absurd (show Out.fail m = .value v hp' nx' from hl2) (by simp)
                      | norm _ _ _ => rw [hcl] at hl2; exact absurd (show Out.fail "deferred" = .value v hp' nx' from hl2) (by simp)
                      | exit _ _ _ _ => rw [hcl] at hl2; exact absurd (show Out.fail "deferred" = .value v hp' nx' from hl2) (by simp)
                      | ret _ _ _ => rw [hcl] at hl2; exact absurd (show Out.fail "deferred" = .value v hp' nx' from hl2) (by simp)
                · rename_i ml heq; exact absurd ⟨ml, by rw [hdd, heq]⟩ (hmk tm' hp1 nx1 hsrc)
                · exact hdf.elim
            cases ho : ih (.code c) (startTm args 0 .leaf) fn.ntmps hp nx with
            | norm tm' hp1 nx1 =>
              rw [ho] at h3 hcode
              refine Code.wp_mono (fun e a' w' q => ?_) (hcode rfl)
              obtain ⟨rfl, hst'⟩ := q
              exact last (.inl ho) h3 a' w' hst'
            | ret tm' hp1 nx1 =>
              rw [ho] at h3 hcode
              refine Code.wp_mono (fun e a' w' q => ?_) (hcode rfl)
              obtain ⟨rfl, hst'⟩ := q
              exact last (.inr ho) h3 a' w' hst'
            | exit _ _ _ _ => rw [ho] at h3; exact absurd (show Out.fail "left" = .value v hp' nx' from h3) (by simp)
            | value _ _ _ => rw [ho] at h3; exact absurd (show Out.fail "left" = .value v hp' nx' from h3) (by simp)
            | fail m => rw [ho] at h3; exact absurd (show Out.fail m = .value v hp' nx' from h3) (by simp)
          · subst hm
            have h3 : resO1 P fn (ih (.code c) (startTm args 0 .leaf) fn.ntmps hp nx) = .value v hp' nx' := h2
            have last : ∀ {tm' : Tr AV} {hp1 : Hp} {nx1 : Nat}, sel (getP .h tm').isSome (.fail "defers") (Option.rec (motive := fun _ => Out) (.fail "results") (fun l => .value (one1 l) hp1 nx1) (resF P tm' hp1 fn.results.toList)) = .value v hp' nx' →
                ∀ a' w', St P r w fn.ntmps tm' hp1 nx1 a' w' → a'.defers = [] ∧ ∃ x, (results fn a'.tmps).run P w' = .ok x w' ∧ ∃ y r', Ending.returned x = .returned y ∧ Rel r' v y ∧ Ext r r' w ∧ Fr r w w' ∧ Gam (getB hp') r' w' ∧ Fresh nx' r' := by
              intro tm' hp1 nx1 hl a' w' hst'
              obtain ⟨r', q1, q2, q3, q4, q5⟩ := hst'
              cases hdd : getP .h tm' with
              | some _ => rw [hdd] at hl; exact absurd (show Out.fail "defers" = .value v hp' nx' from hl) (by simp)
              | none =>
                rw [hdd] at hl
                obtain ⟨l, l1, rfl, rfl, rfl⟩ := opt (show Option.rec (motive := fun _ => Out) (.fail "results") (fun l => .value (one1 l) hp1 nx1) (resF P tm' hp1 fn.results.toList) = .value v hp' nx' from hl)
                obtain ⟨x, x1, x2⟩ := results_ok (P := P) q1 q4 l1
                have hdf := q1.defs
                rw [hdd] at hdf
                exact ⟨hdf, x, x1, x, r', rfl, x2, q2, q3, q4, q5⟩
            have hwp : c.wp P (bodyPost P fn fun e w' => ∃ x r', e = .returned x ∧ Rel r' v x ∧ Ext r r' w ∧ Fr r w w' ∧ Gam (getB hp') r' w' ∧ Fresh nx' r') { tmps := us ++ Array.replicate (fn.ntmps - us.size) undef, defers := [] } w := by
              cases ho : ih (.code c) (startTm args 0 .leaf) fn.ntmps hp nx with
              | norm tm' hp1 nx1 =>
                rw [ho] at h3 hcode
                refine Code.wp_mono (fun e a' w' q => ?_) (hcode rfl)
                obtain ⟨rfl, hst'⟩ := q
                exact last h3 a' w' hst'
              | ret tm' hp1 nx1 =>
                rw [ho] at h3 hcode
                refine Code.wp_mono (fun e a' w' q => ?_) (hcode rfl)
                obtain ⟨rfl, hst'⟩ := q
                exact last h3 a' w' hst'
              | exit _ _ _ _ => rw [ho] at h3; exact absurd (show Out.fail "left" = .value v hp' nx' from h3) (by simp)
              | value _ _ _ => rw [ho] at h3; exact absurd (show Out.fail "left" = .value v hp' nx' from h3) (by simp)
              | fail m => rw [ho] at h3; exact absurd (show Out.fail m = .value v hp' nx' from h3) (by simp)
            refine (callsD_of_wp (u := .returning) hfn hb hwp).mono ?_
            rintro e u w' ⟨rfl, x, r', rfl, q1, q2⟩
            exact ⟨x, r', rfl, rfl, q1, q2⟩
end
end Go.Proofs.YtbdbhdcbdfbnnaaGreatDoor.Ev
set_option linter.unusedVariables false
set_option linter.unusedSimpArgs false
namespace Go.Proofs.YtbdbhdcbdfbnnaaGreatDoor.Ev
theorem eqA_eq {x y:AV} (h:eqA x y=true):x=y:=by
 cases x <;> cases y <;> first | exact absurd (show false=true from h) (by decide) | rfl | skip
 case bool.bool a b=>cases a <;> cases b <;> first | rfl | exact absurd (show false=true from h) (by decide)
 case int.int k a j b =>
  obtain⟨h1,h2⟩:=and2 (show and (kindEq k j) (iEq a b)=true from h)
  rw[iEq_eq] at h2
  rw[kindEq_eq h1,eq_of_beq h2]
 case str.str s t =>
  have:∀ (s t:List Nat),strEq s t=true→s=t:=by
   intro s
   induction s with
   | nil=>intro t h;cases t with | nil=>rfl | cons _ _=>exact absurd (show false=true from h) (by decide)
   | cons a s ih =>
    intro t h
    cases t with
    | nil=>exact absurd (show false=true from h) (by decide)
    | cons b t =>
     have h':sel (Nat.beq a b) (strEq s t) false=true:=h
     cases hb:Nat.beq a b with
     | false=>rw[hb] at h';exact absurd (show false=true from h') (by decide)
     | true=>rw[hb] at h';rw[beq_eq hb,ih t h']
  rw[this s t h]
 case ptr.ptr b o c p =>
  obtain⟨h1,h2⟩:=and2 (show and (Nat.beq b c) (Nat.beq o p)=true from h)
  rw[beq_eq h1,beq_eq h2]
 case slice.slice b o l c e b' o' l' c' e' =>
  obtain⟨h1,h2⟩:=and2 (show and (Nat.beq b b') (and (Nat.beq o o') (and (Nat.beq l l') (and (Nat.beq c c') (sel e e' (not e')))))=true from h)
  obtain⟨h3,h4⟩:=and2 h2
  obtain⟨h5,h6⟩:=and2 h4
  obtain⟨h7,h8⟩:=and2 h6
  have:e=e':=by cases e <;> cases e' <;> first | rfl | exact absurd (show false=true from h8) (by decide)
  rw[beq_eq h1,beq_eq h3,beq_eq h5,beq_eq h7,this]
 case map.map b c=>rw[beq_eq (show Nat.beq b c=true from h)]
theorem eqAs'_eq:∀ {x y:List AV},eqAs' x y=true→x=y:=by
 intro x
 induction x with
 | nil=>intro y h;cases y with | nil=>rfl | cons _ _=>exact absurd (show false=true from h) (by decide)
 | cons a x ih =>
  intro y h
  cases y with
  | nil=>exact absurd (show false=true from h) (by decide)
  | cons b y =>
   have h':sel (eqA a b) (eqAs' x y) false=true:=h
   cases hb:eqA a b with
   | false=>rw[hb] at h';exact absurd (show false=true from h') (by decide)
   | true=>rw[hb] at h';rw[eqA_eq hb,ih h']
theorem eqV_eq {x y:AV} (h:eqV x y=true):x=y:=by
 cases x <;> first | exact eqA_eq h | skip
 case agg l =>
  cases y <;> first | exact absurd (show false=true from h) (by decide) | skip
  case agg m=>rw[eqAs'_eq (show eqAs' l m=true from h)]
theorem inAll_ok {m:Nat} : ∀ {l:List Nat},inAll m l=true→∀ i∈l,bit m i=true:=by
 intro l
 induction l with
 | nil=>intro _ i hi;exact absurd hi (by simp)
 | cons j l ih =>
  intro h i hi
  have h':sel (bit m j) (inAll m l) false=true:=h
  cases hb:bit m j with
  | false=>rw[hb] at h';exact absurd (show false=true from h') (by decide)
  | true =>
   rw[hb] at h'
   rcases List.mem_cons.1 hi with rfl | hi
   ·exact hb
   ·exact ih h' i hi
theorem pendIdx_eq:∀ (l:List (Nat×Nat×Blk)),pendIdx l=l.map (·.1):=by
 intro l
 induction l with
 | nil=>rfl
 | cons p l ih=>show p.1 :: pendIdx l=_;rw[ih];rfl
theorem orAll_bit {anc:List Nat} {j:Nat} : ∀ {l:List Edge},bit (orAll anc l) j=true→∃ e∈l,Region.binds .any e=true∧(e.on=j∨bit ((nth anc e.on).getD 0) j=true):=by
 intro l
 induction l with
 | nil=>intro h;exact absurd h (by simp[bit,orAll])
 | cons e l ih =>
  intro h
  have h':bit (sel (Region.binds .any e) (Nat.lor (Nat.lor (Nat.pow 2 e.on) ((nth anc e.on).getD 0)) (orAll anc l)) (orAll anc l)) j=true:=h
  cases hb:Region.binds .any e with
  | false =>
   rw[hb] at h'
   obtain⟨e',h1,h2⟩:=ih h'
   exact⟨e',List.mem_cons_of_mem _ h1,h2⟩
  | true =>
   rw[hb] at h'
   have h2:((2 ^ e.on ||| (nth anc e.on).getD 0) ||| orAll anc l).testBit j=true:=h'
   rw[Nat.testBit_or,Nat.testBit_or,Nat.testBit_two_pow] at h2
   simp only[Bool.or_eq_true,decide_eq_true_eq] at h2
   rcases h2 with (h2 | h2) | h2
   ·exact⟨e,List.mem_cons_self,hb,.inl h2⟩
   ·exact⟨e,List.mem_cons_self,hb,.inr h2⟩
   ·obtain⟨e',h3,h4⟩:=ih h2
    exact⟨e',List.mem_cons_of_mem _ h3,h4⟩
theorem ancs_prefix:∀ (l:List Oper) (acc:List Nat),∃ more,ancs l acc=acc++more∧more.length=l.length∧∀ k o,l[k]?=some o→more[k]?=some (orAll (acc++more.take k) o.after.toList):=by
 intro l
 induction l with
 | nil=>intro acc;exact⟨[],by simp[ancs],rfl,fun k o h=>absurd h (by simp)⟩
 | cons o l ih =>
  intro acc
  obtain⟨more,h1,h2,h3⟩:=ih (app acc [orAll acc o.after.toList])
  refine⟨orAll acc o.after.toList :: more,?_,by simp[h2],fun k p hp=>?_⟩
  ·show ancs l (app acc [orAll acc o.after.toList])=_
   rw[h1,app_eq];simp
  ·cases k with
   | zero=>simp at hp;subst hp;simp
   | succ k =>
    simp at hp
    rw[List.getElem?_cons_succ,h3 k p hp,app_eq]
    simp
noncomputable def anc (ops:Array Oper) (i:Nat):Nat:=(nth (ancs ops.toList []) i).getD 0
theorem anc_bit {ops:Array Oper} {i j:Nat} (h:bit (anc ops i) j=true):∃ o e,ops[i]?=some o∧e∈o.after.toList∧Region.binds .any e=true∧(e.on=j∨(e.on<i∧bit (anc ops e.on) j=true)):=by
 obtain⟨more,h1,h2,h3⟩:=ancs_prefix ops.toList []
 rw[List.nil_append] at h1
 unfold anc at h
 rw[nth_eq,h1] at h
 cases ho:ops.toList[i]? with
 | none =>
  have:more[i]?=none:=by
   rw[List.getElem?_eq_none_iff] at ho ⊢;omega
  rw[this] at h
  exact absurd h (by simp[bit])
 | some o =>
  rw[h3 i o ho] at h
  obtain⟨e,q1,q2,q3⟩:=orAll_bit (show bit (orAll ([]++more.take i) o.after.toList) j=true from h)
  refine⟨o,e,by simpa using ho,q1,q2,?_⟩
  rcases q3 with q3 | q3
  ·exact .inl q3
  ·rw[nth_eq,List.nil_append] at q3
   by_cases hlt:e.on<i
   ·refine .inr ⟨hlt,?_⟩
    rw[List.getElem?_take_of_lt hlt] at q3
    unfold anc
    rw[nth_eq,h1]
    exact q3
   ·rw[List.getElem?_eq_none (by simp;omega)] at q3
    exact absurd q3 (by simp[bit])
def Closed (ops:Array Oper) (L:Nat→Bool):Prop:=∀ i o,L i=true→ops[i]?=some o→∀ e∈o.after.toList,Region.binds .any e=true→L e.on=true
theorem closed_anc {ops:Array Oper} {L:Nat→Bool} (hc:Closed ops L):∀ (i:Nat),(∀ o,ops[i]?=some o→∀ e∈o.after.toList,Region.binds .any e=true→L e.on=true)→∀ j,bit (anc ops i) j=true→L j=true:=by
 intro i
 induction i using Nat.strongRecOn with
 | _ i ih =>
  intro hi j hj
  obtain⟨o,e,h1,h2,h3,h4⟩:=anc_bit hj
  have he:=hi o h1 e h2 h3
  rcases h4 with rfl | ⟨h4,h5⟩
  ·exact he
  ·exact ih e.on h4 (fun o' ho'=>hc e.on o' he ho') j h5
theorem closed_anc' {ops:Array Oper} {L:Nat→Bool} (hc:Closed ops L) {i:Nat} (hi:L i=true) {j:Nat} (hj:bit (anc ops i) j=true):L j=true:=closed_anc hc i (fun o ho=>hc i o hi ho) j hj
theorem edgesOk_ok {i:Nat} : ∀ {l:List Edge},edgesOk i l=true→∀ e∈l,Region.binds .any e=true→e.on<i:=by
 intro l
 induction l with
 | nil=>intro _ e he;exact absurd he (by simp)
 | cons x l ih =>
  intro h e he hb
  have h':sel (or (not (Region.binds .any x)) (Nat.blt x.on i)) (edgesOk i l) false=true:=h
  cases hx:or (not (Region.binds .any x)) (Nat.blt x.on i) with
  | false=>rw[hx] at h';exact absurd (show false=true from h') (by decide)
  | true =>
   rw[hx] at h'
   rcases List.mem_cons.1 he with rfl | he
   ·rw[hb] at hx;exact blt_lt (show Nat.blt e.on i=true from hx)
   ·exact ih h' e he hb
theorem apartAll_ok {ops:Array Oper} {o:Oper} {m:Nat} : ∀ {l:List Oper} {i:Nat},apartAll ops o m l i=true→∀ k p,l[k]?=some p→bit m (i+k)=true∨Oper.apart ops p o=true:=by
 intro l
 induction l with
 | nil=>intro i _ k p hp;exact absurd hp (by simp)
 | cons q l ih =>
  intro i h k p hp
  have h':sel (or (bit m i) (Oper.apart ops q o)) (apartAll ops o m l (Nat.succ i)) false=true:=h
  cases hx:or (bit m i) (Oper.apart ops q o) with
  | false=>rw[hx] at h';exact absurd (show false=true from h') (by decide)
  | true =>
   rw[hx] at h'
   cases k with
   | zero =>
    simp at hp;subst hp
    rw[Nat.add_zero]
    simpa using hx
   | succ k =>
    have:=ih h' k p (by simpa using hp)
    rwa [show Nat.succ i+k=i+(k+1) by omega] at this
theorem drawOk_ok {ops:Array Oper} {A:List Nat} : ∀ {l:List Oper} {i:Nat} {done:List Oper},done.length=i→drawOk ops ops.toList A l i done=true→∀ k o,l[k]?=some o →
  (∀ e∈o.after.toList,Region.binds .any e=true→e.on<i+k)∧∀ j p,(done++l.take k)[j]?=some p→bit ((nth A (i+k)).getD 0) j=true∨Oper.apart ops p o=true:=by
 intro l
 induction l with
 | nil=>intro i done _ _ k o ho;exact absurd ho (by simp)
 | cons q l ih =>
  intro i done hd h k o ho
  have h':sel (and (edgesOk i q.after.toList) (apartAll ops q ((nth A i).getD 0) done 0)) (drawOk ops ops.toList A l (Nat.succ i) (app done [q])) false=true:=h
  cases hx:and (edgesOk i q.after.toList) (apartAll ops q ((nth A i).getD 0) done 0) with
  | false=>rw[hx] at h';exact absurd (show false=true from h') (by decide)
  | true =>
   rw[hx] at h'
   obtain⟨h1,h2⟩:=and2 hx
   cases k with
   | zero =>
    simp at ho;subst ho
    refine⟨fun e he hb=>by rw[Nat.add_zero];exact edgesOk_ok h1 e he hb,fun j p hp=>?_⟩
    simp at hp
    have:=apartAll_ok h2 j p hp
    rwa [Nat.zero_add] at this
   | succ k =>
    rw[app_eq] at h'
    have:=ih (by simp[hd]) h' k o (by simpa using ho)
    rw[show Nat.succ i+k=i+(k+1) by omega] at this
    refine⟨this.1,fun j p hp=>this.2 j p ?_⟩
    simpa using hp
theorem region_checks {ops:Array Oper} (h:drawOk ops ops.toList (ancs ops.toList []) ops.toList 0 []=true):(∀ i o,ops[i]?=some o→∀ e∈o.after.toList,Region.binds .any e=true→e.on<i) ∧
  ∀ i j o p,ops[i]?=some o→ops[j]?=some p→j<i→bit (anc ops i) j=true∨Oper.apart ops p o=true:=by
 have key:=drawOk_ok (i:=0) (done:=[]) rfl h
 refine⟨fun i o ho e he hb=>?_,fun i j o p ho hp hj=>?_⟩
 ·have:=(key i o (by simpa using ho)).1 e he hb
  rwa [Nat.zero_add] at this
 ·have:=(key i o (by simpa using ho)).2 j p (by rw[List.nil_append,List.getElem?_take_of_lt hj];simpa using hp)
  rwa [Nat.zero_add] at this
theorem dRun_states {P:Program} {ih:K} {ops:Array Oper} {n:Nat} {A:List Nat} : ∀ {l:List Oper} {i:Nat} {s s':Ds},dRun P ih ops n A l i s=some s' →
  ∃ T:Nat→Ds,T i=s∧(∀ k o,l[k]?=some o→dStep P ih ops n (i+k) ((nth A (i+k)).getD 0) o (T (i+k))=some (T (i+k+1)))∧T (i+l.length)=s':=by
 intro l
 induction l with
 | nil=>intro i s s' h;injection (show some s=some s' from h) with h;subst h;exact⟨fun _=>s,rfl,fun k o ho=>absurd ho (by simp),rfl⟩
 | cons o l ih0 =>
  intro i s s' h
  obtain⟨s1,h1,h2⟩:=bnd_some (show bnd (dStep P ih ops n i ((nth A i).getD 0) o s) (fun s=>dRun P ih ops n A l (Nat.succ i) s)=some s' from h)
  obtain⟨T,t1,t2,t3⟩:=ih0 h2
  refine⟨fun k=>if k≤i then s else T k,by simp,fun k p hp=>?_,?_⟩
  ·cases k with
   | zero =>
    simp at hp;subst hp
    simp only[Nat.add_zero,Nat.le_refl,if_true]
    rw[if_neg (by omega)]
    rw[h1];exact congrArg some t1.symm
   | succ k =>
    have:=t2 k p (by simpa using hp)
    have e1:(if i+(k+1)≤i then s else T (i+(k+1)))=T (i+(k+1)):=if_neg (by omega)
    have e2:(if i+(k+1)+1≤i then s else T (i+(k+1)+1))=T (i+(k+1)+1):=if_neg (by omega)
    show dStep P ih ops n (i+(k+1)) ((nth A (i+(k+1))).getD 0) p (if i+(k+1)≤i then s else T (i+(k+1)))=some (if i+(k+1)+1≤i then s else T (i+(k+1)+1))
    rw[e1,e2]
    rwa [show Nat.succ i+k=i+(k+1) by omega] at this
  ·have e:i+(o :: l).length=Nat.succ i+l.length:=by simp only[List.length_cons];omega
   rw[e]
   show (if Nat.succ i+l.length≤i then s else T (Nat.succ i+l.length))=s'
   rw[if_neg (by omega)]
   exact t3
theorem slot_only (tm:Tr AV):∀ (l:List Tmp) (t:Nat),slot (only l tm) t=if t∈l then slot tm t else .tuple []:=by
 intro l
 induction l with
 | nil=>intro t;simp[only,slot,getP_leaf]
 | cons a l ih =>
  intro t
  have hs:only (a :: l) tm=setP (getP (pos (Nat.succ a)) tm) (pos (Nat.succ a)) (only l tm):=rfl
  have ih':=ih t
  unfold slot at ih' ⊢
  rw[hs]
  by_cases h:t=a
  ·subst h;rw[getP_setP_same];simp
  ·rw[getP_setP_other _ _ _ _ fun e=>h (by have:=pos_inj e;omega),ih']
   simp[h]
theorem df_only (tm:Tr AV):∀ (l:List Tmp),getP .h (only l tm)=none:=by
 intro l
 induction l with
 | nil=>exact getP_leaf _
 | cons a l ih =>
  have hs:only (a :: l) tm=setP (getP (pos (Nat.succ a)) tm) (pos (Nat.succ a)) (only l tm):=rfl
  rw[hs,getP_setP_other _ _ _ _ (Ne.symm (pos_succ_ne a))]
  exact ih
end Go.Proofs.YtbdbhdcbdfbnnaaGreatDoor.Ev
set_option linter.unusedVariables false
set_option linter.unusedSimpArgs false
namespace Go.Proofs.YtbdbhdcbdfbnnaaGreatDoor.Ev
noncomputable def qAt (ops:Array Oper) (T:Nat→Ds) (i:Nat) (o:Oper):Tr AV:=only (Oper.looksAt ops o) (T i).tm
structure Run (P:Program) (ih:K) (ops:Array Oper) (n:Nat) (tm:Tr AV) (hp:Hp) (nx:Nat) (T:Nat→Ds):Prop where
 start:T 0 = { tm,hp,pend:=[],nx,hist:=[],chs:=[],wa:=[] }
 step:∀ i o,ops[i]?=some o→dStep P ih ops n i (anc ops i) o (T i)=some (T (i+1))
 edges:∀ i o,ops[i]?=some o→∀ e∈o.after.toList,Region.binds .any e=true→e.on<i
 pairs:∀ i j o p,ops[i]?=some o→ops[j]?=some p→j<i→bit (anc ops i) j=true∨Oper.apart ops p o=true
def isK (ops:Array Oper) (T:Nat→Ds) (c:Cl) (i:Nat):Prop:=∃ o,ops[i]?=some o∧wanted? ops o.guard (qAt ops T i o)=some true∧clOf o.op=c
section
variable {P : Program} {ih : K} {ops : Array Oper} {n nx : Nat} {tm : Tr AV} {hp : Hp} {T : Nat → Ds}
inductive Stp (P:Program) (ih:K) (ops:Array Oper) (T:Nat→Ds) (i:Nat) (o:Oper):AV→Prop
 | no (hw:wanted? ops o.guard (qAt ops T i o)=some false) (hT:T (i+1) = { T i with tm:=setT o.dst (.tuple []) (T i).tm }):Stp P ih ops T i o (.tuple [])
 | pure (v:AV) (hp':Hp) (nx':Nat) (hw:wanted? ops o.guard (qAt ops T i o)=some true) (hc:clOf o.op=.pure) (hX:opX o.op P (qAt ops T i o) .leaf 0=.ok v hp' nx') (hT:T (i+1) = { T i with tm:=setT o.dst v (T i).tm }):Stp P ih ops T i o v
 | calm (v:AV) (hp':Hp) (nx':Nat) (hw:wanted? ops o.guard (qAt ops T i o)=some true) (hc:clOf o.op=.calm)
   (hX:∃ f args,opX o.op P (qAt ops T i o) .leaf (T i).nx=.call f args∧ih (.call f args) .leaf 0 .leaf (T i).nx=.value v hp' nx'∧lowAs 0 args=true∧lowA 0 v=true) (hT:T (i+1) = { T i with tm:=setT o.dst v (T i).tm }):Stp P ih ops T i o v
 | make (v:AV) (hp':Hp) (nx':Nat) (b:Blk) (hw:wanted? ops o.guard (qAt ops T i o)=some true) (hc:clOf o.op=.make) (hX:opX o.op P (qAt ops T i o) .leaf (T i).nx=.ok v hp' nx') (hb:getB hp' (T i).nx=some b)
   (hT:T (i+1) = { T i with tm:=setT o.dst v (T i).tm,pend:=(i,(T i).nx,b) :: (T i).pend,nx:=Nat.succ (T i).nx }):Stp P ih ops T i o v
 | read (v:AV) (hp':Hp) (nx':Nat) (hw:wanted? ops o.guard (qAt ops T i o)=some true) (hc:clOf o.op=.read) (hX:opX o.op P (qAt ops T i o) (T i).hp 0=.ok v hp' nx') (hk:backOk P o (qAt ops T i o) v (anc ops i) (T i).chs (T i).hist=true)
   (hT:T (i+1) = { T i with tm:=setT o.dst v (T i).tm,wa:=⟨i,o,qAt ops T i o,v,(T i).nx⟩ :: (T i).wa }):Stp P ih ops T i o v
 | chain (v:AV) (hp':Hp) (nx':Nat) (hw:wanted? ops o.guard (qAt ops T i o)=some true) (hc:clOf o.op=.chain) (h1:inAll (anc ops i) (T i).chs=true) (h2:inAll (anc ops i) (pendIdx (T i).pend)=true)
   (hX:opX o.op P (qAt ops T i o) (unpend (T i).pend (T i).hp) (T i).nx=.ok v hp' nx'∨∃ f args,opX o.op P (qAt ops T i o) (unpend (T i).pend (T i).hp) (T i).nx=.call f args∧ih (.call f args) .leaf 0 (unpend (T i).pend (T i).hp) (T i).nx=.value v hp' nx')
   (hn:(T i).nx≤nx') (hwa:waOk P (anc ops i) hp' (T i).wa=true)
   (hT:T (i+1) = { tm:=setT o.dst v (T i).tm,hp:=hp',pend:=[],nx:=nx',hist:=(T i).hp :: (T i).hist,chs:=i :: (T i).chs,wa:=(T i).wa }):Stp P ih ops T i o v
theorem Run.cases (R:Run P ih ops n tm hp nx T) {i:Nat} {o:Oper} (ho:ops[i]?=some o):dstOk o.dst n=true∧∃ v,Stp P ih ops T i o v:=by
 have h:=R.step i o ho
 unfold dStep at h
 obtain⟨h1,h2⟩:=sel_none h
 obtain⟨t,h3,h4⟩:=bnd_some h2
 refine⟨h1,?_⟩
 cases t with
 | false =>
  injection (show some _=some (T (i+1)) from h4) with h4
  exact⟨_,.no h3 h4.symm⟩
 | true =>
  have h5:dDo P ih i (anc ops i) o (qAt ops T i o) (T i)=some (T (i+1)):=h4
  unfold dDo at h5
  cases hc:clOf o.op with
  | pure =>
   rw[hc] at h5
   have h6:dPure P o (qAt ops T i o) (T i)=some (T (i+1)):=h5
   unfold dPure at h6
   split at h6
   ·rename_i v hp' nx' hX;injection h6 with h6;exact⟨v,.pure v hp' nx' h3 hc hX h6.symm⟩
   ·exact absurd h6 (by simp)
  | calm =>
   rw[hc] at h5
   have h6:dCalm P ih o (qAt ops T i o) (T i)=some (T (i+1)):=h5
   unfold dCalm at h6
   split at h6
   ·rename_i f args hX
    split at h6
    ·rename_i v hp' nx' hv
     obtain⟨h7,h8⟩:=sel_none h6
     obtain⟨h9,h10⟩:=and2 h7
     injection h8 with h8
     exact⟨v,.calm v hp' nx' h3 hc ⟨f,args,hX,hv,h9,h10⟩ h8.symm⟩
    ·exact absurd h6 (by simp)
   ·exact absurd h6 (by simp)
  | make =>
   rw[hc] at h5
   have h6:dMake P i o (qAt ops T i o) (T i)=some (T (i+1)):=h5
   unfold dMake at h6
   split at h6
   ·rename_i v hp' nx' hX
    obtain⟨b,h7,h8⟩:=bnd_some h6
    injection h8 with h8
    exact⟨v,.make v hp' nx' b h3 hc hX h7 h8.symm⟩
   ·exact absurd h6 (by simp)
  | read =>
   rw[hc] at h5
   have h6:dRead P i (anc ops i) o (qAt ops T i o) (T i)=some (T (i+1)):=h5
   unfold dRead at h6
   split at h6
   ·rename_i v hp' nx' hX
    obtain⟨h7,h8⟩:=sel_none h6
    injection h8 with h8
    exact⟨v,.read v hp' nx' h3 hc hX h7 h8.symm⟩
   ·exact absurd h6 (by simp)
  | chain =>
   rw[hc] at h5
   have h6:dChainS P ih i (anc ops i) o (qAt ops T i o) (T i)=some (T (i+1)):=h5
   unfold dChainS at h6
   obtain⟨h7,h8⟩:=sel_none h6
   obtain⟨h9,h10⟩:=and2 h7
   have fin:∀ {v hp' nx'},dChain P i (anc ops i) o (T i) v hp' nx'=some (T (i+1))→(T i).nx≤nx'∧waOk P (anc ops i) hp' (T i).wa=true ∧
     T (i+1) = { tm:=setT o.dst v (T i).tm,hp:=hp',pend:=[],nx:=nx',hist:=(T i).hp :: (T i).hist,chs:=i :: (T i).chs,wa:=(T i).wa }:=by
    intro v hp' nx' h
    obtain⟨q1,q2⟩:=sel_none h
    obtain⟨q3,q4⟩:=and2 q1
    injection q2 with q2
    exact⟨ble_le q3,q4,q2.symm⟩
   cases hX:opX o.op P (qAt ops T i o) (unpend (T i).pend (T i).hp) (T i).nx with
   | ok v hp' nx' =>
    rw[hX] at h8
    obtain⟨q1,q2,q3⟩:=fin (show dChain P i (anc ops i) o (T i) v hp' nx'=some (T (i+1)) from h8)
    exact⟨v,.chain v hp' nx' h3 hc h9 h10 (.inl hX) q1 q2 q3⟩
   | call f args =>
    rw[hX] at h8
    have h11:(match ih (.call f args) .leaf 0 (unpend (T i).pend (T i).hp) (T i).nx with | .value v hp nx=>dChain P i (anc ops i) o (T i) v hp nx | _=>none)=some (T (i+1)):=h8
    split at h11
    ·rename_i v hp' nx' hv
     obtain⟨q1,q2,q3⟩:=fin h11
     exact⟨v,.chain v hp' nx' h3 hc h9 h10 (.inr ⟨f,args,hX,hv⟩) q1 q2 q3⟩
    ·exact absurd h11 (by simp)
   | no=>rw[hX] at h8;exact absurd (show none=some (T (i+1)) from h8) (by simp)
theorem isK_no {c:Cl} {i:Nat} {o:Oper} (ho:ops[i]?=some o) (hw:wanted? ops o.guard (qAt ops T i o)=some false):¬ isK ops T c i:=fun ⟨o',h1,h2,_⟩=>by
 rw[ho] at h1;injection h1 with h1;subst h1;rw[hw] at h2;exact absurd h2 (by simp)
theorem isK_iff {c c':Cl} {i:Nat} {o:Oper} (ho:ops[i]?=some o) (hw:wanted? ops o.guard (qAt ops T i o)=some true) (hc:clOf o.op=c'):isK ops T c i↔c'=c:=by
 constructor
 ·rintro ⟨o',h1,h2,h3⟩;rw[ho] at h1;injection h1 with h1;subst h1;rw[hc] at h3;exact h3
 ·intro h;exact⟨o,ho,hw,by rw[hc,h]⟩
theorem Stp.tm_eq {i:Nat} {o:Oper} {v:AV} (h:Stp P ih ops T i o v):(T (i+1)).tm=setT o.dst v (T i).tm:=by
 cases h with
 | no hw hT=>rw[hT]
 | pure _ _ _ hw hc hX hT=>rw[hT]
 | calm _ _ _ hw hc hX hT=>rw[hT]
 | make _ _ _ _ hw hc hX hb hT=>rw[hT]
 | read _ _ _ hw hc hX hk hT=>rw[hT]
 | chain _ _ _ hw hc h1 h2 hX hn hwa hT=>rw[hT]
theorem Stp.nx_le {i:Nat} {o:Oper} {v:AV} (h:Stp P ih ops T i o v):(T i).nx≤(T (i+1)).nx:=by
 cases h with
 | no hw hT=>rw[hT];exact Nat.le_refl _
 | pure _ _ _ hw hc hX hT=>rw[hT];exact Nat.le_refl _
 | calm _ _ _ hw hc hX hT=>rw[hT];exact Nat.le_refl _
 | make _ _ _ _ hw hc hX hb hT=>rw[hT];exact Nat.le_succ _
 | read _ _ _ hw hc hX hk hT=>rw[hT];exact Nat.le_refl _
 | chain _ _ _ hw hc h1 h2 hX hn hwa hT=>rw[hT];exact hn
theorem Run.nx_le (R:Run P ih ops n tm hp nx T) {i:Nat} (hi:i<ops.size):(T i).nx≤(T (i+1)).nx:=by
 obtain⟨_,v,h⟩:=R.cases (Array.getElem?_eq_getElem hi)
 exact h.nx_le
theorem Run.nx_mono (R : Run P ih ops n tm hp nx T) {i j : Nat} (hij : i ≤ j) (hj : j ≤ ops.size) : (T i).nx ≤ (T j).nx := by
  induction j with
  | zero => have : i = 0 := by omega
            subst this; exact Nat.le_refl _
  | succ j ihj =>
    by_cases h : i = j + 1
    · subst h; exact Nat.le_refl _
    · exact Nat.le_trans (ihj (by omega) (by omega)) (R.nx_le (by omega))
theorem Run.before (R:Run P ih ops n tm hp nx T):∀ i,i≤ops.size→(∀ j,j<i→isK ops T .chain j→j∈(T i).chs)∧(∀ j,j<i→isK ops T .make j→j∈pendIdx (T i).pend∨∃ c,c<i∧isK ops T .chain c∧bit (anc ops c) j=true):=by
 intro i
 induction i with
 | zero=>intro _;exact⟨fun j h=>absurd h (by omega),fun j h=>absurd h (by omega)⟩
 | succ i ihi =>
  intro hi
  obtain⟨h1,h2⟩:=ihi (by omega)
  have ho:ops[i]?=some ops[i]:=Array.getElem?_eq_getElem (by omega)
  obtain⟨_,v,hS⟩:=R.cases ho
  have lift:∀ j,(j∈pendIdx (T i).pend∨∃ c,c<i∧isK ops T .chain c∧bit (anc ops c) j=true)→(∀ k∈pendIdx (T i).pend,k∈pendIdx (T (i+1)).pend∨∃ c,c<i+1∧isK ops T .chain c∧bit (anc ops c) k=true) →
    j∈pendIdx (T (i+1)).pend∨∃ c,c<i+1∧isK ops T .chain c∧bit (anc ops c) j=true:=by
   intro j h hh
   rcases h with h | ⟨c,c1,c2,c3⟩
   ·exact hh j h
   ·exact .inr ⟨c,by omega,c2,c3⟩
  cases hS with
  | no hw hT =>
   refine⟨fun j hj hk=>?_,fun j hj hk=>?_⟩
   ·by_cases e:j=i
    ·subst e;exact absurd hk (isK_no ho hw)
    ·rw[hT];exact h1 j (by omega) hk
   ·by_cases e:j=i
    ·subst e;exact absurd hk (isK_no ho hw)
    ·exact lift j (h2 j (by omega) hk) fun k hk=>.inl (by rw[hT];exact hk)
  | pure _ _ _ hw hc hX hT =>
   refine⟨fun j hj hk=>?_,fun j hj hk=>?_⟩
   ·by_cases e:j=i
    ·subst e;exact absurd ((isK_iff ho hw hc).1 hk) (by simp)
    ·rw[hT];exact h1 j (by omega) hk
   ·by_cases e:j=i
    ·subst e;exact absurd ((isK_iff ho hw hc).1 hk) (by simp)
    ·exact lift j (h2 j (by omega) hk) fun k hk=>.inl (by rw[hT];exact hk)
  | calm _ _ _ hw hc hX hT =>
   refine⟨fun j hj hk=>?_,fun j hj hk=>?_⟩
   ·by_cases e:j=i
    ·subst e;exact absurd ((isK_iff ho hw hc).1 hk) (by simp)
    ·rw[hT];exact h1 j (by omega) hk
   ·by_cases e:j=i
    ·subst e;exact absurd ((isK_iff ho hw hc).1 hk) (by simp)
    ·exact lift j (h2 j (by omega) hk) fun k hk=>.inl (by rw[hT];exact hk)
  | make _ _ _ b hw hc hX hb hT =>
   refine⟨fun j hj hk=>?_,fun j hj hk=>?_⟩
   ·by_cases e:j=i
    ·subst e;exact absurd ((isK_iff ho hw hc).1 hk) (by simp)
    ·rw[hT];exact h1 j (by omega) hk
   ·by_cases e:j=i
    ·subst e;rw[hT];exact .inl (by rw[pendIdx_eq];exact List.mem_cons_self)
    ·exact lift j (h2 j (by omega) hk) fun k hk=>.inl (by rw[hT,pendIdx_eq];rw[pendIdx_eq] at hk;exact List.mem_cons_of_mem _ hk)
  | read _ _ _ hw hc hX hk' hT =>
   refine⟨fun j hj hk=>?_,fun j hj hk=>?_⟩
   ·by_cases e:j=i
    ·subst e;exact absurd ((isK_iff ho hw hc).1 hk) (by simp)
    ·rw[hT];exact h1 j (by omega) hk
   ·by_cases e:j=i
    ·subst e;exact absurd ((isK_iff ho hw hc).1 hk) (by simp)
    ·exact lift j (h2 j (by omega) hk) fun k hk=>.inl (by rw[hT];exact hk)
  | chain _ _ _ hw hc g1 g2 hX hn hwa hT =>
   refine⟨fun j hj hk=>?_,fun j hj hk=>?_⟩
   ·rw[hT]
    by_cases e:j=i
    ·subst e;exact List.mem_cons_self
    ·exact List.mem_cons_of_mem _ (h1 j (by omega) hk)
   ·by_cases e:j=i
    ·subst e;exact absurd ((isK_iff ho hw hc).1 hk) (by simp)
    ·exact lift j (h2 j (by omega) hk) fun k hk=>.inr ⟨i,by omega,(isK_iff ho hw hc).2 rfl,inAll_ok g2 k hk⟩
theorem Run.chain_all (R:Run P ih ops n tm hp nx T) {L:Nat→Bool} (hc:Closed ops L) {c:Nat} (hcc:isK ops T .chain c) (ha:∀ j,bit (anc ops c) j=true→L j=true):∀ j,j<c→(isK ops T .make j∨isK ops T .chain j)→L j=true:=by
 obtain⟨o,ho,hw,hcl⟩:=hcc
 have hlt:c<ops.size:=(Array.getElem?_eq_some_iff.1 ho).1
 obtain⟨b1,b2⟩:=R.before c (by omega)
 obtain⟨_,v,hS⟩:=R.cases ho
 cases hS with
 | no hw' hT=>rw[hw] at hw';exact absurd hw' (by simp)
 | pure _ _ _ hw' hc' hX hT=>rw[hcl] at hc';exact absurd hc' (by simp)
 | calm _ _ _ hw' hc' hX hT=>rw[hcl] at hc';exact absurd hc' (by simp)
 | make _ _ _ _ hw' hc' hX hb hT=>rw[hcl] at hc';exact absurd hc' (by simp)
 | read _ _ _ hw' hc' hX hk hT=>rw[hcl] at hc';exact absurd hc' (by simp)
 | chain _ _ _ hw' hc' g1 g2 hX hn hwa hT =>
  have hch:∀ j,j<c→isK ops T .chain j→L j=true:=fun j hj hk=>ha j (inAll_ok g1 j (b1 j hj hk))
  intro j hj hk
  rcases hk with hk | hk
  ·rcases b2 j hj hk with h | ⟨c',q1,q2,q3⟩
   ·exact ha j (inAll_ok g2 j h)
   ·exact closed_anc' hc (hch c' q1 q2) q3
  ·exact hch j hj hk
end
def headB (l:List (Nat×Nat×Blk)):Blk:=match l with | p :: _=>p.2.2 | []=>.map [] false
open Classical in
noncomputable def hd (ops:Array Oper) (hp:Hp) (T:Nat→Ds) (L:Nat→Bool):Nat→H
 | 0=>getB hp
 | i+1=>if L i=true∧isK ops T .chain i then getB (T (i+1)).hp
  else if L i=true∧isK ops T .make i then putH (hd ops hp T L i) (T i).nx (headB (T (i+1)).pend) else hd ops hp T L i
open Classical in
noncomputable def lc (ops:Array Oper) (T:Nat→Ds) (L:Nat→Bool):Nat→Nat
 | 0=>0
 | i+1=>if L i=true∧isK ops T .chain i then i+1 else lc ops T L i
open Classical in
noncomputable def lw (ops:Array Oper) (L:Nat→Bool) (t:Tmp):Nat→Nat
 | 0=>0
 | i+1=>if L i=true∧(ops[i]?).bind (·.dst)=some t then i+1 else lw ops L t i
section
variable {P : Program} {ih : K} {ops : Array Oper} {n nx : Nat} {tm : Tr AV} {hp : Hp} {T : Nat → Ds} {L : Nat → Bool}
theorem lw_spec (t:Tmp):∀ k,lw ops L t k≤k∧(∀ b,lw ops L t k=b+1→L b=true∧(ops[b]?).bind (·.dst)=some t)∧∀ j,lw ops L t k≤j→j<k→¬ (L j=true∧(ops[j]?).bind (·.dst)=some t):=by
 intro k
 induction k with
 | zero=>exact⟨Nat.le_refl _,fun b h=>absurd h (by simp[lw]),fun j h1 h2=>absurd h2 (by omega)⟩
 | succ k ihk =>
  unfold lw
  split
  ·rename_i h
   exact⟨Nat.le_refl _,fun b hb=>by injection hb with hb;subst hb;exact h,fun j h1 h2=>absurd h2 (by omega)⟩
  ·rename_i h
   refine⟨by omega,ihk.2.1,fun j h1 h2=>?_⟩
   by_cases e:j=k
   ·subst e;exact h
   ·exact ihk.2.2 j h1 (by omega)
theorem lc_spec:∀ k,lc ops T L k≤k∧(∀ b,lc ops T L k=b+1→L b=true∧isK ops T .chain b)∧∀ j,lc ops T L k≤j→j<k→¬ (L j=true∧isK ops T .chain j):=by
 intro k
 induction k with
 | zero=>exact⟨Nat.le_refl _,fun b h=>absurd h (by simp[lc]),fun j h1 h2=>absurd h2 (by omega)⟩
 | succ k ihk =>
  unfold lc
  split
  ·rename_i h
   exact⟨Nat.le_refl _,fun b hb=>by injection hb with hb;subst hb;exact h,fun j h1 h2=>absurd h2 (by omega)⟩
  ·rename_i h
   refine⟨by omega,ihk.2.1,fun j h1 h2=>?_⟩
   by_cases e:j=k
   ·subst e;exact h
   ·exact ihk.2.2 j h1 (by omega)
theorem hd_congr {L':Nat→Bool} : ∀ k,(∀ j,j<k→(isK ops T .make j∨isK ops T .chain j)→L j=L' j)→hd ops hp T L k=hd ops hp T L' k:=by
 intro k
 induction k with
 | zero=>intro _;rfl
 | succ k ihk =>
  intro h
  have ih':=ihk fun j hj=>h j (by omega)
  unfold hd
  by_cases h1:isK ops T .chain k
  ·rw[h k (by omega) (.inr h1),ih']
  ·by_cases h2:isK ops T .make k
   ·rw[h k (by omega) (.inl h2),ih']
   ·simp only[h1,h2,and_false,if_false,ih']
theorem hd_text (R:Run P ih ops n tm hp nx T):∀ i,i≤ops.size→getB (unpend (T i).pend (T i).hp)=hd ops hp T (fun _=>true) i:=by
 intro i
 induction i with
 | zero=>intro _;rw[R.start];rfl
 | succ i ihi =>
  intro hi
  have ho:ops[i]?=some ops[i]:=Array.getElem?_eq_getElem (by omega)
  obtain⟨_,v,hS⟩:=R.cases ho
  have ih':=ihi (by omega)
  unfold hd
  cases hS with
  | no hw hT=>rw[if_neg fun h=>isK_no ho hw h.2,if_neg fun h=>isK_no ho hw h.2,← ih',hT]
  | pure _ _ _ hw hc hX hT=>rw[if_neg fun h=>absurd ((isK_iff ho hw hc).1 h.2) (by simp),if_neg fun h=>absurd ((isK_iff ho hw hc).1 h.2) (by simp),← ih',hT]
  | calm _ _ _ hw hc hX hT=>rw[if_neg fun h=>absurd ((isK_iff ho hw hc).1 h.2) (by simp),if_neg fun h=>absurd ((isK_iff ho hw hc).1 h.2) (by simp),← ih',hT]
  | make _ _ _ b hw hc hX hb hT =>
   rw[if_neg fun h=>absurd ((isK_iff ho hw hc).1 h.2) (by simp),if_pos ⟨rfl,(isK_iff ho hw hc).2 rfl⟩,← ih',hT]
   show getB (setB (some b) (T i).nx (unpend (T i).pend (T i).hp))=_
   rw[getB_put]
   rfl
  | read _ _ _ hw hc hX hk hT=>rw[if_neg fun h=>absurd ((isK_iff ho hw hc).1 h.2) (by simp),if_neg fun h=>absurd ((isK_iff ho hw hc).1 h.2) (by simp),← ih',hT]
  | chain _ _ _ hw hc g1 g2 hX hn hwa hT=>rw[if_pos ⟨rfl,(isK_iff ho hw hc).2 rfl⟩,hT];rfl
theorem hd_low (R : Run P ih ops n tm hp nx T) {i : Nat} {b : Nat} (hb : b < (T i).nx) : ∀ j, i ≤ j → j ≤ ops.size → (∀ k, i ≤ k → k < j → ¬ (L k = true ∧ isK ops T .chain k)) → hd ops hp T L j b = hd ops hp T L i b := by
  intro j
  induction j with
  | zero => intro h1 _ _; have : i = 0 := by omega
            subst this; rfl
  | succ j ihj =>
    intro h1 h2 h3
    by_cases e : i = j + 1
    · subst e; rfl
    · have := ihj (by omega) (by omega) fun k q1 q2 => h3 k q1 (by omega)
      rw [← this]
      conv => lhs; unfold hd
      rw [if_neg (h3 j (by omega) (by omega))]
      split
      · have hle := R.nx_mono (show i ≤ j by omega) (by omega)
        unfold putH
        rw [if_neg (by omega)]
      · rfl
theorem hd_dom (R:Run P ih ops n tm hp nx T) (h0:∀ b k,getB hp b=some k→b<nx) (hl:∀ c,L c=true→isK ops T .chain c→∀ b k,getB (T (c+1)).hp b=some k→b<(T (c+1)).nx) :
  ∀ i,i≤ops.size→∀ b k,hd ops hp T L i b=some k→b<(T i).nx:=by
 intro i
 induction i with
 | zero=>intro _ b k h;rw[R.start];exact h0 b k h
 | succ i ihi =>
  intro hi b k h
  have hle:=R.nx_le (show i<ops.size by omega)
  unfold hd at h
  split at h
  ·rename_i hq;exact hl i hq.1 hq.2 b k h
  ·split at h
   ·rename_i hq
    unfold putH at h
    split at h
    ·rename_i e
     obtain⟨o,ho,hw,hc⟩:=hq.2
     obtain⟨_,v,hS⟩:=R.cases ho
     cases hS with
     | no hw' hT=>rw[hw] at hw';exact absurd hw' (by simp)
     | pure _ _ _ hw' hc' hX hT=>rw[hc] at hc';exact absurd hc' (by simp)
     | calm _ _ _ hw' hc' hX hT=>rw[hc] at hc';exact absurd hc' (by simp)
     | make _ _ _ _ hw' hc' hX hb hT=>rw[hT,e];exact Nat.lt_succ_self _
     | read _ _ _ hw' hc' hX hk hT=>rw[hc] at hc';exact absurd hc' (by simp)
     | chain _ _ _ hw' hc' _ _ hX hn hwa hT=>rw[hc] at hc';exact absurd hc' (by simp)
    ·exact Nat.lt_of_lt_of_le (ihi (by omega) b k h) hle
   ·exact Nat.lt_of_lt_of_le (ihi (by omega) b k h) hle
end
end Go.Proofs.YtbdbhdcbdfbnnaaGreatDoor.Ev
