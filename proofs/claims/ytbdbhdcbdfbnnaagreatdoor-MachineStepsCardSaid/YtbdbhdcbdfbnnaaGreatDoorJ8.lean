/- The evaluator: code in a round of a range over a function. The evaluator: what it says is so. The evaluator: ranges over functions. The evaluator: calls that are known. The deferred function of names.Resolve, where nothing went wrong. -/
import Derived.TacticsIn
import Derived.Test.YtbdbhdcbdfbnnaaGreatDoorChecked
import Derived.Recover
import Derived.Test.YtbdbhdcbdfbnnaaGreatDoorJ6
import Derived.Test.YtbdbhdcbdfbnnaaGreatDoorJ7
set_option linter.unusedVariables false
set_option linter.unusedSimpArgs false
set_option linter.unusedVariables false
set_option linter.unusedSimpArgs false
namespace Go.Proofs.YtbdbhdcbdfbnnaaGreatDoor.Ev
section
variable {P : Program} {r : Rho} {n : Nat} {tm : Tr AV} {a : Act} {w : World} {hp : Hp} {nx : Nat} {ih : K} {l : Nat}
theorem upon_in {o:Oper} {next:Act→World→Prop} {Q:Exit→Act→World→Prop} {q:Result Next} (h:o.upon P a next Q q):o.uponIn (Fence.wide.inRound l) 0 P a next Q q:=by
 cases q with
 | ok x w' =>
  cases x with
  | value v=>exact h
  | skip=>exact h
  | defer d=>exact h
  | enter f args=>exact⟨fun h=>absurd h (by simp[Fence.wide,Fence.inRound]),(callsIn_wide.2 h).inRound l⟩
  | row s args=>exact⟨fun h=>absurd h (by simp[Fence.wide,Fence.inRound]),fun c cs _=>let ⟨v,w',q1,q2⟩:=h c cs;⟨v,w',q1,stepsIn_wide.2 q2⟩⟩
  | _=>exact h.elim
 | halt x w'=>cases x <;> exact h
theorem oper_in {o:Oper} {next:Act→World→Prop} {Q:Exit→Act→World→Prop} (hnd:∀ c,o.op≠.defer c) (h:o.wp P a w next Q):o.wpIn (Fence.wide.inRound l) 0 P a w next Q:=by
 refine⟨fun _ _=>trivial,?_⟩
 show o.uponIn _ 0 P a next Q ((o.semAt (some l) a.eval).run P w)
 rw[Oper.semAt_some _ _ _ hnd]
 exact upon_in h
theorem noDf_ok {ops:Array Oper} (h:noDf ops=true):∀ o∈ops.toList,∀ c,o.op≠.defer c:=by
 unfold noDf at h
 generalize ops.toList=L at h
 induction L with
 | nil=>intro o ho;exact absurd ho (by simp)
 | cons p L ihl =>
  intro o ho c hc
  have h':(match p.op with | .defer _=>false | _=>(List.rec (motive:=fun _=>Bool) true (fun o _ r=>match o.op with | .defer _=>false | _=>r) L:Bool))=true:=h
  rcases List.mem_cons.1 ho with e | e
  ·subst e;rw[hc] at h';exact absurd (show false=true from h') (by decide)
  ·refine ihl ?_ o e c hc
   cases hp:p.op <;> rw[hp] at h' <;> first | exact h' | exact absurd (show false=true from h') (by decide)
theorem list_in {ops:Array Oper} {Q:Exit→Act→World→Prop} (hQ:¬ LetsOut Q):∀ (L:List Oper),(∀ o∈L,∀ c,o.op≠.defer c)→∀ a w,wpList P ops Q L a w→wpListIn (Fence.wide.inRound l) 0 P ops Q L a w
 | [],_,_,_,h=>h
 | o :: L,hnd,a,w,h=>by
  unfold wpList at h
  unfold wpListIn
  split
  ·rename_i hw
   rw[if_pos hw] at h
   rcases h with h | h
   ·exact Oper.wpIn_mono (list_in hQ L fun o ho=>hnd o (List.mem_cons_of_mem _ ho)) (oper_in (hnd o List.mem_cons_self) h)
   ·exact absurd h.2 hQ
  ·rename_i hw
   rw[if_neg hw] at h
   exact⟨fun _ _=>trivial,list_in hQ L (fun o ho=>hnd o (List.mem_cons_of_mem _ ho)) _ _ h⟩
theorem op_in {ops:Array Oper} {Q:Exit→Act→World→Prop} (hQ:¬ LetsOut Q) (hnd:∀ o∈ops.toList,∀ c,o.op≠.defer c) {i:Nat} {K K':Act→World→Prop} (hK:∀ a w,K a w→K' a w) {a:Act} {w:World} (h:wpOp P ops Q i K a w):wpOpIn (Fence.wide.inRound l) 0 P ops Q i K' a w:=by
 unfold wpOp at h
 unfold wpOpIn
 cases ho:ops[i]? with
 | none=>rw[ho] at h;exact hK _ _ h
 | some o =>
  rw[ho] at h
  dsimp only at h ⊢
  split
  ·rename_i hw
   rw[if_pos hw] at h
   rcases h with h | h
   ·exact Oper.wpIn_mono hK (oper_in (hnd o (Array.mem_toList_iff.2 (Array.mem_of_getElem? ho))) h)
   ·exact absurd h.2 hQ
  ·rename_i hw
   rw[if_neg hw] at h
   exact⟨fun _ _=>trivial,hK _ _ h⟩
theorem any_in {ops:Array Oper} {Q:Exit→Act→World→Prop} (hQ:¬ LetsOut Q) (hnd:∀ o∈ops.toList,∀ c,o.op≠.defer c):∀ (fuel:Nat) (listed:Array Bool) (a:Act) (w:World),
  wpAny P .any ops Q fuel listed a w→wpAnyIn (Fence.wide.inRound l) 0 P .any ops Q fuel listed a w
 | 0,_,_,_,h=>h
 | fuel+1,_,_,_,h=>⟨h.1,fun i hi=>op_in hQ hnd (fun a w h=>any_in hQ hnd fuel _ a w h) (h.2 i hi)⟩
theorem post_out {out:Out} (hgood:out.good=true):¬ LetsOut (Post P r w n out):=by
 rintro ⟨a,w',h⟩
 cases out with
 | norm _ _ _=>exact absurd h.1 (by simp)
 | exit _ _ _ _=>exact absurd h.1 (by simp)
 | ret _ _ _=>exact absurd h.1 (by simp)
 | value _ _ _=>exact absurd (show false=true from hgood) (by decide)
 | fail _=>exact absurd (show false=true from hgood) (by decide)
theorem loopFromR_round {c:Code} {Q:Exit→Act→World→Prop} (h:c.wpIn (Fence.wide.inRound l) 0 P (Exit.then (fun a' w'=>LoopFromR P l c Q a' w') Q) a w):LoopFromR P l c Q a w:=by
 intro b k cs hro
 have hr:(Fence.wide.inRound l).room (cs.length+1+0):=room_wide _
 obtain⟨e,a₁,w₁,hq,harr⟩:=h b (.inLoop c :: k) cs hro trivial hr
 cases e with
 | normal =>
  obtain⟨e₂,a₂,w₂,hq₂,harr₂⟩:=hq b k cs hro
  exact⟨e₂,a₂,w₂,hq₂,.of_steps (StepsIn.trans harr (.one (fenced_calm (F:=Fence.wide.inRound l) (n:=0) trivial hr rfl) stepR_inLoop)) harr₂⟩
 | exit id=>exact⟨_,a₁,w₁,hq,.pass (x:=.inLoop c) rfl (fun _ _=>.inl (by simp)) harr⟩
 | goto l=>exact⟨_,a₁,w₁,hq,.pass (x:=.inLoop c) rfl (fun _ _=>.inl (by simp)) harr⟩
 | ret=>exact⟨_,a₁,w₁,hq,.pass (x:=.inLoop c) rfl (fun _ _=>.inl (by simp)) harr⟩
 | panic ch=>exact⟨_,a₁,w₁,hq,.pass (x:=.inLoop c) rfl (fun _ _=>.inl (by simp)) harr⟩
 | outgrown=>exact⟨_,a₁,w₁,hq,.pass (x:=.inLoop c) rfl (fun _ _=>.inl (by simp)) harr⟩
theorem wpIn_of_loopFromR {c:Code} {Q:Exit→Act→World→Prop} (h:LoopFromR P l c Q a w):(Code.loop c).wpIn (Fence.wide.inRound l) 0 P Q a w:=by
 intro b k cs hro hb hr
 obtain⟨e,a',w',hq,harr⟩:=h b k cs hro
 exact⟨e,a',w',hq,.of_steps (.one (fenced_calm (F:=Fence.wide.inRound l) (n:=0) trivial hr rfl) stepR_loop) harr⟩
theorem seqR_ok {c:Code} {o1:Out} {f:Tr AV→Hp→Nat→Out} {Q:Exit→Act→World→Prop} (ht:TmOk r n tm a) (hg:Glob P r) (g:Gam (getB hp) r w) (hf:Fresh nx r) (h1:CodeOkR P l c tm n hp nx o1)
  (hgood:(onNorm o1 f).good=true) {next:Act→World→Prop}
  (h2:∀ tm' hp' nx' r' a' w',o1=.norm tm' hp' nx'→TmOk r' n tm' a'→Glob P r'→Gam (getB hp') r' w'→Fresh nx' r'→Ext r r' w→Fr r w w'→next a' w')
  (h3:∀ e a' w',Post P r w n (onNorm o1 f) e a' w'→Q e a' w'):c.wpIn (Fence.wide.inRound l) 0 P (Exit.then next Q) a w:=by
 cases o1 with
 | norm tm' hp' nx' =>
  refine Code.wpIn_mono (fun e a' w' hp=>?_) (h1 r w a ht hg g hf rfl)
  obtain⟨rfl,r',q1,q2,q3,q4,q5⟩:=hp
  exact h2 _ _ _ r' a' w' rfl q1 (hg.mono q2.le) q4 q5 q2 q3
 | exit id tm' hp' nx' =>
  refine Code.wpIn_mono (fun e a' w' hp=>?_) (h1 r w a ht hg g hf rfl)
  obtain⟨rfl,hst⟩:=hp
  exact h3 _ _ _ ⟨rfl,hst⟩
 | ret tm' hp' nx' =>
  refine Code.wpIn_mono (fun e a' w' hp=>?_) (h1 r w a ht hg g hf rfl)
  obtain⟨rfl,hst⟩:=hp
  exact h3 _ _ _ ⟨rfl,hst⟩
 | value _ _ _=>exact absurd (show false=true from hgood) (by decide)
 | fail _=>exact absurd (show false=true from hgood) (by decide)
theorem loopR_ok (hk:KOkR P ih) (c:Code) (hc:okC c=true) (tm:Tr AV) (n:Nat) (hp:Hp) (nx:Nat):LoopOkR P l c tm n hp nx (cLoop c ih P tm n hp nx):=by
 intro r w a ht hg g hf hgood
 refine loopFromR_round (seqR_ok (f:=fun tm hp nx=>ih (.code (.loop c)) tm n hp nx) ht hg g hf (hk.code l c tm n hp nx hc) hgood ?_ fun _ _ _ h=>h)
 intro tm' hp' nx' r' a' w' ho ht' hg' g' hf' he hfr
 have hgood':(onNorm (ih (.code c) tm n hp nx) fun tm hp nx=>ih (.code (.loop c)) tm n hp nx).good=true:=hgood
 rw[ho] at hgood'
 have:=hk.loop l c tm' n hp' nx' hc r' w' a' ht' hg' g' hf' hgood'
 intro b k cs hro
 obtain⟨e,a2,w2,q,arr⟩:=this b k cs hro
 refine⟨e,a2,w2,?_,arr⟩
 show Post P r w n (onNorm (ih (.code c) tm n hp nx) fun tm hp nx=>ih (.code (.loop c)) tm n hp nx) e a2 w2
 rw[ho]
 exact Post.trans (tm':=tm') (hp':=hp') (nx':=nx') (a':=a') he hfr q
def DrawOkR (P:Program):Prop:=∀ ih,KOk P ih→∀ l id ops tm n hp nx,noDf ops=true→CodeOkR P l (.region id ops true) tm n hp nx (drawS ops ih P tm n hp nx)
theorem codeR_ok (hk:KOk P ih) (hkr:KOkR P ih) (hd:DrawOkR P) (c:Code) (hc:okC c=true) (tm:Tr AV) (n:Nat) (hp:Hp) (nx:Nat):CodeOkR P l c tm n hp nx (codeS c ih P tm n hp nx):=by
 intro r w a ht hg g hf hgood
 cases c with
 | skip=>exact wpIn_skip ⟨rfl,r,ht,Ext.refl _ _,Fr.refl _ _,g,hf⟩
 | label l=>exact wpIn_label ⟨rfl,r,ht,Ext.refl _ _,Fr.refl _ _,g,hf⟩
 | region id ops draw =>
  have hnd:noDf ops=true:=hc
  cases draw with
  | false=>exact wpIn_region_list (list_in (post_out hgood) _ (noDf_ok hnd) _ _ (opsS_ok hk ops.toList ht hg g hf rfl hgood _ fun _ _ _ h=>h))
  | true=>exact hd ih hk l id ops tm n hp nx hnd r w a ht hg g hf hgood
 | seq x y =>
  obtain⟨c1,c2⟩:=sel_none2 (show sel (okC x) (okC y) false=true from hc)
  refine wpIn_seq (seqR_ok (f:=fun tm hp nx=>ih (.code y) tm n hp nx) ht hg g hf (hkr.code l x tm n hp nx c1) hgood ?_ fun _ _ _ h=>h)
  intro tm' hp' nx' r' a' w' ho ht' hg' g' hf' he hfr
  have hgood':(onNorm (ih (.code x) tm n hp nx) fun tm hp nx=>ih (.code y) tm n hp nx).good=true:=hgood
  rw[ho] at hgood'
  refine Code.wpIn_mono (fun e a2 w2 q=>?_) (hkr.code l y tm' n hp' nx' c2 r' w' a' ht' hg' g' hf' hgood')
  show Post P r w n (onNorm (ih (.code x) tm n hp nx) fun tm hp nx=>ih (.code y) tm n hp nx) e a2 w2
  rw[ho]
  exact Post.trans (tm':=tm') (hp':=hp') (nx':=nx') (a':=a') he hfr q
 | cond c x y =>
  obtain⟨c1,c2⟩:=sel_none2 (show sel (okC x) (okC y) false=true from hc)
  have hgood' : Out.good (Option.rec (motive := fun _ => Out) (.fail "cond") (fun t => ih (.code (sel t x y)) tm n hp nx) (bnd (opnd P c tm) asBool)) = true := hgood
  cases hc:bnd (opnd P c tm) asBool with
  | none=>rw[hc] at hgood';exact absurd (show false=true from hgood') (by decide)
  | some t =>
   rw[hc] at hgood'
   obtain⟨b,h1,h2⟩:=bnd_some hc
   have:=asBool_some h2;subst this
   have hev:=rel_bool.1 (opnd_ok ht hg h1)
   have hcode:=hkr.code l (sel t x y) tm n hp nx (by cases t <;> assumption) r w a ht hg g hf hgood'
   have hout:codeS (.cond c x y) ih P tm n hp nx=ih (.code (sel t x y)) tm n hp nx:=by
    show Option.rec (motive := fun _ => Out) (.fail "cond") (fun t => ih (.code (sel t x y)) tm n hp nx) (bnd (opnd P c tm) asBool) = _
    rw[hc]
   rw[hout]
   refine wpIn_cond hev ?_
   cases t <;> exact hcode
 | block id c =>
  refine wpIn_block ?_
  have hgood':(offBlock id (ih (.code c) tm n hp nx)).good=true:=hgood
  have hcode:=hkr.code l c tm n hp nx hc r w a ht hg g hf
  have hout:codeS (.block id c) ih P tm n hp nx=offBlock id (ih (.code c) tm n hp nx):=rfl
  rw[hout]
  cases ho:ih (.code c) tm n hp nx with
  | norm tm' hp' nx' =>
   rw[ho] at hcode
   refine Code.wpIn_mono (fun e a' w' q=>?_) (hcode rfl)
   obtain⟨rfl,hst⟩:=q
   exact⟨rfl,hst⟩
  | exit j tm' hp' nx' =>
   rw[ho] at hcode
   refine Code.wpIn_mono (fun e a' w' q=>?_) (hcode rfl)
   obtain⟨rfl,hst⟩:=q
   show Exit.inBlock id (Post P r w n (sel (Nat.beq j id) (.norm tm' hp' nx') (.exit j tm' hp' nx'))) (.exit j) a' w'
   unfold Exit.inBlock
   dsimp only
   cases hj:Nat.beq j id with
   | true=>rw[if_pos (beq_eq hj)];exact⟨rfl,hst⟩
   | false =>
    rw[if_neg fun e=>by subst e;rw[Nat.beq_refl] at hj;exact absurd hj (by decide)]
    exact⟨rfl,hst⟩
  | ret tm' hp' nx' =>
   rw[ho] at hcode
   refine Code.wpIn_mono (fun e a' w' q=>?_) (hcode rfl)
   obtain⟨rfl,hst⟩:=q
   exact⟨rfl,hst⟩
  | value _ _ _=>rw[ho] at hgood';exact absurd (show false=true from hgood') (by decide)
  | fail _=>rw[ho] at hgood';exact absurd (show false=true from hgood') (by decide)
 | loop c=>exact wpIn_of_loopFromR (loopR_ok hkr c hc tm n hp nx r w a ht hg g hf hgood)
 | rangeFunc _ _ _ _=>exact absurd (show false=true from hc) (by decide)
 | exit id=>exact wpIn_exit ⟨rfl,r,ht,Ext.refl _ _,Fr.refl _ _,g,hf⟩
 | scope _=>exact absurd (show false=true from hgood) (by decide)
 | goto _=>exact absurd (show false=true from hgood) (by decide)
 | ret=>exact wpIn_ret ⟨rfl,r,ht,Ext.refl _ _,Fr.refl _ _,g,hf⟩
 | refuse _=>exact absurd (show false=true from hgood) (by decide)
theorem ev_ok {P:Program} {hook:Hook} (hd:DrawOk P) (hdr:DrawOkR P) (hra:RangeOk P) (hh:HookOk P hook):∀ m,KOk P (ev hook P m)∧KOkR P (ev hook P m):=by
 intro m
 induction m with
 | zero =>
  refine⟨⟨fun c tm n hp nx r w a _ _ _ _ hgood=>absurd (show false=true from hgood) (by decide),fun c tm n hp nx r w a _ _ _ _ hgood=>absurd (show false=true from hgood) (by decide),fun f args tm mode hp nx v hp' nx' h=>?_⟩,
   ⟨fun l c tm n hp nx _ r w a _ _ _ _ hgood=>absurd (show false=true from hgood) (by decide),fun l c tm n hp nx _ r w a _ _ _ _ hgood=>absurd (show false=true from hgood) (by decide)⟩⟩
  exact absurd (show Out.fail "fuel" = .value v hp' nx' from h) (by simp)
 | succ m ihm =>
  exact⟨⟨fun c tm n hp nx=>loop_ok ihm.1 c tm n hp nx,fun c tm n hp nx=>code_ok ihm.1 ihm.2 hd hra c tm n hp nx,fun f args tm mode hp nx v hp' nx' h=>call_ok ihm.1 hh f args tm mode hp nx v hp' nx' h⟩,
   ⟨fun l c tm n hp nx hc=>loopR_ok ihm.2 c hc tm n hp nx,fun l c tm n hp nx hc=>codeR_ok ihm.1 ihm.2 hdr c hc tm n hp nx⟩⟩
end
end Go.Proofs.YtbdbhdcbdfbnnaaGreatDoor.Ev
set_option linter.unusedVariables false
set_option linter.unusedSimpArgs false
namespace Go.Proofs.YtbdbhdcbdfbnnaaGreatDoor.Ev
section
variable {P : Program} {ih : K} {ops : Array Oper} {n nx : Nat} {tm : Tr AV} {hp : Hp} {T : Nat → Ds} {r : Rho} {w : World} {a : Act}
theorem mem_ready {listed:Array Bool} {i:Nat} : i∈Region.ready .any ops listed↔i<ops.size∧listed.getD i true=false∧∃ o,ops[i]?=some o∧∀ e∈o.after.toList,Region.binds .any e=true→listed.getD e.on false=true:=by
 unfold Region.ready
 rw[List.mem_filter,List.mem_range]
 cases ho:ops[i]? with
 | none=>simp
 | some o =>
  simp only[Option.map_some,Option.getD_some,Bool.and_eq_true,Bool.not_eq_true',Option.some.injEq,exists_eq_left',Array.all_eq_true',Bool.or_eq_true]
  refine and_congr_right fun _=>and_congr_right fun _=>?_
  constructor
  ·intro h e he hb
   rcases h e (by simpa using he) with h | h
   ·rw[hb] at h;exact absurd h (by decide)
   ·exact h
  ·intro h e he
   cases hb:Region.binds .any e with
   | false=>exact .inl rfl
   | true=>exact .inr (h e (by simpa using he) hb)
theorem all_listed (R:Run P ih ops n tm hp nx T) {listed:Array Bool} (hs:listed.size=ops.size) (h:Region.ready .any ops listed=[]):∀ j,j<ops.size→listed.getD j true=true:=by
 intro j
 induction j using Nat.strongRecOn with
 | _ j ihj =>
  intro hj
  cases hl:listed.getD j true with
  | true=>rfl
  | false =>
   have ho:ops[j]?=some ops[j]:=Array.getElem?_eq_getElem hj
   have:j∈Region.ready .any ops listed:=mem_ready.2 ⟨hj,hl,_,ho,fun e he hb=>by
    have hlt:=R.edges j _ ho e he hb
    have:=ihj e.on hlt (by omega)
    rw[Array.getD_eq_getD_getElem?,Array.getElem?_eq_getElem (show e.on<listed.size by omega)] at this ⊢
    exact this⟩
   rw[h] at this;exact absurd this (by simp)
theorem draw_any (hk:KOk P ih) (R:Run P ih ops n tm hp nx T) (hg:Glob P r) (h0:∀ b k,getB hp b=some k→b<nx) (hf:Fresh nx r) {Q:Exit→Act→World→Prop}
  (hQ:∀ L r'' a'' w'',(∀ j,j<ops.size→L j=true)→Inv P ops n hp T r w a L r'' a'' w''→Q .normal a'' w'') :
  ∀ fuel (listed:Array Bool) (L:Nat→Bool) r' a' w',listed.size=ops.size→(∀ j,j<ops.size→listed[j]?=some (L j))→listed.toList.count false≤fuel→Closed ops L→Inv P ops n hp T r w a L r' a' w'→wpAny P .any ops Q fuel listed a' w':=by
 intro fuel
 induction fuel with
 | zero =>
  intro listed L r' a' w' hs hL hcnt hc I
  have hall:∀ j,j<ops.size→L j=true:=fun j hj=>by
   cases h:L j with
   | true=>rfl
   | false =>
    have h1:=hL j hj
    rw[h] at h1
    have:false∈listed.toList:=by
     rw[List.mem_iff_getElem?];exact⟨j,by simpa using h1⟩
    have:=List.count_pos_iff.2 this
    omega
  refine⟨?_,hQ L r' a' w' hall I⟩
  rw[List.eq_nil_iff_forall_not_mem]
  intro i hi
  obtain⟨h1,h2,_⟩:=mem_ready.1 hi
  rw[Array.getD_eq_getD_getElem?,hL i h1,hall i h1] at h2
  exact absurd h2 (by decide)
 | succ fuel ihf =>
  intro listed L r' a' w' hs hL hcnt hc I
  refine⟨fun h=>?_,fun i hi=>?_⟩
  ·have:=all_listed R hs h
   refine hQ L r' a' w' (fun j hj=>?_) I
   have h1:=this j hj
   rw[Array.getD_eq_getD_getElem?,hL j hj] at h1
   exact h1
  ·obtain⟨h1,h2,o,ho,h3⟩:=mem_ready.1 hi
   have hLi:L i=false:=by
    rw[Array.getD_eq_getD_getElem?,hL i h1] at h2;exact h2
   have hready:∀ e∈o.after.toList,Region.binds .any e=true→L e.on=true:=fun e he hb=>by
    have:=h3 e he hb
    have hlt:=R.edges i o ho e he hb
    rw[Array.getD_eq_getD_getElem?,hL e.on (by omega)] at this
    exact this
   refine step_ok hk R hg h0 hf hc I ho hLi hready fun r'' a'' w'' I'=>?_
   refine ihf _ (setL L i) r'' a'' w'' (by simp[hs]) (fun j hj=>?_) ?_ (fun j p hj hp e he hb=>?_) I'
   ·by_cases e:j=i
    ·subst e;rw[Array.getElem?_setIfInBounds_self,if_pos (by omega),setL_same]
    ·rw[Array.getElem?_setIfInBounds_ne (Ne.symm e),hL j hj,setL_other L e]
   ·rw[Array.toList_setIfInBounds,List.count_set (by simpa using (by omega:i<listed.size))]
    have hli : listed.toList[i]'(by simpa using (by omega : i < listed.size)) = false := by
     have:=hL i h1
     rw[hLi,Array.getElem?_eq_getElem (by omega)] at this
     injection this
    rw[hli]
    have hm:false∈listed.toList:=by rw[← hli];exact List.getElem_mem _
    have:=List.count_pos_iff.2 hm
    simp only[beq_self_eq_true,if_true,show (true==false)=false from rfl,Bool.false_eq_true,if_false];omega
   ·by_cases hji:j=i
    ·subst hji
     rw[ho] at hp;injection hp with hp;subst hp
     have:=hready e he hb
     unfold setL;split <;> first | rfl | exact this
    ·rw[setL_other L hji] at hj
     have:=hc j p hj hp e he hb
     unfold setL;split <;> first | rfl | exact this
theorem df_keep (R:Run P ih ops n tm hp nx T):∀ i,i≤ops.size→getP .h (T i).tm=getP .h tm:=by
 intro i
 induction i with
 | zero=>intro _;rw[R.start]
 | succ i ihi =>
  intro hi
  obtain⟨_,v,hS⟩:=R.cases (Array.getElem?_eq_getElem (show i<ops.size by omega))
  rw[hS.tm_eq]
  unfold setT
  split
  ·rw[getP_setP_other _ _ _ _ (Ne.symm (pos_succ_ne _))];exact ihi (by omega)
  ·exact ihi (by omega)
theorem below_id {m:Nat} (hf:Fresh m r):below r m=r:=by
 funext b;unfold below
 split
 ·rfl
 ·rename_i h;exact (hf b (by omega)).symm
end
theorem draw_all {P:Program} {ih:K} (hk:KOk P ih) (ops:Array Oper) (tm:Tr AV) (n:Nat) (hp:Hp) (nx:Nat) (r:Rho) (w:World) (a:Act) (ht:TmOk r n tm a) (hg:Glob P r) (g:Gam (getB hp) r w) (hf:Fresh nx r)
  (hgood:(drawS ops ih P tm n hp nx).good=true):wpAny P .any ops (Post P r w n (drawS ops ih P tm n hp nx)) ops.size (Array.replicate ops.size false) a { w with drawn:=w.drawn+1 }:=by
 unfold drawS at hgood ⊢
 cases hdr:drawOk ops ops.toList (ancs ops.toList []) ops.toList 0 [] with
 | false=>rw[hdr] at hgood;exact absurd (show false=true from hgood) (by decide)
 | true =>
  cases hr:dRun P ih ops n (ancs ops.toList []) ops.toList 0 { tm,hp,pend:=[],nx,hist:=[],chs:=[],wa:=[] } with
  | none=>rw[hdr,hr] at hgood;exact absurd (show false=true from hgood) (by decide)
  | some s =>
   show wpAny P .any ops (Post P r w n (.norm s.tm (unpend s.pend s.hp) s.nx)) ops.size (Array.replicate ops.size false) a { w with drawn:=w.drawn+1 }
   obtain⟨T,t1,t2,t3⟩:=dRun_states hr
   have t3':T ops.size=s:=by rw[Nat.zero_add] at t3;simpa using t3
   have R:Run P ih ops n tm hp nx T:=⟨t1,fun i o ho=>by
    have:=t2 i o (by simpa using ho)
    rw[Nat.zero_add] at this
    exact this,(region_checks hdr).1,(region_checks hdr).2⟩
   have h0:∀ b k,getB hp b=some k→b<nx:=fun b k h=>by
    obtain⟨x,h1,_⟩:=g.blk b k h
    by_cases hlt:b<nx
    ·exact hlt
    ·rw[hf b (by omega)] at h1;exact absurd h1 (by simp)
   have hlw:∀ (t:Tmp) (k:Nat),lw ops (fun _=>false) t k=0:=fun t k=>by
    induction k with
    | zero=>rfl
    | succ k ihk=>unfold lw;rw[if_neg fun h=>absurd h.1 (by decide),ihk]
   have hlc:∀ (k:Nat),lc ops T (fun _=>false) k=0:=fun k=>by
    induction k with
    | zero=>rfl
    | succ k ihk=>unfold lc;rw[if_neg fun h=>absurd h.1 (by decide),ihk]
   have hhd:∀ (k:Nat),hd ops hp T (fun _=>false) k=getB hp:=fun k=>by
    induction k with
    | zero=>rfl
    | succ k ihk=>unfold hd;rw[if_neg fun h=>absurd h.1 (by decide),if_neg fun h=>absurd h.1 (by decide),ihk]
   have hn:∀ k,k≤ops.size→nx≤(T k).nx:=fun k hk=>by have:=R.nx_mono (Nat.zero_le k) hk;rw[R.start] at this;exact this
   have fresh:∀ m,nx≤m→Fresh m r:=fun m hm b hb=>hf b (by omega)
   have start:Inv P ops n hp T r w a (fun _=>false) r a w.drew :=
    {size:=ht.size,defs:=rfl
     slot:=fun t=>by
      rw[hlw t ops.size,below_id (fresh _ (hn 0 (Nat.zero_le _)))]
      have:(T 0).tm=tm:=by rw[R.start]
      rw[this];exact ht.slot t
     gam:=fun k _ h2=>by rw[hhd k,below_id (fresh _ (hn k h2))];exact g.drew
     real:=fun b x h=>g.drew.real b x h
     ext:=Ext.refl _ _
     fr:=Fr.drew _ _
     dom:=fun b hb=>by
      left
      rw[hlc ops.size]
      have:=hn 0 (Nat.zero_le _)
      by_cases hlt:b<nx
      ·omega
      ·exact absurd (hf b (by omega)) hb
     apt:=fun j _ _ h=>absurd h (by decide)
     low:=fun c h=>absurd h (by decide) }
   refine draw_any (w:=w) (a:=a) hk R hg h0 hf (fun L r' a' w' hall I=>?_) ops.size _ (fun _=>false) r a w.drew (by simp) (fun j hj=>by simp[hj]) (by simp[List.count_replicate]) (fun j o h=>absurd (show false=true from h) (by decide)) start
   have hfr:Fresh (T ops.size).nx r':=fun b hb=>by
    cases h:r' b with
    | none=>rfl
    | some y =>
     rcases I.dom b (by rw[h];simp) with h1 | ⟨j,h1,h2,h3,h4,h5⟩
     ·have:=R.nx_mono (lc_spec (ops:=ops) (T:=T) (L:=L) ops.size).1 (Nat.le_refl _);omega
     ·have:=(R.make_nx h3).2
      have:=R.nx_mono (show j+1≤ops.size by omega) (Nat.le_refl _)
      omega
   refine⟨rfl,r',⟨I.size,fun t=>?_,?_⟩,I.ext,I.fr,?_,by rw[← t3'];exact hfr⟩
   ·obtain⟨q1,q2,q3⟩:=lw_spec (ops:=ops) (L:=L) t ops.size
    rw[← t3',slot_keep R (t:=t) (b:=lw ops L t ops.size) ops.size q1 (Nat.le_refl _) fun j e1 e2 e3=>q3 j e1 e2 ⟨hall j e2,e3⟩]
    exact (I.slot t).mono (below_le r' _) _ _
   ·rw[← t3',df_keep R _ (Nat.le_refl _),I.defs]
    exact ht.defs.mono I.ext.le
   ·have hG:=I.gam ops.size (lc_spec (ops:=ops) (T:=T) (L:=L) ops.size).1 (Nat.le_refl _)
    rw[below_id hfr] at hG
    rw[← t3',hd_text R _ (Nat.le_refl _),← hd_congr (L:=L) ops.size fun j hj _=>hall j hj]
    exact hG
theorem draw_ok {P:Program} (hm:P.follows .mixedOrders=true):DrawOk P:=by
 intro ih hk id ops tm n hp nx r w a ht hg g hf hgood
 exact wp_region_any hm (draw_all hk ops tm n hp nx r w a ht hg g hf hgood)
theorem drawR_ok {P:Program} (hm:P.follows .mixedOrders=true):DrawOkR P:=by
 intro ih hk l id ops tm n hp nx hnd r w a ht hg g hf hgood
 exact wpIn_region_any hm (any_in (post_out hgood) (noDf_ok hnd) _ _ _ _ (draw_all hk ops tm n hp nx r w a ht hg g hf hgood))
end Go.Proofs.YtbdbhdcbdfbnnaaGreatDoor.Ev
set_option linter.unusedVariables false
set_option linter.unusedSimpArgs false
namespace Go.Proofs.YtbdbhdcbdfbnnaaGreatDoor.Ev
section
variable {P : Program} {r : Rho} {n : Nat} {tm : Tr AV} {a : Act} {w : World} {hp : Hp} {nx : Nat} {ih : K}
theorem loadB_cell (g:Gam (getB hp) r w) {b off:Nat} {x:BI} {v:AV} (hx:r b=some x) (hl:loadB hp none (b,off)=some v):∃ u,w.cell? ⟨x.blk,x.sh+off,none⟩=some u∧Rel r v u:=by
 obtain⟨cs,h1,h2⟩:=bnd_some (show bnd (bnd (getB hp b) cellsB) (fun cs=>rowOf cs off none)=some v from hl)
 obtain⟨y,sz,own,sh,c,e,f,h3,_,h4,h5,h6,_⟩:=cellsB_ok g h1
 rw[hx] at h3;injection h3 with h3;subst h3
 have h7:cs[off]?=some v:=by rw[← nth_eq];exact h2
 obtain⟨u,h8,h9⟩:=h6 off v h7
 exact⟨u,by rw[cell_of_heap h4];exact h8,h9⟩
theorem loadB_cells (g:Gam (getB hp) r w) {b off m:Nat} {x:BI} {v:AV} (hx:r b=some x) (hl:loadB hp (some m) (b,off)=some v) :
  ∃ l us,v=.agg l∧us.length=m∧Rels r l us∧∀ (i:Nat) (u:Value),us[i]?=some u→w.cell? ⟨x.blk,x.sh+off+i,none⟩=some u:=by
 obtain⟨cs,h1,h2⟩:=bnd_some (show bnd (bnd (getB hp b) cellsB) (fun cs=>rowOf cs off (some m))=some v from hl)
 obtain⟨y,sz,own,sh,c,e,f,h3,_,h4,h5,h6,_⟩:=cellsB_ok g h1
 rw[hx] at h3;injection h3 with h3;subst h3
 obtain⟨l,h7,h8⟩:=bnd_some (show bnd (takeN m (dropN cs off)) (fun l=>some (AV.agg l))=some v from h2)
 injection h8 with h8;subst h8
 obtain⟨h9,h10⟩:=takeN_some h7
 rw[dropN_eq] at h9 h10
 simp only[List.length_drop] at h9
 have hL:((c.toList.drop (x.sh+off)).take m).length=m:=by
  simp only[List.length_take,List.length_drop,Array.length_toList]
  rcases Nat.eq_zero_or_pos m with h0 | h0 <;> omega
 have hget:∀ i,i<m→((c.toList.drop (x.sh+off)).take m)[i]?=c[x.sh+off+i]?:=by
  intro i hi
  rw[List.getElem?_take_of_lt hi,List.getElem?_drop]
  simp
 refine⟨l,(c.toList.drop (x.sh+off)).take m,rfl,hL,Rels_iff.2 ⟨by rw[hL,h10];simp;omega,fun i q hq=>?_⟩,fun i u hu=>?_⟩
 ·subst h10
  have hi:i<m:=by
   have:=(List.getElem?_eq_some_iff.1 hq).1
   simp at this;omega
  rw[List.getElem?_take_of_lt hi,List.getElem?_drop] at hq
  obtain⟨u,h11,h12⟩:=h6 _ _ hq
  refine⟨u,?_,h12⟩
  rw[hget i hi,← h11]
  congr 1;omega
 ·have hi:i<m:=by rw[← hL];exact (List.getElem?_eq_some_iff.1 hu).1
  rw[hget i hi] at hu
  rw[cell_of_heap h4,hu]
theorem Gam.putU {h:H} (g:Gam h r w) {L:Nat} (hL:∀ b x,r b=some x→x.blk≠L) (o:Obj):Gam h r (w.putObj L o) :=
 ⟨fun b k hb=>let ⟨x,h1,h2⟩:=g.blk b k hb;⟨x,h1,h2.kept (Rho.le_refl r) (World.putObj_heap_other (hL b x h1))⟩,fun b x hb=>by rw[World.putObj_size];exact g.real b x hb,g.sep⟩
theorem Fr.putU {W:World} (h:Fr r w W) {L:Nat} (hL:w.heap.size≤L) (o:Obj):Fr r w (W.putObj L o) :=
 ⟨h.os,h.tape,h.output,by rw[World.putObj_size];exact h.size,fun i hi hn=>by rw[World.putObj_heap_other (by omega)];exact h.blk i hi hn⟩
theorem Ext.noName {r':Rho} {W:World} (e:Ext r r' W) {L:Nat} (hs:L<W.heap.size) (hL:∀ b x,r b=some x→x.blk≠L):∀ b x,r' b=some x→x.blk≠L:=by
 intro b x hb
 cases hr:r b with
 | some y=>have:=e.le _ _ hr;rw[hb] at this;injection this with this;subst this;exact hL b _ hr
 | none =>
  rcases (e.new _ _ hr hb).2 with h | ⟨b0,x0,h1,_,h3⟩
  ·omega
  ·rw[← h3];exact hL b0 x0 h1
theorem Ext.congr {r':Rho} {W W':World} (e:Ext r r' W) (h:W'.heap.size=W.heap.size):Ext r r' W' :=
 ⟨e.le,fun b x h1 h2=>by rw[h];exact e.new b x h1 h2⟩
theorem Fr.drewN (r:Rho) (w:World) (m:Nat):Fr r w (w.drewN m):=⟨rfl,rfl,rfl,Nat.le_refl _,fun _ _ _=>rfl⟩
theorem TmOk.noDf (ht:TmOk r n tm a):TmOk r n (setP none .h tm) { tmps:=a.tmps,defers:=[] }:=by
 refine⟨ht.size,fun t=>?_,?_⟩
 ·have:Ev.slot (setP none .h tm) t=Ev.slot tm t:=by
   unfold Ev.slot
   rw[getP_setP_other _ _ _ _ (pos_succ_ne t)]
  rw[this];exact TmOk.slot ht t
 ·rw[getP_setP_same];rfl
theorem parms_ok {ps:Array Tmp} {p:Tmp×Tmp} (h:parms ps=some p):ps=#[p.1,p.2]:=by
 unfold parms at h
 split at h
 ·injection h with h;subst h;rfl
 ·exact absurd h (by simp)
theorem iterOf_ok {v:AV} {f:FuncId×Nat×Nat} (h:iterOf v=some f):v=.func f.1 [] [.ptr f.2.1 f.2.2]:=by
 unfold iterOf at h
 split at h
 ·injection h with h;subst h;rfl
 ·exact absurd h (by simp)
theorem sizeOut_ok {o:Out} {sz:Nat} (h:sizeOut o=some sz):∃ k hp nx,o=.value (.int k (.ofNat sz)) hp nx:=by
 unfold sizeOut at h
 split at h
 ·injection h with h;subst h;exact⟨_,_,_,rfl⟩
 ·exact absurd h (by simp)
theorem lenS_ok {v:AV} {m:Nat} (h:lenS v=some m):∃ b off cap ex,v=.slice b off m cap ex:=by
 unfold lenS at h
 split at h
 ·injection h with h;subst h;exact⟨_,_,_,_,rfl⟩
 ·exact absurd h (by simp)
theorem marks_ok {d:Option AV} {D:Nat} {m:AV} {ds:List Deferred} {x:BI} (h:marks d D=some m) (hd:DfOk r d ds) (hx:r D=some x):DfOk r (some m) ({ target:=.collected x.blk,args:=#[] } :: ds):=by
 unfold marks at h
 split at h
 ·injection h with h;subst h
  have hd:ds=[]:=hd
  subst hd
  exact⟨D,0,x,[],rfl,hx,rfl,rfl⟩
 ·rename_i l
  injection h with h;subst h
  exact⟨D,0,x,ds,rfl,hx,rfl,hd⟩
 ·exact absurd h (by simp)
theorem roundO_ok {o O:Out} {f:Hp→Nat→Out} (h:roundO o f=O) (hO:O.good=true):∃ tm hp nx,o=.norm tm hp nx∧f hp nx=O:=by
 cases o with
 | norm tm hp nx=>exact⟨tm,hp,nx,rfl,h⟩
 | exit _ _ _ _=>rw[← h] at hO;exact absurd (show false=true from hO) (by decide)
 | ret _ _ _=>rw[← h] at hO;exact absurd (show false=true from hO) (by decide)
 | value _ _ _=>rw[← h] at hO;exact absurd (show false=true from hO) (by decide)
 | fail _=>rw[← h] at hO;exact absurd (show false=true from hO) (by decide)
theorem onNorm_norm {o:Out} {f:Tr AV→Hp→Nat→Out} {tm':Tr AV} {hp':Hp} {nx':Nat} (h:onNorm o f=.norm tm' hp' nx'):∃ tm hp nx,o=.norm tm hp nx∧f tm hp nx=.norm tm' hp' nx':=by
 cases o with
 | norm tm hp nx=>exact⟨tm,hp,nx,rfl,h⟩
 | exit _ _ _ _=>exact absurd (show Out.exit _ _ _ _=.norm tm' hp' nx' from h) (by simp)
 | ret _ _ _=>exact absurd (show Out.ret _ _ _=.norm tm' hp' nx' from h) (by simp)
 | value _ _ _=>exact absurd (show Out.value _ _ _=.norm tm' hp' nx' from h) (by simp)
 | fail _=>exact absurd (show Out.fail _=.norm tm' hp' nx' from h) (by simp)
structure RSt (P:Program) (ih:K) (asg body:Code) (p0 p1:Tmp) (c:Nat×Nat) (sz:Nat) (tm tm1:Tr AV) (n:Nat) (O:Out) (r:Rho) (w:World) (nx:Nat) (L:Nat) (rec:Loop) (k:Nat) (W:World) (r':Rho) (hp':Hp) (nx':Nat):Prop where
 run:backS ih asg body p0 p1 c sz tm tm1 n k hp' nx'=O
 ext:Ext r r' w
 fr:Fr r w W
 gam:Gam (getB hp') r' W
 fresh:Fresh nx' r'
 mark:r' nx=some ⟨w.heap.size,0,0,false⟩
 noL:∀ b x,r' b=some x→x.blk≠L
 lop:W.heap[L]?=some (.loop rec)
theorem rangeFn_ok:RangeOk P:=by
 intro ih hk hkr gg ps asg body tm n hp nx r w a ht hg g hf hgood
 unfold cRange at hgood ⊢
 cases hq:bnd (opnd P gg tm) iterOf with
 | none=>rw[hq] at hgood;exact absurd (show false=true from hgood) (by decide)
 | some f =>
 rw[hq] at hgood
 dsimp only at hgood ⊢
 cases hps:parms ps with
 | none=>rw[hps] at hgood;exact absurd (show false=true from hgood) (by decide)
 | some p =>
 rw[hps] at hgood
 dsimp only at hgood ⊢
 cases hsz:sizeOut (ih (.call f.1 []) .leaf 7 hp nx) with
 | none=>rw[hsz] at hgood;exact absurd (show false=true from hgood) (by decide)
 | some sz =>
 rw[hsz] at hgood
 dsimp only at hgood ⊢
 cases hln:bnd (loadB hp none f.2) lenS with
 | none=>rw[hln] at hgood;exact absurd (show false=true from hgood) (by decide)
 | some len =>
 rw[hln] at hgood
 dsimp only at hgood ⊢
 cases hmk:marks (getP .h tm) nx with
 | none=>rw[hmk] at hgood;exact absurd (show false=true from hgood) (by decide)
 | some m =>
 rw[hmk] at hgood
 dsimp only at hgood ⊢
 unfold rangeS at hgood ⊢
 cases hok:and (okC asg) (and (okC body) (and (Nat.blt p.1 n) (and (Nat.blt p.2 n) (Nat.ble len 1000000)))) with
 | false=>rw[hok] at hgood;exact absurd (show false=true from hgood) (by decide)
 | true =>
 rw[hok] at hgood
 obtain⟨O,hO⟩ : ∃ O,O=backS ih asg body p.1 p.2 f.2 sz tm (setP (some m) .h tm) n len (setB (some .dfr) nx hp) (Nat.succ nx):=⟨_,rfl⟩
 have hgood:O.good=true:=by rw[hO];exact hgood
 show (Code.rangeFunc gg ps asg body).wp P (Post P r w n (backS ih asg body p.1 p.2 f.2 sz tm (setP (some m) .h tm) n len (setB (some .dfr) nx hp) (Nat.succ nx))) a w
 rw[← hO]
 obtain⟨o1,o2⟩:=and2 hok
 obtain⟨o2,o3⟩:=and2 o2
 obtain⟨o3,o4⟩:=and2 o3
 obtain⟨o4,o5⟩:=and2 o4
 have hp0:=blt_lt o3
 have hp1:=blt_lt o4
 have hlen:=ble_le o5
 have hps':=parms_ok hps
 subst hps'
 obtain⟨vg,g1,g2⟩:=bnd_some hq
 have:=iterOf_ok g2
 subst this
 obtain⟨xa,xb,e1,e2,e3⟩:=rel_func.1 (opnd_ok ht hg g1)
 have hxa:xa=#[]:=by rw[← Array.toList_inj];exact Rels_nil.1 e2
 subst hxa
 obtain⟨u,us,e4,e5,e6⟩:=Rels_cons.1 e3
 have:=Rels_nil.1 e6
 subst this
 have hxb:xb=#[u]:=by rw[← Array.toList_inj,e4]
 subst hxb
 obtain⟨xc,c1,rfl⟩:=rel_ptr.1 e5
 obtain⟨ki,hpi,nxi,hit⟩:=sizeOut_ok hsz
 obtain⟨hcf,hiter⟩:=(hk.call _ _ _ _ _ _ _ _ _ hit r w #[] (Rels_nil.2 rfl) hg g hf).2.2 rfl ki sz rfl
 obtain⟨vs,l1,l2⟩:=bnd_some hln
 obtain⟨bs,off,cap,ex,rfl⟩:=lenS_ok l2
 refine (wpIn_wide (n:=0)).1 (wpIn_rangeFunc fun fn _=>?_)
 obtain⟨R,hR⟩ : ∃ R:LoopState→Option Code→Loop,R=fun st pe=>{ state:=st,pending:=pe,fn,tmps:=a.tmps,params:=#[p.1,p.2],assign:=asg,body,defers:=w.heap.size }:=⟨_,rfl⟩
 obtain⟨W1,hW1⟩ : ∃ W1,W1=(w.alloc (.deferred (some []))).alloc (.loop (R .ready none)):=⟨_,rfl⟩
 have kL:W1.heap[w.heap.size+1]?=some (.loop (R .ready none)):=by
  rw[hW1];have:=World.alloc_heap_new (w.alloc (.deferred (some []))) (.loop (R .ready none));rwa [World.size_alloc] at this
 have hn:r nx=none:=hf nx (Nat.le_refl _)
 have G1:Gam (getB (setB (some .dfr) nx hp)) (r.put nx ⟨w.heap.size,0,0,false⟩) W1:=by
  rw[getB_put,hW1]
  refine Gam.more (g.alloc hn _ _ 0 ?_) _
  exact⟨heap_alloc_new _ _,rfl⟩
 have hle:r.le (r.put nx ⟨w.heap.size,0,0,false⟩):=Rho.put_le _ hn
 have F1:Fr r w W1:=by rw[hW1];exact (Fr.alloc r w _).trans (Ext.refl _ _) (Fr.alloc r _ _)
 have S0:RSt P ih asg body p.1 p.2 f.2 sz tm (setP (some m) .h tm) n O r w nx (w.heap.size+1) (R .ready none) len W1 (r.put nx ⟨w.heap.size,0,0,false⟩) (setB (some .dfr) nx hp) (Nat.succ nx) :=
  ⟨hO.symm,Ext.alloc hn 0,F1,G1,hf.put _,Rho.put_same _ _ _,fun b x hb=>by
   unfold Rho.put at hb
   split at hb
   ·injection hb with hb;subst hb;show w.heap.size≠w.heap.size+1;omega
   ·have:=g.real _ _ hb;omega,kL⟩
 refine⟨w.heap.size+1,[{ target:=.collected w.heap.size,args:=#[] }],W1,{ target:=.fn (.func f.1) #[.pointer (some ⟨xc.blk,xc.sh+f.2.2,none⟩)],args:=#[.func (.yield (w.heap.size+1)) #[] #[]] },W1,f.1,
  #[.func (.yield (w.heap.size+1)) #[] #[],.pointer (some ⟨xc.blk,xc.sh+f.2.2,none⟩)],W1,?_,?_,fun _ _=>trivial,?_,(fun h=>absurd h (by simp[Fence.wide])),?_⟩
 ·rw[hW1,hR];exact run_enterLoop_outer _ _ _ _ _
 ·simp only[resolve,e1]
  simp[go_sem]
 ·exact hcf _ _
 ·have hcell0:∃ A cp,W1.cell? ⟨xc.blk,xc.sh+f.2.2,none⟩=some (.slice (some A) len cp):=by
   obtain⟨u,q1,q2⟩:=loadB_cell g c1 (show loadB hp none (f.2.1,f.2.2)=_ from l1)
   obtain⟨x0,A,q3,q4,_⟩:=rel_slice.1 q2
   refine⟨A,cap+(if ex=true then 0 else x0.xt),?_⟩
   rw[← q4,← q1]
   have hlt:=g.real _ _ c1
   rw[hW1]
   simp only[World.cell?]
   rw[heap_alloc_lt (by rw[World.size_alloc];show xc.blk<_;omega),heap_alloc_lt (by exact hlt)]
  refine (hiter (w.heap.size+1) ⟨xc.blk,xc.sh+f.2.2,none⟩ len (fun k W=>∃ r' hp' nx',RSt P ih asg body p.1 p.2 f.2 sz tm (setP (some m) .h tm) n O r w nx (w.heap.size+1) (R .ready none) k W r' hp' nx') W1 ?_ hlen hcell0 ?_ ⟨_,_,_,S0⟩).mono ?_
  ·rintro k W q ⟨r',hp',nx',S⟩
   exact⟨r',hp',nx',S.run,S.ext,S.fr.trans (Ext.refl _ _) (Fr.drewN r W q),S.gam.heap rfl,S.fresh,S.mark,S.noL,S.lop⟩
  ·rintro k W ⟨r',hp',nx',S⟩
   have hrun : Option.rec (motive := fun _ => Out) (.fail "element") (fun v => roundO (roundS ih asg body p.1 p.2 tm n k v hp' nx') (backS ih asg body p.1 p.2 f.2 sz tm (setP (some m) .h tm) n k)) (bnd (loadB hp' none f.2) (elemB hp' sz k)) = O := S.run
   cases hel:bnd (loadB hp' none f.2) (elemB hp' sz k) with
   | none=>rw[hel] at hrun;rw[← hrun] at hgood;exact absurd (show false=true from hgood) (by decide)
   | some v =>
   rw[hel] at hrun
   obtain⟨tm2,hp2,nx2,hro,hnext⟩:=roundO_ok (show roundO _ _=O from hrun) hgood
   obtain⟨vc,d1,d2⟩:=bnd_some hel
   have hxc':r' f.2.1=some xc:=S.ext.le _ _ c1
   obtain⟨uc,d3,d4⟩:=loadB_cell S.gam hxc' (show loadB hp' none (f.2.1,f.2.2)=_ from d1)
   cases vc <;> first | exact absurd (show none=some v from d2) (by simp) | skip
   rename_i b2 off2 m2 cap2 ex2
   obtain⟨d5,d6⟩:=sel_none (show sel (and (Nat.blt k m2) (Nat.ble m2 cap2)) (loadB hp' (some sz) (b2,off2+k * sz)) none=some v from d2)
   obtain⟨d5,d7⟩:=and2 d5
   have hkm:=blt_lt d5
   have hmc:=ble_le d7
   obtain⟨x2,A2,d8,rfl,d10⟩:=rel_slice.1 d4
   have hA:=d10 (by omega)
   subst hA
   obtain⟨lv,us,rfl,d11,d12,d13⟩:=loadB_cells S.gam d8 d6
   refine⟨_,_,m2,_,us,d3,hkm,d11,fun i u hu=>?_,fun q=>?_⟩
   ·rw[← d13 i u hu]
    rw[show x2.sh+off2+k * sz+i=x2.sh+(off2+k * sz)+i by omega]
   ·have hyl:=run_yield (P:=P) (w:=W.drewN q) (args:=#[.int .i64 (k:Int),.agg us.toArray]) (show (W.drewN q).heap[w.heap.size+1]?=_ from S.lop) (by rw[hR];rfl)
    have hsl:w.heap.size+1<W.heap.size:=(Array.getElem?_eq_some_iff.1 S.lop).1
    refine⟨fn,_,asg,body,by rw[hyl,hR],roundIn_of_wpIn trivial ?_⟩
    rw[hR]
    have htm:∀ ts:Array Value,((#[p.1,p.2] : Array Tmp).zip #[Value.int .i64 (k:Int),.agg us.toArray]).foldl (fun tmps (t,a)=>tmps.setIfInBounds t a) ts=(ts.setIfInBounds p.1 (.int .i64 k)).setIfInBounds p.2 (.agg us.toArray):=fun ts=>by simp
    dsimp only
    erw [htm]
    obtain⟨tma,hpa,nxa,ha1,ha2⟩:=onNorm_norm hro
    have ht0:TmOk r' n (setP (some (.agg lv)) (pos (Nat.succ p.2)) (setP (some (.int .i64 (Int.ofNat k))) (pos (Nat.succ p.1)) (setP none .h tm))) { tmps:=(a.tmps.setIfInBounds p.1 (.int .i64 k)).setIfInBounds p.2 (.agg us.toArray),defers:=[] } :=
     ((ht.mono S.ext.le).noDf.put (rel_int.2 rfl) hp0).put (rel_agg.2 ⟨_,rfl,d12⟩) hp1
    have hasg:=hkr.code (w.heap.size+1) asg _ n hp' nx' o1 r' (W.drewN q) _ ht0 (hg.mono S.ext.le) (S.gam.heap rfl) S.fresh (by rw[ha1];rfl)
    rw[ha1] at hasg
    refine Code.wpIn_mono (fun e a1 w1 q1=>?_) hasg
    obtain⟨rfl,ra,s1,s2,s3,s4,s5⟩:=q1
    have hszq:(W.drewN q).heap.size=W.heap.size:=rfl
    have hl1:w1.heap[w.heap.size+1]?=some (.loop (R .ready none)):=by
     rw[s3.blk _ (by rw[hszq];exact hsl) fun b x hb _=>S.noL b x hb];exact S.lop
    have noLa:=s2.noName (by rw[hszq];exact hsl) S.noL
    refine⟨_,run_beginRound hl1 (by rw[hR]),?_⟩
    obtain⟨w2,hw2⟩ : ∃ w2,w2=w1.putObj (w.heap.size+1) (.loop { R .ready none with state:=.busy }):=⟨_,rfl⟩
    rw[← hw2]
    have hs1:w1.heap.size=w2.heap.size:=by rw[hw2,World.putObj_size]
    have hlt1:w.heap.size+1<w1.heap.size:=(Array.getElem?_eq_some_iff.1 hl1).1
    have hl2:w2.heap[w.heap.size+1]?=some (.loop { R .ready none with state:=.busy }):=by rw[hw2];exact World.putObj_heap_same hlt1
    have hbody:=hkr.code (w.heap.size+1) body tma n hpa nxa o2 ra w2 a1 s1 (hg.mono (Rho.le_trans S.ext.le s2.le)) (by rw[hw2];exact s4.putU noLa _) s5 (by rw[ha2];rfl)
    rw[ha2] at hbody
    refine Code.wpIn_mono (fun e a3 w3 q3=>?_) hbody
    obtain⟨rfl,rb,t1,t2,t3,t4,t5⟩:=q3
    have hl3:w3.heap[w.heap.size+1]?=some (.loop { R .ready none with state:=.busy }):=by
     rw[t3.blk _ (by rw[← hs1];exact hlt1) fun b x hb _=>noLa b x hb];exact hl2
    have hlt3:w.heap.size+1<w3.heap.size:=(Array.getElem?_eq_some_iff.1 hl3).1
    have noLb:=t2.noName (by rw[← hs1];exact hlt1) noLa
    have E1:Ext r ra w:=S.ext.trans (s2.congr rfl) S.fr.size
    have Fa:Fr r w w1:=(S.fr.trans (Ext.refl _ _) (Fr.drewN r W q)).trans S.ext s3
    have Fb:Fr r w w2:=by rw[hw2];exact Fa.putU (by omega) _
    have Fc:Fr r w w3:=Fb.trans E1 t3
    refine⟨_,_,run_endRound (P:=P) none hl3,rfl,rb,hp2,nx2,hnext,E1.trans t2 Fb.size,Fc.putU (by omega) _,t4.putU noLb _,t5,t2.le _ _ (s2.le _ _ S.mark),noLb,?_⟩
    rw[World.putObj_heap_same hlt3,hR]
    rfl
  ·rintro e W2 ⟨⟨v,rfl⟩,r',hp',nx',S⟩
   have he:=run_endLoop (P:=P) S.lop (by rw[hR];simp)
   have hpn:(R .ready none).pending=none:=by rw[hR]
   rw[hpn] at he
   refine⟨none,_,he,?_⟩
   have hO':Out.norm (setP (some m) .h tm) hp' nx'=O:=S.run
   show Post P r w n O .normal _ _
   rw[← hO']
   have htr:=ht.mono S.ext.le
   refine⟨rfl,r',⟨ht.size,fun t=>?_,?_⟩,S.ext,S.fr.putU (by omega) _,S.gam.putU S.noL _,S.fresh⟩
   ·have:slot (setP (some m) .h tm) t=slot tm t:=by
     unfold slot
     rw[getP_setP_other _ _ _ _ (pos_succ_ne t)]
    rw[this];exact htr.slot t
   ·rw[getP_setP_same]
    exact marks_ok hmk htr.defs S.mark
end
theorem ev_holds {P:Program} {hook:Hook} (hm:P.follows .mixedOrders=true) (hh:HookOk P hook):∀ m,KOk P (ev hook P m):=fun m=>(ev_ok (draw_ok hm) (drawR_ok hm) rangeFn_ok hh m).1
end Go.Proofs.YtbdbhdcbdfbnnaaGreatDoor.Ev
set_option linter.unusedVariables false
set_option linter.unusedSimpArgs false
namespace Go.Proofs.YtbdbhdcbdfbnnaaGreatDoor.Ev
noncomputable section
mutual
def eqAV:AV→AV→Bool
 | .func f a b,y=>match y with | .func g c d=>and (Nat.beq f g) (and (eqAVs a c) (eqAVs b d)) | _=>false
 | .iface t a,y=>match y with | .iface u b=>and (Nat.beq t u) (eqAV a b) | _=>false
 | .agg l,y=>match y with | .agg m=>eqAVs l m | _=>false
 | .tuple l,y=>match y with | .tuple m=>eqAVs l m | _=>false
 | .bool b,y=>eqA (.bool b) y
 | .int k n,y=>eqA (.int k n) y
 | .str s,y=>eqA (.str s) y
 | .ptr b o,y=>eqA (.ptr b o) y
 | .nilPtr,y=>eqA .nilPtr y
 | .slice b o l c e,y=>eqA (.slice b o l c e) y
 | .nilSlice,y=>eqA .nilSlice y
 | .map b,y=>eqA (.map b) y
 | .nilMap,y=>eqA .nilMap y
 | .nilFunc,y=>eqA .nilFunc y
 | .nilIface,y=>eqA .nilIface y
def eqAVs:List AV→List AV→Bool
 | [],y=>match y with | []=>true | _=>false
 | a :: l,y=>match y with | b :: m=>sel (eqAV a b) (eqAVs l m) false | []=>false
end
mutual
theorem eqAV_eq:∀ (x y:AV),eqAV x y=true→x=y
 | .func f a b,y,h=>by
  unfold eqAV at h
  cases y <;> first | exact absurd (show false=true from h) (by decide) | skip
  rename_i g c d
  obtain⟨h1,h2⟩:=and2 (show and (Nat.beq f g) (and (eqAVs a c) (eqAVs b d))=true from h)
  obtain⟨h3,h4⟩:=and2 h2
  rw[beq_eq h1,eqAVs_eq a c h3,eqAVs_eq b d h4]
 | .iface t a,y,h=>by
  unfold eqAV at h
  cases y <;> first | exact absurd (show false=true from h) (by decide) | skip
  rename_i u b
  obtain⟨h1,h2⟩:=and2 (show and (Nat.beq t u) (eqAV a b)=true from h)
  rw[beq_eq h1,eqAV_eq a b h2]
 | .agg l,y,h=>by
  unfold eqAV at h
  cases y <;> first | exact absurd (show false=true from h) (by decide) | skip
  rename_i m
  rw[eqAVs_eq l m h]
 | .tuple l,y,h=>by
  unfold eqAV at h
  cases y <;> first | exact absurd (show false=true from h) (by decide) | skip
  rename_i m
  rw[eqAVs_eq l m h]
 | .bool b,y,h=>by unfold eqAV at h;exact eqA_eq h
 | .int k n,y,h=>by unfold eqAV at h;exact eqA_eq h
 | .str s,y,h=>by unfold eqAV at h;exact eqA_eq h
 | .ptr b o,y,h=>by unfold eqAV at h;exact eqA_eq h
 | .nilPtr,y,h=>by unfold eqAV at h;exact eqA_eq h
 | .slice b o l c e,y,h=>by unfold eqAV at h;exact eqA_eq h
 | .nilSlice,y,h=>by unfold eqAV at h;exact eqA_eq h
 | .map b,y,h=>by unfold eqAV at h;exact eqA_eq h
 | .nilMap,y,h=>by unfold eqAV at h;exact eqA_eq h
 | .nilFunc,y,h=>by unfold eqAV at h;exact eqA_eq h
 | .nilIface,y,h=>by unfold eqAV at h;exact eqA_eq h
theorem eqAVs_eq:∀ (x y:List AV),eqAVs x y=true→x=y
 | [],y,h=>by
  unfold eqAVs at h
  cases y <;> first | rfl | exact absurd (show false=true from h) (by decide)
 | a :: l,y,h=>by
  unfold eqAVs at h
  cases y with
  | nil=>exact absurd (show false=true from h) (by decide)
  | cons b m =>
   have h':sel (eqAV a b) (eqAVs l m) false=true:=h
   cases hb:eqAV a b with
   | false=>rw[hb] at h';exact absurd (show false=true from h') (by decide)
   | true=>rw[hb] at h';rw[eqAV_eq a b hb,eqAVs_eq l m h']
end
def eqE (x:List (AV×AV)):List (AV×AV)→Bool :=
 List.rec (motive:=fun _=>List (AV×AV)→Bool) (fun y=>List.rec (motive:=fun _=>Bool) true (fun _ _ _=>false) y)
  (fun a _ eq y=>List.rec (motive:=fun _=>Bool) false (fun b y _=>sel (and (eqAV a.1 b.1) (eqAV a.2 b.2)) (eq y) false) y) x
theorem eqE_eq:∀ {x y:List (AV×AV)},eqE x y=true→x=y:=by
 intro x
 induction x with
 | nil=>intro y h;cases y with | nil=>rfl | cons _ _=>exact absurd (show false=true from h) (by decide)
 | cons a x ih =>
  intro y h
  cases y with
  | nil=>exact absurd (show false=true from h) (by decide)
  | cons b y =>
   have h':sel (and (eqAV a.1 b.1) (eqAV a.2 b.2)) (eqE x y) false=true:=h
   cases hb:and (eqAV a.1 b.1) (eqAV a.2 b.2) with
   | false=>rw[hb] at h';exact absurd (show false=true from h') (by decide)
   | true =>
    rw[hb] at h'
    obtain⟨h1,h2⟩:=and2 hb
    have:a=b:=Prod.ext (eqAV_eq _ _ h1) (eqAV_eq _ _ h2)
    rw[this,ih h']
theorem strEq_eq' {s t:List Nat} (h:strEq s t=true):s=t:=by
 have:=eqA_eq (x:=.str s) (y:=.str t) h
 injection this
def eqB (b c:Bool):Bool:=sel b c (not c)
theorem eqB_eq {b c:Bool} (h:eqB b c=true):b=c:=by cases b <;> cases c <;> first | rfl | exact absurd (show false=true from h) (by decide)
def eqBlk (x y:Blk):Bool :=
 match x with
 | .cells cs sz own sh=>(match y with | .cells cs' sz' own' sh'=>and (eqAVs cs cs') (and (Nat.beq sz sz') (and (eqB own own') (strEq sh sh'))) | _=>false)
 | .map es own=>(match y with | .map es' own'=>and (eqE es es') (eqB own own') | _=>false)
 | .iter s p=>(match y with | .iter s' p'=>and (strEq s s') (Nat.beq p p') | _=>false)
 | .dfr=>(match y with | .dfr=>true | _=>false)
theorem eqBlk_eq {x y:Blk} (h:eqBlk x y=true):x=y:=by
 cases x with
 | cells cs sz own sh =>
  cases y <;> first | exact absurd (show false=true from h) (by decide) | skip
  rename_i cs' sz' own' sh'
  obtain⟨h1,h2⟩:=and2 (show and (eqAVs cs cs') (and (Nat.beq sz sz') (and (eqB own own') (strEq sh sh')))=true from h)
  obtain⟨h3,h4⟩:=and2 h2
  obtain⟨h5,h6⟩:=and2 h4
  rw[eqAVs_eq _ _ h1,beq_eq h3,eqB_eq h5,strEq_eq' h6]
 | map es own =>
  cases y <;> first | exact absurd (show false=true from h) (by decide) | skip
  rename_i es' own'
  obtain⟨h1,h2⟩:=and2 (show and (eqE es es') (eqB own own')=true from h)
  rw[eqE_eq h1,eqB_eq h2]
 | iter s p =>
  cases y <;> first | exact absurd (show false=true from h) (by decide) | skip
  rename_i s' p'
  obtain⟨h1,h2⟩:=and2 (show and (strEq s s') (Nat.beq p p')=true from h)
  rw[strEq_eq' h1,beq_eq h2]
 | dfr=>cases y <;> first | rfl | exact absurd (show false=true from h) (by decide)
def mkH (l:List (Nat×Blk)):Hp:=List.rec (motive:=fun _=>Hp) .leaf (fun p _ r=>setB (some p.2) p.1 r) l
def hasAll (l:List (Nat×Blk)) (hp:Hp):Bool:=List.rec (motive:=fun _=>Bool) true (fun p _ r=>sel (match getB hp p.1 with | some k=>eqBlk k p.2 | none=>false) r false) l
theorem hasAll_ok {hp:Hp} : ∀ {l:List (Nat×Blk)},hasAll l hp=true→∀ b k,getB (mkH l) b=some k→getB hp b=some k:=by
 intro l
 induction l with
 | nil=>intro _ b k h;exact absurd (show getP (pos b) .leaf=some k from h) (by rw[getP_leaf];simp)
 | cons p l ih =>
  intro h b k hb
  have h':sel (match getB hp p.1 with | some k=>eqBlk k p.2 | none=>false) (hasAll l hp) false=true:=h
  have hb':getB (setB (some p.2) p.1 (mkH l)) b=some k:=hb
  rw[getB_put] at hb'
  cases hq:getB hp p.1 with
  | none=>rw[hq] at h';exact absurd (show false=true from h') (by decide)
  | some j =>
   rw[hq] at h'
   have h':sel (eqBlk j p.2) (hasAll l hp) false=true:=h'
   cases he:eqBlk j p.2 with
   | false=>rw[he] at h';exact absurd (show false=true from h') (by decide)
   | true =>
    rw[he] at h'
    unfold putH at hb'
    split at hb'
    ·rename_i e;subst e;injection hb' with hb';subst hb';rw[hq,eqBlk_eq he]
    ·exact ih h' b k hb'
structure Known where
 f:FuncId
 args:List AV
 S:List (Nat×Blk)
 nx:Nat
 v:AV
 S':List (Nat×Blk)
 nx':Nat
def Known.ok (P:Program) (k:Known):Prop:=CallOk P 0 k.f k.args (mkH k.S) k.nx k.v (mkH k.S') k.nx'
def Known.fits (k:Known) (mode:Nat) (f:FuncId) (args:List AV) (hp:Hp) (nx:Nat):Bool :=
 and (Nat.beq mode 0) (and (Nat.beq f k.f) (and (Nat.ble nx k.nx) (and (eqAVs args k.args) (hasAll k.S hp))))
def hookOf (l:List Known):Hook:=fun mode f args hp nx =>
 List.rec (motive:=fun _=>Option (AV×Hp×Nat)) none (fun k _ r=>sel (k.fits mode f args hp nx) (some (k.v,mkH k.S',k.nx')) r) l
theorem hookOf_ok {P:Program} : ∀ {l:List Known},(∀ k∈l,k.ok P)→HookOk P (hookOf l):=by
 intro l
 induction l with
 | nil=>intro _ mode f args hp nx v hp' nx' h;exact absurd (show none=some (v,hp',nx') from h) (by simp)
 | cons k l ih =>
  intro hl mode f args hp nx v hp' nx' h
  have h':sel (k.fits mode f args hp nx) (some (k.v,mkH k.S',k.nx')) (hookOf l mode f args hp nx)=some (v,hp',nx'):=h
  cases hb:k.fits mode f args hp nx with
  | false=>rw[hb] at h';exact ih (fun q hq=>hl q (List.mem_cons_of_mem _ hq)) mode f args hp nx v hp' nx' h'
  | true =>
   rw[hb] at h'
   injection (show some (k.v,mkH k.S',k.nx')=some (v,hp',nx') from h') with h'
   injection h' with e1 e2
   injection e2 with e2 e3
   subst e1;subst e2;subst e3
   obtain⟨g1,g2⟩:=and2 hb
   obtain⟨g3,g4⟩:=and2 g2
   obtain⟨g5,g6⟩:=and2 g4
   obtain⟨g7,g8⟩:=and2 g6
   have e1:=beq_eq g1;have e2:=beq_eq g3;have e3:=eqAVs_eq _ _ g7
   subst e1
   have e2:f=k.f:=e2
   subst e2;subst e3
   intro r w us hus hg g hf
   exact hl k List.mem_cons_self r w us hus hg (g.sub (hasAll_ok g8)) fun b hb=>hf b (Nat.le_trans (ble_le g5) hb)
def hookOr (h1 h2:Hook):Hook:=fun mode f args hp nx=>Option.rec (motive:=fun _=>Option (AV×Hp×Nat)) (h2 mode f args hp nx) some (h1 mode f args hp nx)
theorem hookOr_ok {P:Program} {h1 h2:Hook} (g1:HookOk P h1) (g2:HookOk P h2):HookOk P (hookOr h1 h2):=by
 intro mode f args hp nx v hp' nx' h
 unfold hookOr at h
 cases hq:h1 mode f args hp nx with
 | none=>rw[hq] at h;exact g2 mode f args hp nx v hp' nx' h
 | some q=>rw[hq] at h;exact g1 mode f args hp nx v hp' nx' (hq.trans h)
def retHook (f1:FuncId) (na:Nat):Hook:=fun mode f args hp nx=>sel (and (Nat.beq mode 1) (and (Nat.beq f f1) (Nat.beq (lenL args) na))) (some (.tuple [],hp,nx)) none
theorem retHook_ok {P:Program} {f1:FuncId} {na:Nat} (h:∀ us:Array Value,us.size=na→∀ w,CallsD P f1 us .returning w fun e u w'=>e=.returned (.tuple #[])∧u=.returning∧w'=w):HookOk P (retHook f1 na):=by
 intro mode f args hp nx v hp' nx' hh
 obtain⟨h1,h2⟩:=sel_none (show sel (and (Nat.beq mode 1) (and (Nat.beq f f1) (Nat.beq (lenL args) na))) (some (AV.tuple [],hp,nx)) none=some (v,hp',nx') from hh)
 injection h2 with h2
 injection h2 with e1 e2
 injection e2 with e2 e3
 subst e1;subst e2;subst e3
 obtain⟨g1,g2⟩:=and2 h1
 obtain⟨g2,g3⟩:=and2 g2
 have e1:=beq_eq g1;have e2:f=f1:=beq_eq g2;have e3:=beq_eq g3
 subst e1;subst e2
 intro r w us hus hg g hf
 refine⟨fun h=>absurd h (by decide),fun _=>(h us (by have:=hus.length;rw[← e3,lenL_eq,← this];simp) w).mono ?_,fun h=>absurd h (by decide)⟩
 rintro e u w' ⟨rfl,rfl,rfl⟩
 exact⟨_,r,rfl,rfl,rel_undef,Ext.refl _ _,Fr.refl _ _,g,hf⟩
def iterHook (f1:FuncId) (sz:Nat):Hook:=fun mode f _ hp nx=>sel (and (Nat.beq mode 7) (Nat.beq f f1)) (some (.int .i64 (Int.ofNat sz),hp,nx)) none
theorem iterHook_ok {P:Program} {f1:FuncId} {sz:Nat} (h:IterOk P f1 sz):HookOk P (iterHook f1 sz):=by
 intro mode f args hp nx v hp' nx' hh
 obtain⟨h1,h2⟩:=sel_none (show sel (and (Nat.beq mode 7) (Nat.beq f f1)) (some (AV.int .i64 (Int.ofNat sz),hp,nx)) none=some (v,hp',nx') from hh)
 injection h2 with h2
 injection h2 with e1 e2
 obtain⟨g1,g2⟩:=and2 h1
 have e3:=beq_eq g1;have e4:f=f1:=beq_eq g2
 subst e1;subst e3;subst e4
 intro r w us hus hg g hf
 refine⟨fun h=>absurd h (by decide),fun h=>absurd h (by decide),fun _ k sz' e=>?_⟩
 injection e with _ e
 injection e with e
 subst e;exact h
def runOk (o:Out) (v:AV) (S':List (Nat×Blk)) (nx':Nat):Bool:=match o with | .value u hp nx=>and (eqAV u v) (and (Nat.beq nx nx') (hasAll S' hp)) | _=>false
theorem known_ok {P:Program} {hook:Hook} (hm:P.follows .mixedOrders=true) (hh:HookOk P hook) (m:Nat) (k:Known) (h:runOk (ev hook P m (.call k.f k.args) .leaf 0 (mkH k.S) k.nx) k.v k.S' k.nx'=true):k.ok P:=by
 cases ho:ev hook P m (.call k.f k.args) .leaf 0 (mkH k.S) k.nx with
 | value u hp nx =>
  rw[ho] at h
  obtain⟨h1,h2⟩:=and2 (show and (eqAV u k.v) (and (Nat.beq nx k.nx') (hasAll k.S' hp))=true from h)
  obtain⟨h3,h4⟩:=and2 h2
  have e1:=eqAV_eq _ _ h1;have e2:=beq_eq h3
  have hc:=(ev_holds hm hh m).call _ _ _ _ _ _ _ _ _ ho
  intro r w us hus hg g hf
  refine⟨fun _=>((hc r w us hus hg g hf).1 rfl).mono ?_,fun h=>absurd h (by decide),fun h=>absurd h (by decide)⟩
  rintro e w' ⟨x,r',q1,q2,q3,q4,q5,q6⟩
  exact⟨x,r',q1,e1 ▸ q2,q3,q4,q5.sub (hasAll_ok h4),e2 ▸ q6⟩
 | norm _ _ _=>rw[ho] at h;exact absurd (show false=true from h) (by decide)
 | exit _ _ _ _=>rw[ho] at h;exact absurd (show false=true from h) (by decide)
 | ret _ _ _=>rw[ho] at h;exact absurd (show false=true from h) (by decide)
 | fail _=>rw[ho] at h;exact absurd (show false=true from h) (by decide)
end
end Go.Proofs.YtbdbhdcbdfbnnaaGreatDoor.Ev
set_option maxRecDepth 20000
namespace Go.Proofs.YtbdbhdcbdfbnnaaGreatDoor.Ev
theorem resolve_idle (us:Array Value) (hs:us.size=3) (w:World):CallsD Tryz.prog 69 us .returning w fun e u w'=>e=.returned (.tuple #[])∧u=.returning∧w'=w:=by
 obtain⟨l⟩:=us
 match l,hs with
 | [a,b,c],_ =>
 have hta:∀ w:World,(Instr.typeAssert .nilIface 20 31 true).run Tryz.prog w=.ok (.tuple #[.int .i64 0,.bool false]) w:=fun _=>by kernel_rfl
 refine callsD_of_wpS Tryz.func69 rfl fun c₀ cs hu=>?_
 apply wpS_seq
 apply wpS_region
 simp[wpOpsS,go_sem,recoverD,hu,hta,Tryz.ntmps69,Exit.thenS]
 apply wpS_seq
 apply wpS_region
 simp[wpOpsS,go_sem,Exit.thenS]
 refine wpS_cond (t:=false) (by simp[Act.eval,Array.replicate]) ?_
 simp only[Bool.false_eq_true,if_false]
 refine wpS_of_wp (wp_skip ?_)
 cases c₀
 simp_all [bodyPostS,results,Tryz.results69,Exit.thenS]
end Go.Proofs.YtbdbhdcbdfbnnaaGreatDoor.Ev
