/- The evaluator: regions that draw their order. The evaluator: what it says is so. The evaluator: calls that are known. -/
import Derived.Orders
import Derived.Test.YtoalnjpeblgkbabGreatDoorJ14
set_option linter.unusedVariables false
set_option linter.unusedSimpArgs false
set_option linter.unusedVariables false
set_option linter.unusedSimpArgs false
namespace Go.Proofs.YtoalnjpeblgkbabGreatDoor.Ev
section
variable {P : Program} {ih : K} {ops : Array Oper} {n nx : Nat} {tm : Tr AV} {hp : Hp} {T : Nat → Ds} {L : Nat → Bool} {r r' : Rho} {w w' : World} {a a' : Act}
def Rd (P:Program) (o:Oper) (q:Tr AV) (v:AV) (h:Hp):Prop:=∃ hp' nx',opX o.op P q h 0=.ok v hp' nx'
theorem readIs_ok {o:Oper} {q:Tr AV} {v:AV} {h:Hp} (hr:readIs P o q v h=true):Rd P o q v h:=by
 unfold readIs at hr
 split at hr
 ·rename_i u hp' nx' hX
  rw[eqV_eq hr] at hX
  exact⟨hp',nx',hX⟩
 ·exact absurd hr (by decide)
theorem Stp.past {i:Nat} {o:Oper} {v:AV} (ho:ops[i]?=some o) (h:Stp P ih ops T i o v) :
  (isK ops T .chain i∧(T (i+1)).chs=i :: (T i).chs∧(T (i+1)).hist=(T i).hp :: (T i).hist∧waOk P (anc ops i) (T (i+1)).hp (T i).wa=true) ∨
  (¬ isK ops T .chain i∧(T (i+1)).chs=(T i).chs∧(T (i+1)).hist=(T i).hist∧(T (i+1)).hp=(T i).hp):=by
 cases h with
 | no hw hT=>exact .inr ⟨isK_no ho hw,by rw[hT],by rw[hT],by rw[hT]⟩
 | pure _ _ _ hw hc hX hT=>exact .inr ⟨fun h=>absurd ((isK_iff ho hw hc).1 h) (by simp),by rw[hT],by rw[hT],by rw[hT]⟩
 | make _ _ _ _ hw hc hX hb hT=>exact .inr ⟨fun h=>absurd ((isK_iff ho hw hc).1 h) (by simp),by rw[hT],by rw[hT],by rw[hT]⟩
 | read _ _ _ hw hc hX hk hT=>exact .inr ⟨fun h=>absurd ((isK_iff ho hw hc).1 h) (by simp),by rw[hT],by rw[hT],by rw[hT]⟩
 | chain _ _ _ hw hc h1 h2 hX hn hwa hT=>exact .inl ⟨(isK_iff ho hw hc).2 rfl,by rw[hT],by rw[hT],by rw[hT];exact hwa⟩
theorem Stp.wa {i:Nat} {o:Oper} {v:AV} (h:Stp P ih ops T i o v):∀ x∈(T i).wa,x∈(T (i+1)).wa:=by
 intro x hx
 cases h with
 | no hw hT=>rw[hT];exact hx
 | pure _ _ _ hw hc hX hT=>rw[hT];exact hx
 | make _ _ _ _ hw hc hX hb hT=>rw[hT];exact hx
 | read _ _ _ hw hc hX hk hT=>rw[hT];exact List.mem_cons_of_mem _ hx
 | chain _ _ _ hw hc h1 h2 hX hn hwa hT=>rw[hT];exact hx
theorem Run.wa (R : Run P ih ops n tm hp nx T) {x : Wa} {i : Nat} (hx : x ∈ (T i).wa) : ∀ k, i ≤ k → k ≤ ops.size → x ∈ (T k).wa := by
  intro k
  induction k with
  | zero => intro h _; have : i = 0 := by omega
            subst this; exact hx
  | succ k ihk =>
    intro h1 h2
    by_cases e : i = k + 1
    · subst e; exact hx
    · obtain ⟨_, v, hS⟩ := R.cases (Array.getElem?_eq_getElem (show k < ops.size by omega))
      exact hS.wa x (ihk (by omega) (by omega))
theorem waOk_ok {m:Nat} {h:Hp} : ∀ {l:List Wa},waOk P m h l=true→∀ x∈l,bit m x.i=true∨(Rd P x.o x.tm x.v h∧lowV x.nx x.v=true):=by
 intro l
 induction l with
 | nil=>intro _ x hx;exact absurd hx (by simp)
 | cons y l ih0 =>
  intro hh x hx
  have h':sel (or (bit m y.i) (and (readIs P y.o y.tm y.v h) (lowV y.nx y.v))) (waOk P m h l) false=true:=hh
  cases hb:or (bit m y.i) (and (readIs P y.o y.tm y.v h) (lowV y.nx y.v)) with
  | false=>rw[hb] at h';exact absurd (show false=true from h') (by decide)
  | true =>
   rw[hb] at h'
   rcases List.mem_cons.1 hx with rfl | hx
   ·cases hbit:bit m x.i with
    | true=>exact .inl rfl
    | false =>
     rw[hbit] at hb
     obtain⟨q1,q2⟩:=and2 (show and (readIs P x.o x.tm x.v h) (lowV x.nx x.v)=true from hb)
     exact .inr ⟨readIs_ok q1,q2⟩
   ·exact ih0 h' x hx
theorem back {m:Nat} {o:Oper} {q:Tr AV} {v:AV} (R:Run P ih ops n tm hp nx T) (ha:∀ j,bit m j=true→L j=true):∀ k,k≤ops.size→backOk P o q v m (T k).chs (T k).hist=true→Rd P o q v (T k).hp→Rd P o q v (T (lc ops T L k)).hp:=by
 intro k
 induction k with
 | zero=>intro _ _ h;exact h
 | succ k ihk =>
  intro h1 h2 h3
  have ho:ops[k]?=some ops[k]:=Array.getElem?_eq_getElem (by omega)
  obtain⟨_,u,hS⟩:=R.cases ho
  unfold lc
  rcases hS.past ho with ⟨c1,c2,c3,c4⟩ | ⟨c1,c2,c3,c4⟩
  ·by_cases hLk:L k=true
   ·rw[if_pos ⟨hLk,c1⟩];exact h3
   ·rw[if_neg fun h=>hLk h.1]
    rw[c2,c3] at h2
    have h4:sel (bit m k) true (sel (readIs P o q v (T k).hp) (backOk P o q v m (T k).chs (T k).hist) false)=true:=h2
    cases hb:bit m k with
    | true=>exact absurd (ha k hb) hLk
    | false =>
     rw[hb] at h4
     have h5:sel (readIs P o q v (T k).hp) (backOk P o q v m (T k).chs (T k).hist) false=true:=h4
     cases hr:readIs P o q v (T k).hp with
     | false=>rw[hr] at h5;exact absurd (show false=true from h5) (by decide)
     | true=>rw[hr] at h5;exact ihk (by omega) h5 (readIs_ok hr)
  ·rw[if_neg fun h=>c1 h.2]
   rw[c2,c3] at h2;rw[c4] at h3
   exact ihk (by omega) h2 h3
theorem lc_const {i : Nat} : ∀ k, i ≤ k → (∀ j, i ≤ j → j < k → ¬ (L j = true ∧ isK ops T .chain j)) → lc ops T L k = lc ops T L i := by
  intro k
  induction k with
  | zero => intro h _; have : i = 0 := by omega
            subst this; rfl
  | succ k ihk =>
    intro h1 h2
    by_cases e : i = k + 1
    · subst e; rfl
    · conv => lhs; unfold lc
      rw [if_neg (h2 k (by omega) (by omega))]
      exact ihk (by omega) fun j q1 q2 => h2 j q1 (by omega)
theorem step_ok (hk:KOk P ih) (R:Run P ih ops n tm hp nx T) (hg:Glob P r) (h0:∀ b k,getB hp b=some k→b<nx) (hf:Fresh nx r) (hc:Closed ops L) (I:Inv P ops n hp T r w a L r' a' w') {i:Nat} {o:Oper} (ho:ops[i]?=some o) (hL:L i=false)
  (hready:∀ e∈o.after.toList,Region.binds .any e=true→L e.on=true) {N:Act→World→Prop} {Q:Exit→Act→World→Prop} (hN:∀ r'' a'' w'',Inv P ops n hp T r w a (setL L i) r'' a'' w''→N a'' w''):wpOp P ops Q i N a' w':=by
 have hi:i<ops.size:=(Array.getElem?_eq_some_iff.1 ho).1
 have ha:=closed_anc hc i fun o' ho'=>by rw[ho] at ho';injection ho' with ho';subst ho';exact hready
 have ht:=acO_ok R hc I ho hL ha
 have hn0:∀ k,k≤ops.size→nx≤(T k).nx:=fun k hk=>by have:=R.nx_mono (Nat.zero_le k) hk;rw[R.start] at this;exact this
 have gl:∀ m,nx≤m→Glob P (below r' m):=fun m hm c hcg=>by
  obtain⟨xt,h1⟩:=hg c hcg
  have:c<nx:=by
   by_cases hlt:c<nx
   ·exact hlt
   ·rw[hf c (by omega)] at h1;exact absurd h1 (by simp)
  exact⟨xt,by unfold below;rw[if_pos (by omega)];exact I.ext.le _ _ h1⟩
 obtain⟨hdst,v,hS⟩:=R.cases ho
 have h2:∀ t,o.dst=some t→∀ j,i<j→(ops[j]?).bind (·.dst)=some t→L j=false:=fun t ht=>(looks R hc ho hL ha (.inr ht)).2
 have hwd:∀ {t},wanted? ops o.guard (qAt ops T i o)=some t→Region.wanted o (yielded ops a'.tmps)=t:=fun {t} h=>by
  rw[← acO_wanted I.size (o:=o)];exact wanted_ok ht h
 simp only[wpOp,ho]
 have hS':=hS
 cases hS with
 | no hw hT =>
  rw[hwd hw]
  exact hN _ _ _ (quiet R I ho hdst h2 hS' rel_undef (isK_no ho hw) (isK_no ho hw))
 | pure _ hp' nx' hw hcl hX hT =>
  rw[hwd hw,if_pos rfl]
  have gl0:Gam (getB .leaf) (below r' (T i).nx) w':=⟨fun b k h=>absurd (show getP (pos b) .leaf=some k from h) (by rw[getP_leaf];simp),fun b x h=>I.real b x (below_some h).2,fun b k x b' k' x' h=>absurd (show getP (pos b) .leaf=some k from h) (by rw[getP_leaf];simp)⟩
  obtain⟨x,hrun,hx⟩:=still_ok ht (gl _ (hn0 i (by omega))) gl0 (.inl hcl) hX
  rw[acO_exec I.size fun cs b e=>by rw[e] at hcl;exact Cl.noConfusion hcl] at hrun
  refine .inl ?_
  unfold Oper.wp
  rw[hrun]
  have e:(T (i+1)).nx=(T i).nx:=by rw[hT]
  exact hN _ _ _ (quiet R I ho hdst h2 hS' (by rw[e];exact hx) (fun h=>absurd ((isK_iff ho hw hcl).1 h) (by simp)) (fun h=>absurd ((isK_iff ho hw hcl).1 h) (by simp)))
 | make _ hp' nx' b hw hcl hX hb hT =>
  rw[hwd hw,if_pos rfl]
  obtain⟨obj,u,hrun,hu⟩:=make_run ht (gl _ (hn0 i (by omega))) hcl hX hb w'
  rw[acO_exec I.size fun cs b e=>by rw[e] at hcl;exact Cl.noConfusion hcl] at hrun
  refine .inl ?_
  unfold Oper.wp
  rw[hrun]
  exact hN _ _ _ (make_inv R hc I ho hL hdst h2 hS' ((isK_iff ho hw hcl).2 rfl) (fun h=>absurd ((isK_iff ho hw hcl).1 h) (by simp)) (b:=b) (by rw[hT];rfl) hu)
 | read _ hp' nx' hw hcl hX hkb hT =>
  rw[hwd hw,if_pos rfl]
  have hnc:¬ isK ops T .chain i:=fun h=>absurd ((isK_iff ho hw hcl).1 h) (by simp)
  have hnm:¬ isK ops T .make i:=fun h=>absurd ((isK_iff ho hw hcl).1 h) (by simp)
  have hlcN:=(lc_spec (ops:=ops) (T:=T) (L:=L) ops.size).1
  have glc:=I.gam _ (Nat.le_refl _) hlcN
  have hlc:=hd_lc (L:=L) R ops.size
  have e:(T (i+1)).nx=(T i).nx:=by rw[hT]
  have key:∃ x,(execOp (acO (Oper.looksAt ops o) n a').eval o).run P w'=.ok (.value x) w'∧Rel (below r' (T (i+1)).nx) v x:=by
   rw[e]
   by_cases hlt:lc ops T L ops.size≤i
   ·obtain⟨h1,n1,hX'⟩ : Rd P o (qAt ops T i o) v (T (lc ops T L ops.size)).hp:=by
     rw[lc_const (i:=i) ops.size (by omega) fun j q1 q2=>(lc_spec (ops:=ops) (T:=T) (L:=L) ops.size).2.2 j (by omega) q2]
     exact back R ha i (by omega) hkb ⟨hp',nx',hX⟩
    have gi:Gam (getB (T (lc ops T L ops.size)).hp) (below r' (T i).nx) w':=by
     refine (I.gam i hlt (by omega)).sub fun b k hb=>?_
     rw[← hlc] at hb
     have hdom:=hd_dom R h0 I.low _ hlcN b k hb
     rw[hd_low R hdom i hlt (by omega) fun j q1 q2=>(lc_spec (ops:=ops) (T:=T) (L:=L) ops.size).2.2 j q1 (by omega)]
     exact hb
    exact still_ok ht (gl _ (hn0 i (by omega))) gi (.inr hcl) hX'
   ·obtain⟨c,hcq⟩ : ∃ c,lc ops T L ops.size=c+1:=⟨lc ops T L ops.size - 1,by omega⟩
    obtain⟨hLc,hcc⟩:=(lc_spec (ops:=ops) (T:=T) (L:=L) ops.size).2.1 c hcq
    have hci:c≠i:=fun e=>hnc (e ▸ hcc)
    have hmem:(⟨i,o,qAt ops T i o,v,(T i).nx⟩ : Wa)∈(T c).wa:=R.wa (i:=i+1) (by rw[hT];exact List.mem_cons_self) c (by omega) (by omega)
    obtain⟨oc,hoc,hwc,hclc⟩:=hcc
    obtain⟨_,vc,hSc⟩:=R.cases hoc
    rcases hSc.past hoc with ⟨_,_,_,c4⟩ | ⟨c1,_⟩
    ·rcases waOk_ok c4 _ hmem with hbit | ⟨⟨h1,n1,hX'⟩,hlow⟩
     ·have:=closed_anc' hc hLc hbit
      rw[show (L i=true)=(false=true) by rw[hL]] at this
      exact absurd this (by decide)
     ·rw[← hcq] at hX'
      rw[hlc] at glc
      have ht':=ht.mono (below_mono (Rho.le_refl r') (R.nx_mono (show i≤lc ops T L ops.size by omega) hlcN))
      obtain⟨x,q1,q2⟩:=still_ok ht' (gl _ (hn0 _ hlcN)) glc (.inr hcl) hX'
      refine⟨x,q1,(lowV_ok hlow q2).mono (fun b y hb=>?_) _ _⟩
      obtain⟨p1,p2⟩:=below_some hb
      unfold below;rw[if_pos p1];exact (below_some p2).2
    ·exact absurd ⟨oc,hoc,hwc,hclc⟩ c1
  obtain⟨x,hrun,hx⟩:=key
  rw[acO_exec I.size fun cs b e=>by rw[e] at hcl;exact Cl.noConfusion hcl] at hrun
  refine .inl ?_
  unfold Oper.wp
  rw[hrun]
  exact hN _ _ _ (quiet R I ho hdst h2 hS' hx hnm hnc)
 | chain _ hp' nx' hw hcl g1 g2 hX hn hwa hT =>
  rw[hwd hw,if_pos rfl]
  have hkc:isK ops T .chain i:=(isK_iff ho hw hcl).2 rfl
  have hnm:¬ isK ops T .make i:=fun h=>absurd ((isK_iff ho hw hcl).1 h) (by simp)
  have hlt:=lc_le (ops:=ops) hL (later R hc hL (.inr hkc))
  have g:Gam (getB (unpend (T i).pend (T i).hp)) (below r' (T i).nx) w':=by
   rw[hd_text R i (by omega),← hd_congr (L:=L) i fun j hj hkj=>by rw[R.chain_all hc hkc ha j hj hkj]]
   exact I.gam i hlt (by omega)
  have e1:(T (i+1)).hp=hp':=by rw[hT]
  have e2:(T (i+1)).nx=nx':=by rw[hT]
  have hsel:∀ cs b,o.op≠.select cs b:=fun cs b e=>by
   rw[e] at hX
   rcases hX with hX | ⟨f,args,hX,_⟩
   ·exact absurd (show Ev.R.no=_ from hX) (by simp)
   ·exact absurd (show Ev.R.no=_ from hX) (by simp)
  have hres:=opX_ok (o:=o) ht (gl _ (hn0 i (by omega))) g (below_fresh r' (T i).nx)
  refine .inl ?_
  rcases hX with hX | ⟨f,args,hX,hcall⟩
  ·rw[hX] at hres
   obtain⟨x,w1,r1,hrun,hx,E,F,G,hf1⟩:=hres
   rw[acO_exec I.size hsel] at hrun
   have hI:=chain_inv R h0 hf hc I ho hL hdst h2 hS' hkc hnm hx E F (by rw[e1];exact G) (by rw[e2];exact hf1)
   unfold Oper.wp
   rcases hrun with hrun | ⟨hrun,rfl⟩
   ·rw[hrun];exact hN _ _ _ hI
   ·rw[hrun];exact hN _ _ _ hI
  ·rw[hX] at hres
   obtain⟨us,hrun,hus⟩:=hres
   rw[acO_exec I.size hsel] at hrun
   have hcl':=(hk.call _ _ _ _ _ _ _ _ _ hcall (below r' (T i).nx) w' us hus (gl _ (hn0 i (by omega))) g (below_fresh r' (T i).nx)).1 rfl
   unfold Oper.wp
   rw[hrun]
   refine hcl'.mono ?_
   rintro e w1 ⟨x,r1,rfl,hx,E,F,G,hf1⟩
   exact hN _ _ _ (chain_inv R h0 hf hc I ho hL hdst h2 hS' hkc hnm hx E F (by rw[e1];exact G) (by rw[e2];exact hf1))
end
end Go.Proofs.YtoalnjpeblgkbabGreatDoor.Ev
set_option linter.unusedVariables false
set_option linter.unusedSimpArgs false
namespace Go.Proofs.YtoalnjpeblgkbabGreatDoor.Ev
section
variable {P : Program} {ih : K} {ops : Array Oper} {n nx : Nat} {tm : Tr AV} {hp : Hp} {T : Nat → Ds} {r : Rho} {w : World} {a : Act}
theorem mem_ready {listed:Array Bool} {i:Nat} : i∈Region.ready .any ops listed↔i<ops.size∧listed.getD i true=false∧∃ o,ops[i]?=some o∧∀ e∈o.after.toList,Region.binds .any e=true→listed.getD e.on false=true:=by
 unfold Region.ready
 rw[List.mem_filter,List.mem_range]
 cases ho:ops[i]? with
 | none=>simp
 | some o =>
  simp only[Option.map_some,Option.getD_some,Bool.and_eq_true,Bool.not_eq_true',Option.some.injEq,exists_eq_left',Array.all_eq_true',Bool.or_eq_true]
  refine and_congr_right fun _=>and_congr_right fun _=>?_
  constructor
  ·intro h e he hb
   rcases h e (by simpa using he) with h | h
   ·rw[hb] at h;exact absurd h (by decide)
   ·exact h
  ·intro h e he
   cases hb:Region.binds .any e with
   | false=>exact .inl rfl
   | true=>exact .inr (h e (by simpa using he) hb)
theorem all_listed (R:Run P ih ops n tm hp nx T) {listed:Array Bool} (hs:listed.size=ops.size) (h:Region.ready .any ops listed=[]):∀ j,j<ops.size→listed.getD j true=true:=by
 intro j
 induction j using Nat.strongRecOn with
 | _ j ihj =>
  intro hj
  cases hl:listed.getD j true with
  | true=>rfl
  | false =>
   have ho:ops[j]?=some ops[j]:=Array.getElem?_eq_getElem hj
   have:j∈Region.ready .any ops listed:=mem_ready.2 ⟨hj,hl,_,ho,fun e he hb=>by
    have hlt:=R.edges j _ ho e he hb
    have:=ihj e.on hlt (by omega)
    rw[Array.getD_eq_getD_getElem?,Array.getElem?_eq_getElem (show e.on<listed.size by omega)] at this ⊢
    exact this⟩
   rw[h] at this;exact absurd this (by simp)
theorem draw_any (hk:KOk P ih) (R:Run P ih ops n tm hp nx T) (hg:Glob P r) (h0:∀ b k,getB hp b=some k→b<nx) (hf:Fresh nx r) {Q:Exit→Act→World→Prop}
  (hQ:∀ L r'' a'' w'',(∀ j,j<ops.size→L j=true)→Inv P ops n hp T r w a L r'' a'' w''→Q .normal a'' w'') :
  ∀ fuel (listed:Array Bool) (L:Nat→Bool) r' a' w',listed.size=ops.size→(∀ j,j<ops.size→listed[j]?=some (L j))→listed.toList.count false≤fuel→Closed ops L→Inv P ops n hp T r w a L r' a' w'→wpAny P .any ops Q fuel listed a' w':=by
 intro fuel
 induction fuel with
 | zero =>
  intro listed L r' a' w' hs hL hcnt hc I
  have hall:∀ j,j<ops.size→L j=true:=fun j hj=>by
   cases h:L j with
   | true=>rfl
   | false =>
    have h1:=hL j hj
    rw[h] at h1
    have:false∈listed.toList:=by
     rw[List.mem_iff_getElem?];exact⟨j,by simpa using h1⟩
    have:=List.count_pos_iff.2 this
    omega
  refine⟨?_,hQ L r' a' w' hall I⟩
  rw[List.eq_nil_iff_forall_not_mem]
  intro i hi
  obtain⟨h1,h2,_⟩:=mem_ready.1 hi
  rw[Array.getD_eq_getD_getElem?,hL i h1,hall i h1] at h2
  exact absurd h2 (by decide)
 | succ fuel ihf =>
  intro listed L r' a' w' hs hL hcnt hc I
  refine⟨fun h=>?_,fun i hi=>?_⟩
  ·have:=all_listed R hs h
   refine hQ L r' a' w' (fun j hj=>?_) I
   have h1:=this j hj
   rw[Array.getD_eq_getD_getElem?,hL j hj] at h1
   exact h1
  ·obtain⟨h1,h2,o,ho,h3⟩:=mem_ready.1 hi
   have hLi:L i=false:=by
    rw[Array.getD_eq_getD_getElem?,hL i h1] at h2;exact h2
   have hready:∀ e∈o.after.toList,Region.binds .any e=true→L e.on=true:=fun e he hb=>by
    have:=h3 e he hb
    have hlt:=R.edges i o ho e he hb
    rw[Array.getD_eq_getD_getElem?,hL e.on (by omega)] at this
    exact this
   refine step_ok hk R hg h0 hf hc I ho hLi hready fun r'' a'' w'' I'=>?_
   refine ihf _ (setL L i) r'' a'' w'' (by simp[hs]) (fun j hj=>?_) ?_ (fun j p hj hp e he hb=>?_) I'
   ·by_cases e:j=i
    ·subst e;rw[Array.getElem?_setIfInBounds_self,if_pos (by omega),setL_same]
    ·rw[Array.getElem?_setIfInBounds_ne (Ne.symm e),hL j hj,setL_other L e]
   ·rw[Array.toList_setIfInBounds,List.count_set (by simpa using (by omega:i<listed.size))]
    have hli : listed.toList[i]'(by simpa using (by omega : i < listed.size)) = false := by
     have:=hL i h1
     rw[hLi,Array.getElem?_eq_getElem (by omega)] at this
     injection this
    rw[hli]
    have hm:false∈listed.toList:=by rw[← hli];exact List.getElem_mem _
    have:=List.count_pos_iff.2 hm
    simp only[beq_self_eq_true,if_true,show (true==false)=false from rfl,Bool.false_eq_true,if_false];omega
   ·by_cases hji:j=i
    ·subst hji
     rw[ho] at hp;injection hp with hp;subst hp
     have:=hready e he hb
     unfold setL;split <;> first | rfl | exact this
    ·rw[setL_other L hji] at hj
     have:=hc j p hj hp e he hb
     unfold setL;split <;> first | rfl | exact this
theorem df_keep (R:Run P ih ops n tm hp nx T):∀ i,i≤ops.size→getP .h (T i).tm=getP .h tm:=by
 intro i
 induction i with
 | zero=>intro _;rw[R.start]
 | succ i ihi =>
  intro hi
  obtain⟨_,v,hS⟩:=R.cases (Array.getElem?_eq_getElem (show i<ops.size by omega))
  rw[hS.tm_eq]
  unfold setT
  split
  ·rw[getP_setP_other _ _ _ _ (Ne.symm (pos_succ_ne _))];exact ihi (by omega)
  ·exact ihi (by omega)
theorem below_id {m:Nat} (hf:Fresh m r):below r m=r:=by
 funext b;unfold below
 split
 ·rfl
 ·rename_i h;exact (hf b (by omega)).symm
end
theorem draw_ok {P:Program} (hm:P.follows .mixedOrders=true):DrawOk P:=by
 intro ih hk id ops tm n hp nx r w a ht hg g hf hgood
 unfold drawS at hgood ⊢
 cases hdr:drawOk ops ops.toList (ancs ops.toList []) ops.toList 0 [] with
 | false=>rw[hdr] at hgood;exact absurd (show false=true from hgood) (by decide)
 | true =>
  cases hr:dRun P ih ops n (ancs ops.toList []) ops.toList 0 { tm,hp,pend:=[],nx,hist:=[],chs:=[],wa:=[] } with
  | none=>rw[hdr,hr] at hgood;exact absurd (show false=true from hgood) (by decide)
  | some s =>
   show (Code.region id ops true).wp P (Post P r w n (.norm s.tm (unpend s.pend s.hp) s.nx)) a w
   obtain⟨T,t1,t2,t3⟩:=dRun_states hr
   have t3':T ops.size=s:=by rw[Nat.zero_add] at t3;simpa using t3
   have R:Run P ih ops n tm hp nx T:=⟨t1,fun i o ho=>by
    have:=t2 i o (by simpa using ho)
    rw[Nat.zero_add] at this
    exact this,(region_checks hdr).1,(region_checks hdr).2⟩
   have h0:∀ b k,getB hp b=some k→b<nx:=fun b k h=>by
    obtain⟨x,h1,_⟩:=g.blk b k h
    by_cases hlt:b<nx
    ·exact hlt
    ·rw[hf b (by omega)] at h1;exact absurd h1 (by simp)
   have hlw:∀ (t:Tmp) (k:Nat),lw ops (fun _=>false) t k=0:=fun t k=>by
    induction k with
    | zero=>rfl
    | succ k ihk=>unfold lw;rw[if_neg fun h=>absurd h.1 (by decide),ihk]
   have hlc:∀ (k:Nat),lc ops T (fun _=>false) k=0:=fun k=>by
    induction k with
    | zero=>rfl
    | succ k ihk=>unfold lc;rw[if_neg fun h=>absurd h.1 (by decide),ihk]
   have hhd:∀ (k:Nat),hd ops hp T (fun _=>false) k=getB hp:=fun k=>by
    induction k with
    | zero=>rfl
    | succ k ihk=>unfold hd;rw[if_neg fun h=>absurd h.1 (by decide),if_neg fun h=>absurd h.1 (by decide),ihk]
   have hn:∀ k,k≤ops.size→nx≤(T k).nx:=fun k hk=>by have:=R.nx_mono (Nat.zero_le k) hk;rw[R.start] at this;exact this
   have fresh:∀ m,nx≤m→Fresh m r:=fun m hm b hb=>hf b (by omega)
   have start:Inv P ops n hp T r w a (fun _=>false) r a w.drew :=
    {size:=ht.size,defs:=rfl
     slot:=fun t=>by
      rw[hlw t ops.size,below_id (fresh _ (hn 0 (Nat.zero_le _)))]
      have:(T 0).tm=tm:=by rw[R.start]
      rw[this];exact ht.slot t
     gam:=fun k _ h2=>by rw[hhd k,below_id (fresh _ (hn k h2))];exact g.drew
     real:=fun b x h=>g.drew.real b x h
     ext:=Ext.refl _ _
     fr:=Fr.drew _ _
     dom:=fun b hb=>by
      left
      rw[hlc ops.size]
      have:=hn 0 (Nat.zero_le _)
      by_cases hlt:b<nx
      ·omega
      ·exact absurd (hf b (by omega)) hb
     apt:=fun j _ _ h=>absurd h (by decide)
     low:=fun c h=>absurd h (by decide) }
   refine wp_region_any hm ?_
   refine draw_any (w:=w) (a:=a) hk R hg h0 hf (fun L r' a' w' hall I=>?_) ops.size _ (fun _=>false) r a w.drew (by simp) (fun j hj=>by simp[hj]) (by simp[List.count_replicate]) (fun j o h=>absurd (show false=true from h) (by decide)) start
   have hfr:Fresh (T ops.size).nx r':=fun b hb=>by
    cases h:r' b with
    | none=>rfl
    | some y =>
     rcases I.dom b (by rw[h];simp) with h1 | ⟨j,h1,h2,h3,h4,h5⟩
     ·have:=R.nx_mono (lc_spec (ops:=ops) (T:=T) (L:=L) ops.size).1 (Nat.le_refl _);omega
     ·have:=(R.make_nx h3).2
      have:=R.nx_mono (show j+1≤ops.size by omega) (Nat.le_refl _)
      omega
   refine⟨rfl,r',⟨I.size,fun t=>?_,?_⟩,I.ext,I.fr,?_,by rw[← t3'];exact hfr⟩
   ·obtain⟨q1,q2,q3⟩:=lw_spec (ops:=ops) (L:=L) t ops.size
    rw[← t3',slot_keep R (t:=t) (b:=lw ops L t ops.size) ops.size q1 (Nat.le_refl _) fun j e1 e2 e3=>q3 j e1 e2 ⟨hall j e2,e3⟩]
    exact (I.slot t).mono (below_le r' _) _ _
   ·rw[← t3',df_keep R _ (Nat.le_refl _),I.defs]
    exact ht.defs.mono I.ext.le
   ·have hG:=I.gam ops.size (lc_spec (ops:=ops) (T:=T) (L:=L) ops.size).1 (Nat.le_refl _)
    rw[below_id hfr] at hG
    rw[← t3',hd_text R _ (Nat.le_refl _),← hd_congr (L:=L) ops.size fun j hj _=>hall j hj]
    exact hG
theorem ev_holds {P:Program} {hook:Hook} (hm:P.follows .mixedOrders=true) (hh:HookOk P hook):∀ m,KOk P (ev hook P m):=ev_ok (draw_ok hm) hh
end Go.Proofs.YtoalnjpeblgkbabGreatDoor.Ev
set_option linter.unusedVariables false
set_option linter.unusedSimpArgs false
namespace Go.Proofs.YtoalnjpeblgkbabGreatDoor.Ev
noncomputable section
mutual
def eqAV:AV→AV→Bool
 | .func f a b,y=>match y with | .func g c d=>and (Nat.beq f g) (and (eqAVs a c) (eqAVs b d)) | _=>false
 | .iface t a,y=>match y with | .iface u b=>and (Nat.beq t u) (eqAV a b) | _=>false
 | .agg l,y=>match y with | .agg m=>eqAVs l m | _=>false
 | .tuple l,y=>match y with | .tuple m=>eqAVs l m | _=>false
 | .bool b,y=>eqA (.bool b) y
 | .int k n,y=>eqA (.int k n) y
 | .str s,y=>eqA (.str s) y
 | .ptr b o,y=>eqA (.ptr b o) y
 | .nilPtr,y=>eqA .nilPtr y
 | .slice b o l c e,y=>eqA (.slice b o l c e) y
 | .nilSlice,y=>eqA .nilSlice y
 | .map b,y=>eqA (.map b) y
 | .nilMap,y=>eqA .nilMap y
 | .nilFunc,y=>eqA .nilFunc y
 | .nilIface,y=>eqA .nilIface y
def eqAVs:List AV→List AV→Bool
 | [],y=>match y with | []=>true | _=>false
 | a :: l,y=>match y with | b :: m=>sel (eqAV a b) (eqAVs l m) false | []=>false
end
mutual
theorem eqAV_eq:∀ (x y:AV),eqAV x y=true→x=y
 | .func f a b,y,h=>by
  unfold eqAV at h
  cases y <;> first | exact absurd (show false=true from h) (by decide) | skip
  rename_i g c d
  obtain⟨h1,h2⟩:=and2 (show and (Nat.beq f g) (and (eqAVs a c) (eqAVs b d))=true from h)
  obtain⟨h3,h4⟩:=and2 h2
  rw[beq_eq h1,eqAVs_eq a c h3,eqAVs_eq b d h4]
 | .iface t a,y,h=>by
  unfold eqAV at h
  cases y <;> first | exact absurd (show false=true from h) (by decide) | skip
  rename_i u b
  obtain⟨h1,h2⟩:=and2 (show and (Nat.beq t u) (eqAV a b)=true from h)
  rw[beq_eq h1,eqAV_eq a b h2]
 | .agg l,y,h=>by
  unfold eqAV at h
  cases y <;> first | exact absurd (show false=true from h) (by decide) | skip
  rename_i m
  rw[eqAVs_eq l m h]
 | .tuple l,y,h=>by
  unfold eqAV at h
  cases y <;> first | exact absurd (show false=true from h) (by decide) | skip
  rename_i m
  rw[eqAVs_eq l m h]
 | .bool b,y,h=>by unfold eqAV at h;exact eqA_eq h
 | .int k n,y,h=>by unfold eqAV at h;exact eqA_eq h
 | .str s,y,h=>by unfold eqAV at h;exact eqA_eq h
 | .ptr b o,y,h=>by unfold eqAV at h;exact eqA_eq h
 | .nilPtr,y,h=>by unfold eqAV at h;exact eqA_eq h
 | .slice b o l c e,y,h=>by unfold eqAV at h;exact eqA_eq h
 | .nilSlice,y,h=>by unfold eqAV at h;exact eqA_eq h
 | .map b,y,h=>by unfold eqAV at h;exact eqA_eq h
 | .nilMap,y,h=>by unfold eqAV at h;exact eqA_eq h
 | .nilFunc,y,h=>by unfold eqAV at h;exact eqA_eq h
 | .nilIface,y,h=>by unfold eqAV at h;exact eqA_eq h
theorem eqAVs_eq:∀ (x y:List AV),eqAVs x y=true→x=y
 | [],y,h=>by
  unfold eqAVs at h
  cases y <;> first | rfl | exact absurd (show false=true from h) (by decide)
 | a :: l,y,h=>by
  unfold eqAVs at h
  cases y with
  | nil=>exact absurd (show false=true from h) (by decide)
  | cons b m =>
   have h':sel (eqAV a b) (eqAVs l m) false=true:=h
   cases hb:eqAV a b with
   | false=>rw[hb] at h';exact absurd (show false=true from h') (by decide)
   | true=>rw[hb] at h';rw[eqAV_eq a b hb,eqAVs_eq l m h']
end
def eqE (x:List (AV×AV)):List (AV×AV)→Bool :=
 List.rec (motive:=fun _=>List (AV×AV)→Bool) (fun y=>List.rec (motive:=fun _=>Bool) true (fun _ _ _=>false) y)
  (fun a _ eq y=>List.rec (motive:=fun _=>Bool) false (fun b y _=>sel (and (eqAV a.1 b.1) (eqAV a.2 b.2)) (eq y) false) y) x
theorem eqE_eq:∀ {x y:List (AV×AV)},eqE x y=true→x=y:=by
 intro x
 induction x with
 | nil=>intro y h;cases y with | nil=>rfl | cons _ _=>exact absurd (show false=true from h) (by decide)
 | cons a x ih =>
  intro y h
  cases y with
  | nil=>exact absurd (show false=true from h) (by decide)
  | cons b y =>
   have h':sel (and (eqAV a.1 b.1) (eqAV a.2 b.2)) (eqE x y) false=true:=h
   cases hb:and (eqAV a.1 b.1) (eqAV a.2 b.2) with
   | false=>rw[hb] at h';exact absurd (show false=true from h') (by decide)
   | true =>
    rw[hb] at h'
    obtain⟨h1,h2⟩:=and2 hb
    have:a=b:=Prod.ext (eqAV_eq _ _ h1) (eqAV_eq _ _ h2)
    rw[this,ih h']
theorem strEq_eq' {s t:List Nat} (h:strEq s t=true):s=t:=by
 have:=eqA_eq (x:=.str s) (y:=.str t) h
 injection this
def eqB (b c:Bool):Bool:=sel b c (not c)
theorem eqB_eq {b c:Bool} (h:eqB b c=true):b=c:=by cases b <;> cases c <;> first | rfl | exact absurd (show false=true from h) (by decide)
def eqBlk (x y:Blk):Bool :=
 match x with
 | .cells cs sz own sh=>(match y with | .cells cs' sz' own' sh'=>and (eqAVs cs cs') (and (Nat.beq sz sz') (and (eqB own own') (strEq sh sh'))) | _=>false)
 | .map es own=>(match y with | .map es' own'=>and (eqE es es') (eqB own own') | _=>false)
 | .iter s p=>(match y with | .iter s' p'=>and (strEq s s') (Nat.beq p p') | _=>false)
theorem eqBlk_eq {x y:Blk} (h:eqBlk x y=true):x=y:=by
 cases x with
 | cells cs sz own sh =>
  cases y <;> first | exact absurd (show false=true from h) (by decide) | skip
  rename_i cs' sz' own' sh'
  obtain⟨h1,h2⟩:=and2 (show and (eqAVs cs cs') (and (Nat.beq sz sz') (and (eqB own own') (strEq sh sh')))=true from h)
  obtain⟨h3,h4⟩:=and2 h2
  obtain⟨h5,h6⟩:=and2 h4
  rw[eqAVs_eq _ _ h1,beq_eq h3,eqB_eq h5,strEq_eq' h6]
 | map es own =>
  cases y <;> first | exact absurd (show false=true from h) (by decide) | skip
  rename_i es' own'
  obtain⟨h1,h2⟩:=and2 (show and (eqE es es') (eqB own own')=true from h)
  rw[eqE_eq h1,eqB_eq h2]
 | iter s p =>
  cases y <;> first | exact absurd (show false=true from h) (by decide) | skip
  rename_i s' p'
  obtain⟨h1,h2⟩:=and2 (show and (strEq s s') (Nat.beq p p')=true from h)
  rw[strEq_eq' h1,beq_eq h2]
def mkH (l:List (Nat×Blk)):Hp:=List.rec (motive:=fun _=>Hp) .leaf (fun p _ r=>setB (some p.2) p.1 r) l
def hasAll (l:List (Nat×Blk)) (hp:Hp):Bool:=List.rec (motive:=fun _=>Bool) true (fun p _ r=>sel (match getB hp p.1 with | some k=>eqBlk k p.2 | none=>false) r false) l
theorem hasAll_ok {hp:Hp} : ∀ {l:List (Nat×Blk)},hasAll l hp=true→∀ b k,getB (mkH l) b=some k→getB hp b=some k:=by
 intro l
 induction l with
 | nil=>intro _ b k h;exact absurd (show getP (pos b) .leaf=some k from h) (by rw[getP_leaf];simp)
 | cons p l ih =>
  intro h b k hb
  have h':sel (match getB hp p.1 with | some k=>eqBlk k p.2 | none=>false) (hasAll l hp) false=true:=h
  have hb':getB (setB (some p.2) p.1 (mkH l)) b=some k:=hb
  rw[getB_put] at hb'
  cases hq:getB hp p.1 with
  | none=>rw[hq] at h';exact absurd (show false=true from h') (by decide)
  | some j =>
   rw[hq] at h'
   have h':sel (eqBlk j p.2) (hasAll l hp) false=true:=h'
   cases he:eqBlk j p.2 with
   | false=>rw[he] at h';exact absurd (show false=true from h') (by decide)
   | true =>
    rw[he] at h'
    unfold putH at hb'
    split at hb'
    ·rename_i e;subst e;injection hb' with hb';subst hb';rw[hq,eqBlk_eq he]
    ·exact ih h' b k hb'
structure Known where
 f:FuncId
 args:List AV
 S:List (Nat×Blk)
 nx:Nat
 v:AV
 S':List (Nat×Blk)
 nx':Nat
def Known.ok (P:Program) (k:Known):Prop:=CallOk P 0 k.f k.args (mkH k.S) k.nx k.v (mkH k.S') k.nx'
def Known.fits (k:Known) (mode:Nat) (f:FuncId) (args:List AV) (hp:Hp) (nx:Nat):Bool :=
 and (Nat.beq mode 0) (and (Nat.beq f k.f) (and (Nat.ble nx k.nx) (and (eqAVs args k.args) (hasAll k.S hp))))
def hookOf (l:List Known):Hook:=fun mode f args hp nx =>
 List.rec (motive:=fun _=>Option (AV×Hp×Nat)) none (fun k _ r=>sel (k.fits mode f args hp nx) (some (k.v,mkH k.S',k.nx')) r) l
theorem hookOf_ok {P:Program} : ∀ {l:List Known},(∀ k∈l,k.ok P)→HookOk P (hookOf l):=by
 intro l
 induction l with
 | nil=>intro _ mode f args hp nx v hp' nx' h;exact absurd (show none=some (v,hp',nx') from h) (by simp)
 | cons k l ih =>
  intro hl mode f args hp nx v hp' nx' h
  have h':sel (k.fits mode f args hp nx) (some (k.v,mkH k.S',k.nx')) (hookOf l mode f args hp nx)=some (v,hp',nx'):=h
  cases hb:k.fits mode f args hp nx with
  | false=>rw[hb] at h';exact ih (fun q hq=>hl q (List.mem_cons_of_mem _ hq)) mode f args hp nx v hp' nx' h'
  | true =>
   rw[hb] at h'
   injection (show some (k.v,mkH k.S',k.nx')=some (v,hp',nx') from h') with h'
   injection h' with e1 e2
   injection e2 with e2 e3
   subst e1;subst e2;subst e3
   obtain⟨g1,g2⟩:=and2 hb
   obtain⟨g3,g4⟩:=and2 g2
   obtain⟨g5,g6⟩:=and2 g4
   obtain⟨g7,g8⟩:=and2 g6
   have e1:=beq_eq g1;have e2:=beq_eq g3;have e3:=eqAVs_eq _ _ g7
   subst e1
   have e2:f=k.f:=e2
   subst e2;subst e3
   intro r w us hus hg g hf
   exact hl k List.mem_cons_self r w us hus hg (g.sub (hasAll_ok g8)) fun b hb=>hf b (Nat.le_trans (ble_le g5) hb)
def hookOr (h1 h2:Hook):Hook:=fun mode f args hp nx=>Option.rec (motive:=fun _=>Option (AV×Hp×Nat)) (h2 mode f args hp nx) some (h1 mode f args hp nx)
theorem hookOr_ok {P:Program} {h1 h2:Hook} (g1:HookOk P h1) (g2:HookOk P h2):HookOk P (hookOr h1 h2):=by
 intro mode f args hp nx v hp' nx' h
 unfold hookOr at h
 cases hq:h1 mode f args hp nx with
 | none=>rw[hq] at h;exact g2 mode f args hp nx v hp' nx' h
 | some q=>rw[hq] at h;exact g1 mode f args hp nx v hp' nx' (hq.trans h)
def retHook (f1:FuncId) (na:Nat):Hook:=fun mode f args hp nx=>sel (and (Nat.beq mode 1) (and (Nat.beq f f1) (Nat.beq (lenL args) na))) (some (.tuple [],hp,nx)) none
theorem retHook_ok {P:Program} {f1:FuncId} {na:Nat} (h:∀ us:Array Value,us.size=na→∀ w,CallsD P f1 us .returning w fun e u w'=>e=.returned (.tuple #[])∧u=.returning∧w'=w):HookOk P (retHook f1 na):=by
 intro mode f args hp nx v hp' nx' hh
 obtain⟨h1,h2⟩:=sel_none (show sel (and (Nat.beq mode 1) (and (Nat.beq f f1) (Nat.beq (lenL args) na))) (some (AV.tuple [],hp,nx)) none=some (v,hp',nx') from hh)
 injection h2 with h2
 injection h2 with e1 e2
 injection e2 with e2 e3
 subst e1;subst e2;subst e3
 obtain⟨g1,g2⟩:=and2 h1
 obtain⟨g2,g3⟩:=and2 g2
 have e1:=beq_eq g1;have e2:f=f1:=beq_eq g2;have e3:=beq_eq g3
 subst e1;subst e2
 intro r w us hus hg g hf
 refine⟨fun h=>absurd h (by decide),fun _=>(h us (by have:=hus.length;rw[← e3,lenL_eq,← this];simp) w).mono ?_⟩
 rintro e u w' ⟨rfl,rfl,rfl⟩
 exact⟨_,r,rfl,rfl,rel_undef,Ext.refl _ _,Fr.refl _ _,g,hf⟩
def runOk (o:Out) (v:AV) (S':List (Nat×Blk)) (nx':Nat):Bool:=match o with | .value u hp nx=>and (eqAV u v) (and (Nat.beq nx nx') (hasAll S' hp)) | _=>false
theorem known_ok {P:Program} {hook:Hook} (hm:P.follows .mixedOrders=true) (hh:HookOk P hook) (m:Nat) (k:Known) (h:runOk (ev hook P m (.call k.f k.args) .leaf 0 (mkH k.S) k.nx) k.v k.S' k.nx'=true):k.ok P:=by
 cases ho:ev hook P m (.call k.f k.args) .leaf 0 (mkH k.S) k.nx with
 | value u hp nx =>
  rw[ho] at h
  obtain⟨h1,h2⟩:=and2 (show and (eqAV u k.v) (and (Nat.beq nx k.nx') (hasAll k.S' hp))=true from h)
  obtain⟨h3,h4⟩:=and2 h2
  have e1:=eqAV_eq _ _ h1;have e2:=beq_eq h3
  have hc:=(ev_holds hm hh m).call _ _ _ _ _ _ _ _ _ ho
  intro r w us hus hg g hf
  refine⟨fun _=>((hc r w us hus hg g hf).1 rfl).mono ?_,fun h=>absurd h (by decide)⟩
  rintro e w' ⟨x,r',q1,q2,q3,q4,q5,q6⟩
  exact⟨x,r',q1,e1 ▸ q2,q3,q4,q5.sub (hasAll_ok h4),e2 ▸ q6⟩
 | norm _ _ _=>rw[ho] at h;exact absurd (show false=true from h) (by decide)
 | exit _ _ _ _=>rw[ho] at h;exact absurd (show false=true from h) (by decide)
 | ret _ _ _=>rw[ho] at h;exact absurd (show false=true from h) (by decide)
 | fail _=>rw[ho] at h;exact absurd (show false=true from h) (by decide)
end
end Go.Proofs.YtoalnjpeblgkbabGreatDoor.Ev
