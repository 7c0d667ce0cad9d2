/- The evaluator: copy, calls; all operations. -/
import Derived.KernelRfl
import Derived.Test.YtdmelebgdaiinaaGreatDoorJ11
set_option linter.unusedVariables false
set_option linter.unusedSimpArgs false
set_option linter.unusedVariables false
set_option linter.unusedSimpArgs false
namespace Go.Proofs.YtdmelebgdaiinaaGreatDoor.Ev
section
variable {P : Program} {r : Rho} {n : Nat} {tm : Tr AV} {a : Act} {w : World} {o : Oper} {hp : Hp} {nx : Nat}
theorem copy_ok (ht : TmOk r n tm a) (hg : Glob P r) (g : Gam (getB hp) r w) (hf : Fresh nx r) {xs : Array Operand} {ts : Array TypeId} (ho : o.op = .call ⟨.builtin .copy, xs, ts⟩) {vs : List AV} (hx : opnds P tm xs.toList = some vs) :
    ResOk P o a r w (xbCopy P ts vs hp nx) := by
  refine runR_ok fun e h1 => arg2_ok fun d x hv => runR_ok fun dl h2 => runR_ok fun xl h3 => ?_
  subst hv
  obtain ⟨t, h5, h6⟩ := bnd_some h1
  have ht0 := headT_ok h5
  obtain ⟨el, i, zu, z, d1, d2, d3, d4, rfl, d5, d6, d7, d8⟩ := elemZero_ok h6
  obtain ⟨u, ux, e1, e2, e3⟩ := args2 ht hg hx
  obtain ⟨A, c, f1, f2⟩ := lenOf_ok h2 e2
  obtain ⟨B, c', f3, f4⟩ := lenOf_ok h3 e3
  have hmin : sel (Nat.blt xl dl) xl dl = Nat.min xl dl := by
    cases hb : Nat.blt xl dl with
    | true => have := blt_lt hb; show xl = min xl dl; omega
    | false =>
      have : ¬ xl < dl := fun h => by
        have := Nat.ble_eq_true_of_le (show xl + 1 ≤ dl from h)
        rw [show Nat.blt xl dl = Nat.ble (xl + 1) dl from rfl, this] at hb; exact absurd hb (by decide)
      show dl = min xl dl; omega
  rw [hmin]
  generalize hm : Nat.min xl dl = m
  unfold copyB
  refine runR_ok fun new h4 => ?_
  have key : ∀ {w'}, (Builtin.copy_ ts o.type #[u, ux]).run P w = .ok (.int .i64 (m : Int)) w' → (execOp a.eval o).run P w = .ok (.value (.int .i64 (m : Int))) w' := fun h => by
    rw [exec_builtin ho, e1]
    simp only [builtin, Sem.run_bind, h, Result.andThen_ok, Sem.run_pure]
  -- what is copied
  have hsrc : ∃ us : List Value, Rels r new us ∧ us.length = m * i.size ∧ (Builtin.firstCells i.size m ux).run P w = .ok us.toArray w := by
    cases x with
    | slice b off len cap ex =>
      obtain ⟨us, k1, k2, k3⟩ := cellsOf_ok g (show sel (Nat.beq m 0) (some []) (sel (Nat.ble m cap) (bnd (bnd (getB hp b) cellsB) fun cs => takeN (m * i.size) (dropN cs off)) none) = some new from h4) (rel_slice.1 e3)
      exact ⟨us, k1, k2, k3 P w rfl⟩
    | nilSlice =>
      obtain ⟨q1, q2⟩ := sel_none (show sel (Nat.beq m 0) (some []) none = some new from h4)
      injection q2 with q2; subst q2
      have hux := rel_nilSlice.1 e3
      have h0 := beq_eq q1
      refine ⟨[], Rels_nil.2 rfl, by rw [h0]; simp, ?_⟩
      rw [hux]; rfl
    | _ => exact absurd h3 (by simp [lenOf])
  obtain ⟨us, s1, s2, s3⟩ := hsrc
  have hrun : ∀ {w'}, (match A with | some a => storeCells a us | none => pure () : Sem Unit).run P w = .ok () w' → (Builtin.copy_ ts o.type #[u, ux]).run P w = .ok (.int .i64 (m : Int)) w' := by
    intro w' hst
    subst f1; subst f3
    simp only [Builtin.copy_, ht0, List.getElem?_toArray, List.getElem?_cons_zero, List.getElem?_cons_succ, Sem.run_bind, run_underlying d1, Result.andThen_ok, Builtin.lenOf, Sem.run_pure, run_size d2, hm, s3]
    cases A with
    | none => simp only [Sem.run_pure] at hst; injection hst with _ hst; subst hst; rfl
    | some a => simp only [] at hst; simp [hst, goInt]
  cases d with
  | nilSlice =>
    have hu := rel_nilSlice.1 e2
    rw [hu] at f1
    injection f1 with q1 q2 q3
    subst q1
    have hd0 : m = 0 := by have := (f2 rfl).1; show m = 0; rw [← hm, this]; exact Nat.min_eq_right (Nat.zero_le _)
    subst hd0
    exact ⟨_, w, r, .inl (key (hrun rfl)), rel_int.2 rfl, Ext.refl _ _, Fr.refl _ _, g, hf⟩
  | slice b off len cap ex =>
    obtain ⟨x0, A', q1, q2, q3⟩ := rel_slice.1 e2
    rw [q2] at f1
    injection f1 with p1 p2 p3
    subst p1
    refine sel_R (fun h0 => ?_) fun h0 => sel_R (fun h7 => ?_) fun _ => trivial
    · have hm0 := beq_eq h0
      have hus : us = [] := List.eq_nil_of_length_eq_zero (by rw [s2, hm0, Nat.zero_mul])
      have := key (hrun (w' := w) (by rw [hus]; rfl))
      rw [hm0] at this
      exact ⟨_, w, r, .inl this, rel_int.2 rfl, Ext.refl _ _, Fr.refl _ _, g, hf⟩
    · have hm0 : m ≠ 0 := fun e => by rw [e] at h0; exact absurd h0 (by decide)
      have hle := ble_le h7
      refine okR_ok hf fun hp' h9 => ?_
      obtain ⟨y, t1, t2, t3, t4⟩ := storeB_ok g h9 s1
      rw [q1] at t1; injection t1 with t1; subst t1
      have hA := q3 (by omega)
      subst hA
      exact ⟨_, _, .inl (key (hrun (t2 P))), rel_int.2 rfl, t4, t3⟩
  | _ => exact absurd h2 (by simp [lenOf])
theorem clear_ok (ht:TmOk r n tm a) (hg:Glob P r) (g:Gam (getB hp) r w) (hf:Fresh nx r) {xs:Array Operand} {ts:Array TypeId} (ho:o.op=.call ⟨.builtin .clear,xs,ts⟩) {vs:List AV} (hx:opnds P tm xs.toList=some vs) :
  ResOk P o a r w (xbClear P ts vs hp nx):=by
 refine runR_ok fun e h1=>arg1_ok fun x hv=>?_
 subst hv
 obtain⟨t,h5,h6⟩:=bnd_some h1
 have ht0:=headT_ok h5
 obtain⟨el,i,zu,z,d1,d2,d3,d4,rfl,d5,d6,d7,d8⟩:=elemZero_ok h6
 obtain⟨u,e1,e2⟩:=args1 ht hg hx
 have key:∀ {w'},(Builtin.clear_ ts o.type #[u]).run P w=.ok (.tuple #[]) w'→(execOp a.eval o).run P w=.ok (.value (.tuple #[])) w':=fun h=>by
  rw[exec_builtin ho,e1]
  simp only[builtin,Sem.run_bind,h,Result.andThen_ok,Sem.run_pure]
 have done:∀ {A:Option Addr} {c:Nat},(Builtin.clear_ ts o.type #[.slice A 0 c]).run P w=.ok (.tuple #[]) w:=by
  intro A c
  cases A <;> simp only[Builtin.clear_,ht0,List.getElem?_toArray,List.getElem?_cons_zero,Sem.run_bind,run_underlying d1,Result.andThen_ok,Sem.run_pure]
 cases x with
 | nilSlice =>
  have hu:=rel_nilSlice.1 e2
  subst hu
  exact⟨_,w,r,.inl (key done),rel_undef,Ext.refl _ _,Fr.refl _ _,g,hf⟩
 | slice b off m cap ex =>
  obtain⟨x0,A,q1,rfl,q3⟩:=rel_slice.1 e2
  refine sel_R (fun h0=>?_) fun h0=>sel_R (fun h7=>?_) fun _=>trivial
  ·have hm0:=beq_eq h0
   subst hm0
   exact⟨_,w,r,.inl (key done),rel_undef,Ext.refl _ _,Fr.refl _ _,g,hf⟩
  ·have hm0:m≠0:=fun e=>by rw[e] at h0;exact absurd h0 (by decide)
   obtain⟨h8,h9⟩:=and2 h7
   have hle:=ble_le h8
   have hm:=ble_le h9
   have hA:=q3 (by omega)
   subst hA
   have hz:=cells_ok (rel_avOf (r:=r) _ _ d4)
   have hzs:=zeros_ok hz m (by omega)
   refine okR_ok hf fun hp' h10=>?_
   obtain⟨y,t1,t2,t3,t4⟩:=storeB_ok g h10 hzs
   rw[q1] at t1;injection t1 with t1;subst t1
   refine⟨_,_,.inl (key ?_),rel_undef,t4,t3⟩
   obtain⟨k,rfl⟩ : ∃ k,m=k+1:=⟨m - 1,by omega⟩
   have:=t2 P
   simp only[Builtin.clear_,ht0,List.getElem?_toArray,List.getElem?_cons_zero,Sem.run_bind,run_underlying d1,Result.andThen_ok,run_zero d2 d3,Sem.run_pure,Builtin.zeroCells]
   simp only[Array.toList_map] at this ⊢
   rw[this]
   rfl
 | _=>exact trivial
theorem funKind_ok {f:FuncId} {k:FK} (h:funKind P f=some k) :
  match k with
  | .own=>(∃ fn c,P.funcs[f]?=some fn∧fn.body=some c)∧∀ args w,(callFunc f args).run P w=.ok (.enter f args) w
  | .clone=>∀ (t:TypeId) (b:Nat) (m:Array MapEntry) (c:Nat) w,w.heap[b]?=some (.map m c)→(callFunc f #[.iface t (.map (some b))]).run P w=.ok (.value (.iface t (.map (some w.heap.size)))) (w.alloc (.map m c)):=by
 unfold funKind at h
 split at h
 ·rename_i fn hfn
  cases hb:fn.body with
  | some c =>
   rw[hb] at h
   obtain ⟨h1, h2⟩ := sel_none' (show sel (fn.name == "runtime.NumGoroutine") none (some FK.own) = some k from h)
   injection h2 with h2;subst h2
   refine⟨⟨fn,c,hfn,hb⟩,fun args w=>?_⟩
   have h1' : (fn.name == "runtime.NumGoroutine") = false := h1
   simp only[callFunc,Sem.run_bind,run_program,Result.andThen_ok,hfn,h1',Bool.false_eq_true,if_false,hb,Option.isNone_some,Sem.run_pure]
  | none =>
   rw[hb] at h
   obtain ⟨h1, h2⟩ := sel_none (show sel (and (fn.name == "maps.clone") (fn.origin == "")) (some FK.clone) none = some k from h)
   injection h2 with h2;subst h2
   obtain⟨h3,h4⟩:=and2 h1
   have h3:=eq_of_beq h3;have h4:=eq_of_beq h4
   intro t b m c w hw
   have e1 : (fn.name == "runtime.NumGoroutine") = false := by rw [h3]; decide
   have e2:Extern.findNext fn=none:=by
    unfold Extern.findNext
    rw[h3,h4]
    have g1 : (Extern.allNextRows.lookup "maps.clone").isNone = true := by kernel_rfl
    have g2 : (Extern.allNextRows.lookup "").isNone = true := by kernel_rfl
    rw[Option.isNone_iff_eq_none] at g1 g2
    simp[g1,g2]
   have e3:Extern.find fn=some Extern.MapsClone.clone:=by
    unfold Extern.find
    rw[h3,h4]
    have g1 : (Extern.allGenericRows.lookup "maps.clone").isNone = true := by kernel_rfl
    have g2 : (Extern.allTypedRows.lookup "maps.clone").isNone = true := by kernel_rfl
    have g3 : Extern.allRows.lookup "maps.clone" = some Extern.MapsClone.clone := by kernel_rfl
    rw[Option.isNone_iff_eq_none] at g1 g2
    simp[g1,g2,g3]
   have hdef:Extern.MapsClone.clone #[.iface t (.map (some b))]=(getObj b >>= fun o=>match o with
    | .map entries clock=>(do pure (.iface t (.map (some (← newObj (.map entries clock))))))
    | _ => stuck "maps.clone: a map expected") := rfl
   have e4:(Extern.MapsClone.clone #[.iface t (.map (some b))]).run P w=.ok (.iface t (.map (some w.heap.size))) (w.alloc (.map m c)):=by
    rw[hdef]
    simp only[Sem.run_bind,run_getObj_map hw,Result.andThen_ok,run_newObj,Sem.run_pure]
    rfl
   simp only[callFunc,Sem.run_bind,run_program,Result.andThen_ok,hfn,e1,Bool.false_eq_true,if_false,hb,Option.isNone_none,if_true,run_mark,e2,e3,e4,Sem.run_pure]
 ·exact absurd h (by simp)
theorem calleeOf_ok {v:AV} {c:FuncId×List AV×List AV} (h:calleeOf v=some c):v=.func c.1 c.2.1 c.2.2:=by
 cases v <;> simp[calleeOf] at h;subst h;rfl
theorem callR_ok (g:Gam (getB hp) r w) (hf:Fresh nx r) {f:FuncId} {k:FK} (hk:funKind P f=some k) {vs:List AV} {us:Array Value} (hu:Rels r vs us.toList) (hrun:(execOp a.eval o).run P w=(callFunc f us).run P w) :
  ResOk P o a r w (callR k f vs hp nx):=by
 have hfk:=funKind_ok hk
 cases k with
 | own=>exact⟨us,by rw[hrun,hfk.2],hu⟩
 | clone =>
  refine newR_ok g hf fun v k h=>?_
  unfold cloneP at h
  split at h
  ·rename_i t b
   obtain⟨es,h1,h2⟩:=bnd_some h
   simp only[Option.some.injEq,Prod.mk.injEq] at h2
   obtain⟨rfl,rfl⟩:=h2
   obtain⟨x,m,c,m1,m2,m3⟩:=mapB_ok g h1
   obtain⟨u,l,e1,e2,e3⟩:=Rels_cons.1 hu
   have:=Rels_nil.1 e3
   subst this
   obtain⟨y,rfl,e4⟩:=rel_iface.1 e2
   obtain⟨x',m1',rfl⟩:=rel_map.1 e4
   rw[m1] at m1';injection m1' with m1';subst m1'
   have hus:us=#[.iface t (.map (some x.blk))]:=by rw[← Array.toList_inj,e1]
   have hle:r.le (r.put nx ⟨w.heap.size,0,0,false⟩):=Rho.put_le _ (hf nx (Nat.le_refl _))
   refine⟨.map m c,0,.iface t (.map (some w.heap.size)),by rw[hrun,hus];exact hfk t x.blk m c w m2,rel_iface.2 ⟨_,rfl,rel_map.2 ⟨_,Rho.put_same _ _ _,rfl⟩⟩,⟨m,c,heap_alloc_new _ _,m3.mono hle,fun _=>rfl⟩⟩
  ·exact absurd h (by simp)
theorem value_ok (ht:TmOk r n tm a) (hg:Glob P r) (g:Gam (getB hp) r w) (hf:Fresh nx r) {f:Operand} {xs:Array Operand} {ts:Array TypeId} (ho:o.op=.call ⟨.value f,xs,ts⟩) :
  ResOk P o a r w (xcValue f xs ts P tm hp nx):=by
 refine runR_ok fun c h1=>runR_ok fun vs h2=>runR_ok fun k h3=>?_
 obtain⟨b,h4,h5⟩:=bnd_some h1
 have:=calleeOf_ok h5;subst this
 obtain⟨x,y,e1,e2,e3⟩:=rel_func.1 (opnd_ok ht hg h4)
 have e4:=opnds_ok ht hg h2
 refine callR_ok g hf h3 (us:=x++xs.map a.eval++y) ?_ ?_
 ·rw[app_eq,app_eq,Array.toList_append,Array.toList_append,Array.toList_map,List.append_assoc]
  exact e2.append (e4.append e3)
 ·simp only[execOp,ho,resolve,Deferred.ofValue,e1,Sem.run_bind,Sem.run_pure,Result.andThen_ok,invoke]
theorem methodKind_ok {t:TypeId} {name:String} {k:MK} (h:methodKind P t name=some k) :
  match k with
  | .own f=>∀ d p w,(Go.method (d+1) t (.pointer p) name).run P w=.ok (f,.pointer p) w
  | .sub f off s=>∃ ft,aggSize P ft=some s∧∀ d A w u,(loadVar ft (A.add off)).run P w=.ok u w→(Go.method (d+1) t (.pointer (some A)) name).run P w=.ok (f,u) w
  | .val f s=>∃ ft,aggSize P ft=some s∧∀ d A w u,(loadVar ft A).run P w=.ok u w→(Go.method (d+1) t (.pointer (some A)) name).run P w=.ok (f,u) w:=by
 obtain⟨i,h1,h2⟩:=bnd_some h
 obtain⟨m,h3,h4⟩:=bnd_some h2
 split at h4
 ·rename_i f p hm hp
  split at h4
  ·rename_i e hu
   injection h4 with h4;subst h4
   intro d q w
   simp[Go.method,typeInfo,h1,h3,hp,Go.follow,hm,Go.receiverAt,run_underlying hu,Go.Place.get]
  ·rename_i e hu
   obtain⟨az,h5,h6⟩:=bnd_some h4
   injection h6 with h6;subst h6
   refine⟨e,h5,fun d A w u hl=>?_⟩
   have hw : ∀ s : String, Builtin.ssaWrapNilChk_ #[t] t #[.pointer (some A), strVal "", strVal s] = pure (.pointer (some A)) := fun s => rfl
   simp[Go.method,typeInfo,h1,h3,hp,Go.follow,hm,Go.receiverAt,run_underlying hu,Go.Place.get,hw,Go.asAddr,hl]
  ·exact absurd h4 (by simp)
 ·rename_i f s hm hp
  obtain⟨h5,h6⟩:=sel_none h4
  obtain⟨fs,h7,h8⟩:=bnd_some h6
  obtain⟨g,h9,h10⟩:=bnd_some h8
  obtain⟨sz,h11,h12⟩:=bnd_some h10
  obtain⟨az,h13,h14⟩:=bnd_some h12
  split at h14
  ·exact absurd h14 (by simp)
  ·rename_i dd hnp hu
   obtain⟨h15,h16⟩:=sel_none' h14
   injection h16 with h16;subst h16
   obtain⟨j,i1,i2⟩:=sizeOf_ok h11
   have hz:j.size≠0:=fun e=>by rw[i2] at e;subst e;exact absurd h15 (by decide)
   refine⟨g.type,h13,fun d A w u hl=>?_⟩
   have hd:(s.deref)=true:=h5
   have e1:(Go.receiverAt g.type (.var (A.add g.offset)) false none).run P w=.ok u w:=by
    simp only[Go.receiverAt,Sem.run_bind,run_underlying hu,Result.andThen_ok]
    cases dd <;> first | exact absurd rfl (hnp _) | exact hl
   have hpe:m.path.isEmpty=false:=by rw[hp];rfl
   simp[Go.method,typeInfo,h1,h3,hp,Go.follow,hm,run_underlying (structOf_ok h7),h9,hd,Go.Place.get,Go.asAddr,fieldPlace,run_size i1,hz,e1]
  ·exact absurd h14 (by simp)
 ·exact absurd h4 (by simp)
theorem ifaceOf_ok {v:AV} {p:TypeId×AV} (h:ifaceOf v=some p):v=.iface p.1 p.2:=by
 cases v <;> simp[ifaceOf] at h;subst h;rfl
theorem invoke_ok (ht:TmOk r n tm a) (hg:Glob P r) (g:Gam (getB hp) r w) (hf:Fresh nx r) {f:Operand} {name:String} {xs:Array Operand} {ts:Array TypeId} (ho:o.op=.call ⟨.invoke f name,xs,ts⟩) :
  ResOk P o a r w (xcInvoke f name xs ts P tm hp nx):=by
 refine runR_ok fun p h1=>runR_ok fun q h2=>runR_ok fun vs h3=>runR_ok fun k h4=>?_
 obtain⟨b,h5,h6⟩:=bnd_some h1
 have:=ifaceOf_ok h6;subst this
 obtain⟨x,e1,e2⟩:=rel_iface.1 (opnd_ok ht hg h5)
 have e4:=opnds_ok ht hg h3
 obtain⟨mk,h7,h8⟩:=bnd_some h2
 have key:∀ {y:Value},(∀ d,(Go.method (d+1) p.1 x name).run P w=.ok (q.1,y) w)→(execOp a.eval o).run P w=(callFunc q.1 (#[y]++xs.map a.eval)).run P w:=by
  intro y h
  have hext:(#[Value.iface p.1 x]++xs.map a.eval).extract 1 (#[Value.iface p.1 x]++xs.map a.eval).size=xs.map a.eval:=by
   apply Array.ext'
   simp[Array.toList_extract,List.extract_eq_take_drop]
   exact List.take_of_length_le (by simp)
  have h0:(#[Value.iface p.1 x]++xs.map a.eval)[0]?=some (.iface p.1 x):=by
   rw[Array.getElem?_append_left (by simp)];rfl
  have hd:=h (P.types.size+Made.depth - 1)
  have hpos:P.types.size+Made.depth - 1+1=P.types.size+Made.depth:=by
   have:0<Made.depth:=by decide
   omega
  rw[hpos] at hd
  simp only[execOp,ho,resolve,e1,Sem.run_bind,Sem.run_pure,Result.andThen_ok,invoke,h0,hext,callMethod,run_program,hd]
 cases mk with
 | own f0 =>
  obtain⟨pp,h9,h10⟩:=bnd_some (show bnd (asPtr p.2) (fun p=>some (f0,AV.ptr p.1 p.2))=some q from h8)
  injection h10 with h10;subst h10
  have hp2:=asPtr_some h9
  rw[hp2] at e2
  obtain⟨y,f1,f2⟩:=rel_ptr.1 e2
  refine callR_ok g hf h4 (us:=#[x]++xs.map a.eval) ?_ (key fun d=>by rw[f2];exact methodKind_ok h7 d _ w)
  rw[Array.toList_append,Array.toList_map]
  exact Rels_cons.2 ⟨_,_,rfl,e2,e4⟩
 | sub f0 off s =>
  obtain⟨pp,h9,h10⟩:=bnd_some (show bnd (asPtr p.2) (fun p=>bnd (loadB hp s (p.1,p.2+off)) fun r=>some (f0,r))=some q from h8)
  obtain⟨rv,h11,h12⟩:=bnd_some h10
  injection h12 with h12;subst h12
  have hp2:=asPtr_some h9
  rw[hp2] at e2
  obtain⟨y,f1,f2⟩:=rel_ptr.1 e2
  obtain⟨ft,m1,m2⟩:=methodKind_ok h7
  obtain⟨u,l1,l2⟩:=loadB_run g m1 f1 h11
  refine callR_ok g hf h4 (us:=#[u]++xs.map a.eval) ?_ (key fun d=>?_)
  ·rw[Array.toList_append,Array.toList_map]
   exact Rels_cons.2 ⟨_,_,rfl,l2,e4⟩
  ·rw[f2]
   exact m2 d _ w u (by rw[add_place,Nat.add_assoc];exact l1)
 | val f0 s =>
  obtain⟨pp,h9,h10⟩:=bnd_some (show bnd (asPtr p.2) (fun p=>bnd (loadB hp s p) fun r=>some (f0,r))=some q from h8)
  obtain⟨rv,h11,h12⟩:=bnd_some h10
  injection h12 with h12;subst h12
  have hp2:=asPtr_some h9
  rw[hp2] at e2
  obtain⟨y,f1,f2⟩:=rel_ptr.1 e2
  obtain⟨ft,m1,m2⟩:=methodKind_ok h7
  obtain⟨u,l1,l2⟩:=loadB_run g m1 f1 h11
  refine callR_ok g hf h4 (us:=#[u]++xs.map a.eval) ?_ (key fun d=>?_)
  ·rw[Array.toList_append,Array.toList_map]
   exact Rels_cons.2 ⟨_,_,rfl,l2,e4⟩
  ·rw[f2]
   exact m2 d _ w u l1
end
end Go.Proofs.YtdmelebgdaiinaaGreatDoor.Ev
