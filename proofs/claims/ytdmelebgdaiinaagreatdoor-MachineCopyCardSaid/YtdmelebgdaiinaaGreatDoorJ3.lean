/- The evaluator: append and copy. The evaluator: append, copy, calls; all operations. The evaluator: copy, calls; all operations. -/
import Derived.KernelRfl
import Derived.Test.YtdmelebgdaiinaaGreatDoorJ2
set_option linter.unusedVariables false
set_option linter.unusedSimpArgs false
set_option linter.unusedVariables false
set_option linter.unusedSimpArgs false
namespace Go.Proofs.YtdmelebgdaiinaaGreatDoor.Ev
structure News (P:Program) (w:World) (ts:Array TypeId) (t el:TypeId) (i:TypeInfo) (zu:Value) (x:Value) (m:Nat) (news:Array Value):Prop where
 t0:ts[0]?=some t
 hu:P.underlying t=some (.slice el)
 hi:P.info? el=some i
 hz:i.zero=some zu
 by_:i.bytes≤4096
 sz:0<i.size
 what:(∃ u k k',ts[1]?=some u∧P.underlying u=some (.int k)∧x=.int k' (m:Int)∧m≤100000∧news=(if m * i.size=0 then #[] else Builtin.zeroCells zu.cells m)) ∨
  (∃ u e A c,ts[1]?=some u∧P.underlying u=some (.slice e)∧x=.slice A m c∧∀ w',w'.heap=w.heap→(Builtin.firstCells i.size m x).run P w'=.ok news w')
section
variable {P : Program} {w : World} {ts : Array TypeId} {t el : TypeId} {i : TypeInfo} {zu x : Value} {m : Nat} {news : Array Value}
theorem append_room (h:News P w ts t el i zu x m news) (ty:TypeId) (base:Option Addr) (sLen sCap:Nat) (hle:sLen+m≤sCap) {w':World}
  (hst:(match base with | some A=>storeCells (A.add (sLen * i.size)) news.toList | none=>pure ():Sem Unit).run P w=.ok () w') :
  (Builtin.append_ ts ty #[.slice base sLen sCap,x]).run P w=.ok (.slice base (sLen+m) sCap) w':=by
 rcases h.what with ⟨u,k,k',u1,u2,rfl,u3,u4⟩ | ⟨u,e,A,c,u1,u2,rfl,u3⟩
 ·have hw:=wrap_nat m u3
  have c1:¬ ((m:Int)<0):=by omega
  have c2:¬ ((m:Int) * (i.bytes:Int) > 2 ^ 48):=by
   have h1:m * i.bytes≤100000 * 4096:=Nat.mul_le_mul u3 h.by_
   have:((m * i.bytes:Nat):Int)≤409600000:=by omega
   rw[Int.natCast_mul] at this
   omega
  simp only[Builtin.append_,h.t0,u1,List.getElem?_toArray,List.getElem?_cons_zero,List.getElem?_cons_succ,Sem.run_bind,run_underlying h.hu,Result.andThen_ok,run_size h.hi,run_underlying u2,Sem.run_pure,if_true,Go.asInt,asIntOf,hw,
   typeInfo,run_program,h.hi,Int.toNat_natCast,Sem.run_ite,if_neg c1,if_neg c2,if_pos hle]
  cases base with
  | none =>
   simp only[Sem.run_pure] at hst
   injection hst with _ hst;subst hst
   simp[run_zero h.hi h.hz]
  | some A =>
   simp only[] at hst
   subst u4
   by_cases h0:m * i.size=0
   ·rw[if_pos h0] at hst
    simp[h0,hst]
   ·rw[if_neg h0] at hst
    simp[h0,run_zero h.hi h.hz,hst]
 ·simp only[Builtin.append_,h.t0,u1,List.getElem?_toArray,List.getElem?_cons_zero,List.getElem?_cons_succ,Sem.run_bind,run_underlying h.hu,Result.andThen_ok,run_size h.hi,run_underlying u2,Sem.run_pure,Bool.false_eq_true,if_false,
   Builtin.lenOf,Sem.run_ite,if_pos hle,Bool.not_false,if_true,u3 w rfl]
  cases base with
  | none =>
   simp only[Sem.run_pure] at hst
   injection hst with _ hst;subst hst
   simp[u3 w rfl]
  | some A=>simp only[] at hst;simp[u3 w rfl,hst]
theorem append_grow (h:News P w ts t el i zu x m news) (ty:TypeId) (base:Option Addr) (sLen sCap:Nat) (hlt:sCap<sLen+m) (hb:sLen+m≤1000000) {olds:Array Value}
  (hold:(Builtin.firstCells i.size sLen (.slice base sLen sCap)).run P w.drew=.ok olds w.drew) :
  ∃ C,sLen+m≤C∧(Builtin.append_ ts ty #[.slice base sLen sCap,x]).run P w =
   .ok (.slice (some ⟨w.heap.size,0,none⟩) (sLen+m) C) (w.drew.alloc (.cells (olds++news++Builtin.zeroCells zu.cells (C - (sLen+m))) el)):=by
 have hby:=h.by_
 have hnl:¬ (sLen+m≤sCap):=by omega
 have hmul:(sLen+m) * i.bytes≤140737488355328:=by
  have:=Nat.mul_le_mul hb hby
  omega
 have hfit:=growslice_fits hlt hmul
 have hfit':¬ (Builtin.nextslicecap (sLen+m) sCap * i.bytes > 2 ^ 48):=by omega
 have hmax:¬ (((sLen+m:Nat):Int) > IntKind.i64.max∧(True∨i.bytes=0)):=by
  intro hh
  have h1:((sLen+m:Nat):Int) > 9223372036854775807:=hh.1
  omega
 refine⟨grownCap w (sLen+m) sCap el,grownCap_ge _ _ _ _,?_⟩
 have h63':¬ (9223372036854775807<((sLen:Int)+(m:Int))):=by omega
 have h48':¬ (281474976710656<Builtin.nextslicecap (sLen+m) sCap * i.bytes):=by omega
 have hdr:({ w with drawn:=w.drawn+1 } : World)=w.drew:=rfl
 rcases h.what with ⟨u,k,k',u1,u2,rfl,u3,u4⟩ | ⟨u,e,A,c,u1,u2,rfl,u3⟩
 ·have hw:=wrap_nat m u3
  have c1:¬ ((m:Int)<0):=by omega
  have c2:¬ (281474976710656<(m:Int) * (i.bytes:Int)):=by
   have h1:m * i.bytes≤100000 * 4096:=Nat.mul_le_mul u3 h.by_
   have:((m * i.bytes:Nat):Int)≤409600000:=by omega
   rw[Int.natCast_mul] at this
   omega
  by_cases h0:m * i.size=0
  ·rw[if_pos h0] at u4
   subst u4
   have hm0:m=0:=by
    rcases Nat.mul_eq_zero.1 h0 with h1 | h1
    ·exact h1
    ·have:=h.sz;omega
   subst hm0
   simp only[Nat.add_zero] at hlt hb hnl h63' h48' ⊢
   have h63'':¬ (9223372036854775807<(sLen:Int)):=by omega
   simp[Builtin.append_,h.t0,u1,run_underlying h.hu,run_size h.hi,run_underlying u2,Go.asInt,asIntOf,c2,typeInfo,h.hi,hnl,h63'',h48',Question.forced,hdr,hold,run_zero h.hi h.hz,newRow,grownCap,show IntKind.i64.wrap 0=0 from rfl]
  ·rw[if_neg h0] at u4
   subst u4
   have hm0:m≠0:=fun e=>h0 (by rw[e,Nat.zero_mul])
   have hs0:i.size≠0:=by have:=h.sz;omega
   simp[Builtin.append_,h.t0,u1,run_underlying h.hu,run_size h.hi,run_underlying u2,Go.asInt,asIntOf,hw,c2,typeInfo,h.hi,hnl,h63',h48',Question.forced,hm0,hs0,h0,c1,hdr,hold,run_zero h.hi h.hz,newRow,grownCap]
   try rfl
 ·simp[Builtin.append_,h.t0,u1,run_underlying h.hu,run_size h.hi,run_underlying u2,Builtin.lenOf,typeInfo,h.hi,hnl,h63',h48',Question.forced,hdr,hold,u3 w.drew rfl,run_zero h.hi h.hz,newRow,grownCap]
end
end Go.Proofs.YtdmelebgdaiinaaGreatDoor.Ev
set_option linter.unusedVariables false
set_option linter.unusedSimpArgs false
namespace Go.Proofs.YtdmelebgdaiinaaGreatDoor.Ev
section
variable {P : Program} {r : Rho} {n : Nat} {tm : Tr AV} {a : Act} {w : World} {o : Oper} {hp : Hp} {nx : Nat}
theorem firstCells_list {A:Addr} {sz m len cap:Nat} {l:List Value} (hl:l.length=m * sz) (h:∀ (j:Nat) (u:Value),l[j]?=some u→w.cell? (A.add j)=some u) :
  (Builtin.firstCells sz m (.slice (some A) len cap)).run P w=.ok l.toArray w:=by
 simp only[Builtin.firstCells]
 rw[← hl]
 exact run_loadCells_list w A l h
theorem cellsOf_ok {h:H} (g:Gam h r w) {sz m:Nat} {b off len cap:Nat} {ex:Bool} {cs:List AV} (hc:sel (Nat.beq m 0) (some []) (sel (Nat.ble m cap) (bnd (bnd (h b) cellsB) fun cs=>takeN (m * sz) (dropN cs off)) none)=some cs)
  {u:Value} (hu:SlA r b off len cap ex u):∃ us:List Value,Rels r cs us∧us.length=m * sz∧∀ (P:Program) (w':World),w'.heap=w.heap→(Builtin.firstCells sz m u).run P w'=.ok us.toArray w':=by
 obtain⟨x,A,e1,e2,e3⟩:=hu
 cases hm:Nat.beq m 0 with
 | true =>
  rw[hm] at hc
  injection (show some []=some cs from hc) with hc;subst hc
  have:=beq_eq hm;subst this
  refine⟨[],Rels_nil.2 rfl,by simp,fun P w' _=>?_⟩
  rw[e2]
  exact firstCells_list (by simp) (fun j u h=>absurd h (by simp))
 | false =>
  rw[hm] at hc
  obtain⟨h1,h2⟩:=sel_none (show sel (Nat.ble m cap) _ none=some cs from hc)
  obtain⟨cs0,h3,h4⟩:=bnd_some h2
  obtain⟨h5,h6⟩:=takeN_some h4
  rw[dropN_eq] at h5 h6
  obtain⟨y,sz',own,sh,c,e,f,k1,_,k2,k3,k4,_⟩:=cellsB_ok g h3
  rw[e1] at k1;injection k1 with k1;subst k1
  have hm0:m≠0:=fun e=>by subst e;exact absurd hm (by decide)
  have hA:=e3 (by have:=ble_le h1;omega)
  subst hA
  simp only[List.length_drop] at h5
  let L:=(c.toList.drop (x.sh+off)).take (m * sz)
  have hlen:L.length=m * sz:=by
   simp only[L,List.length_take,List.length_drop,Array.length_toList]
   rcases Nat.eq_zero_or_pos (m * sz) with h0 | h0 <;> omega
  have hget:∀ i,i<m * sz→L[i]?=c[x.sh+off+i]?:=by
   intro i hi
   simp only[L]
   rw[List.getElem?_take_of_lt hi,List.getElem?_drop]
   simp
  refine⟨L,Rels_iff.2 ⟨?_,fun i q hq=>?_⟩,hlen,fun P w' hw=>?_⟩
  ·rw[hlen,h6];simp;omega
  ·rw[h6] at hq
   have hi:i<m * sz:=by
    have:=(List.getElem?_eq_some_iff.1 hq).1
    simp at this;omega
   rw[List.getElem?_take_of_lt hi,List.getElem?_drop] at hq
   obtain⟨u,q1,q2⟩:=k4 _ _ hq
   exact⟨u,by rw[hget i hi,← q1];congr 1;omega,q2⟩
  ·rw[e2]
   refine firstCells_list hlen (fun j u h=>?_)
   have hj:j<m * sz:=by rw[← hlen];exact (List.getElem?_eq_some_iff.1 h).1
   rw[hget j hj] at h
   rw[add_place,cell_of_heap (by rw[hw];exact k2),h]
theorem zeroCells_eq (z:Array Value) (m:Nat):Builtin.zeroCells z m=(Array.range (m * z.size)).map (fun i=>z[i % z.size]!):=rfl
theorem news_ok (ht:TmOk r n tm a) (hg:Glob P r) (g:Gam (getB hp) r w) {ts:Array TypeId} {t:TypeId} (ht0:ts[0]?=some t) {el:TypeId} {i:TypeInfo} {zu:Value} {z:AV} (hu:P.underlying t=some (.slice el)) (hi:P.info? el=some i)
  (hz:i.zero=some zu) (hz':avOf zu=some z) (hzl:z.cells.length=i.size) (hby:i.bytes≤4096) (hsz:0<i.size) {zf:Bool} (hzf:zerosOf P ts=some zf) {x:AV} {q:Nat×List AV}
  (h:sel zf (zeroCellsP (i.size,z.cells) x) (newCells hp (i.size,z.cells) x)=some q) (hq:q.1≤100000) {u:Value} (hx:Rel r x u) :
  ∃ us:List Value,Rels r q.2 us∧us.length=q.1 * i.size∧News P w ts t el i zu u q.1 us.toArray:=by
 have ht1:∃ u d,ts[1]?=some u∧P.underlying u=some d∧((zf=true∧∃ k,d=.int k)∨(zf=false∧∃ e,d=.slice e)):=by
  unfold zerosOf at hzf
  split at hzf
  ·rename_i u
   split at hzf
   ·rename_i k hk;injection hzf with hzf;exact⟨u,_,rfl,hk,.inl ⟨hzf.symm,_,rfl⟩⟩
   ·rename_i e he;injection hzf with hzf;exact⟨u,_,rfl,he,.inr ⟨hzf.symm,_,rfl⟩⟩
   ·exact absurd hzf (by simp)
  ·exact absurd hzf (by simp)
 obtain⟨t1,d,u1,u2,u3⟩:=ht1
 have hzc:=cells_ok (rel_avOf (r:=r) _ _ hz')
 have hus:zu.cells.size=i.size:=by have:=hzc.length;simp at this;omega
 rcases u3 with ⟨rfl,k,rfl⟩ | ⟨rfl,e,rfl⟩
 ·obtain⟨m,h1,h2⟩:=bnd_some (show bnd (asNat x) (fun n=>some (n,repN z.cells n))=some q from h)
  injection h2 with h2;subst h2
  obtain⟨k',rfl⟩:=asNat_some h1
  have hux:=rel_int.1 hx
  have hzs:=zeros_ok hzc m (by omega)
  refine⟨_,hzs,by simp[hus],⟨ht0,hu,hi,hz,hby,hsz,.inl ⟨t1,k,k',u1,u2,hux,hq,?_⟩⟩⟩
  by_cases h0:m * i.size=0
  ·rw[if_pos h0,hus]
   show _=#[]
   rw[h0,show Array.range 0=#[] from rfl,Array.map_empty]
  ·rw[if_neg h0];rfl
 ·obtain⟨m,h1,h2⟩:=bnd_some (show bnd (lenOf x) (fun n=>bnd (cellsOf hp i.size n x) fun new=>some (n,new))=some q from h)
  obtain⟨new,h3,h4⟩:=bnd_some h2
  injection h4 with h4;subst h4
  obtain⟨A,c,e1,e2⟩:=lenOf_ok h1 hx
  cases x with
  | slice b off len cap ex =>
   obtain⟨us,k1,k2,k3⟩:=cellsOf_ok g (show sel (Nat.beq m 0) (some []) (sel (Nat.ble m cap) (bnd (bnd (getB hp b) cellsB) fun cs=>takeN (m * i.size) (dropN cs off)) none)=some new from h3) (rel_slice.1 hx)
   exact⟨us,k1,k2,⟨ht0,hu,hi,hz,hby,hsz,.inr ⟨t1,e,A,c,u1,u2,e1,k3 P⟩⟩⟩
  | nilSlice =>
   have hux:=rel_nilSlice.1 hx
   obtain⟨h5,h6⟩:=sel_none (show sel (Nat.beq m 0) (some []) none=some new from h3)
   injection h6 with h6;subst h6
   have:=beq_eq h5;subst this
   refine⟨[],Rels_nil.2 rfl,by simp,⟨ht0,hu,hi,hz,hby,hsz,.inr ⟨t1,e,none,0,u1,u2,hux,fun w' _=>?_⟩⟩⟩
   rw[hux];rfl
  | _=>exact absurd h1 (by simp[lenOf])
theorem Gam.share {h : H} (g : Gam h r w) {b : Nat} {cs : List AV} {sz : Nat} {sh : List Nat} {x : BI} (hb : h b = some (.cells cs sz true sh)) (hx : r b = some x) (hn : r nx = none) {s xt : Nat} {cs2 : List AV} {w' : World}
    (hoth : ∀ i, i ≠ x.blk → w'.heap[i]? = w.heap[i]?) (hsz : w.heap.size ≤ w'.heap.size) (hlen : x.sh + cs.length ≤ s + cs2.length)
    (h1 : BOk (r.put nx ⟨x.blk, s, xt, false⟩) w' x (.cells cs sz false [])) (h2 : BOk (r.put nx ⟨x.blk, s, xt, false⟩) w' ⟨x.blk, s, xt, false⟩ (.cells cs2 sz true (b :: sh)))
    (hpast : ∀ b' k' x', h b' = some k' → r b' = some x' → b' ≠ b → x'.blk = x.blk → BOk (r.put nx ⟨x.blk, s, xt, false⟩) w' x' k') :
    Gam (putH (putH h b (.cells cs sz false [])) nx (.cells cs2 sz true (b :: sh))) (r.put nx ⟨x.blk, s, xt, false⟩) w' := by
  have hle : r.le (r.put nx ⟨x.blk, s, xt, false⟩) := Rho.put_le _ hn
  have hbn : b ≠ nx := fun e => by subst e; rw [hx] at hn; exact absurd hn (by simp)
  have hxb : (r.put nx ⟨x.blk, s, xt, false⟩) b = some x := hle _ _ hx
  refine ⟨fun b' k' hk => ?_, fun b' x' hb' => ?_, fun p k y p' k' y' q1 q2 q3 q4 q5 q6 q7 => ?_⟩
  · unfold putH at hk
    by_cases e1 : b' = nx
    · rw [if_pos e1] at hk; injection hk with hk; subst hk; subst e1; exact ⟨_, Rho.put_same _ _ _, h2⟩
    · rw [if_neg e1] at hk
      by_cases e2 : b' = b
      · rw [if_pos e2] at hk; injection hk with hk; subst hk; subst e2; exact ⟨x, hxb, h1⟩
      · rw [if_neg e2] at hk
        obtain ⟨y, y1, y2⟩ := g.blk b' k' hk
        refine ⟨y, hle _ _ y1, ?_⟩
        by_cases e3 : y.blk = x.blk
        · exact hpast b' k' y hk y1 e2 e3
        · exact y2.kept hle (hoth _ e3)
  · unfold Rho.put at hb'
    split at hb'
    · injection hb' with hb'; subst hb'; have := g.real _ _ hx; exact Nat.lt_of_lt_of_le (show x.blk < w.heap.size from this) hsz
    · exact Nat.lt_of_lt_of_le (g.real _ _ hb') hsz
  · -- what shares a place
    have norm : ∀ p k y, putH (putH h b (.cells cs sz false [])) nx (.cells cs2 sz true (b :: sh)) p = some k → (r.put nx ⟨x.blk, s, xt, false⟩) p = some y →
        (p = nx ∧ k = .cells cs2 sz true (b :: sh) ∧ y = ⟨x.blk, s, xt, false⟩) ∨ (p = b ∧ p ≠ nx ∧ k = .cells cs sz false [] ∧ y = x) ∨ (p ≠ nx ∧ p ≠ b ∧ h p = some k ∧ r p = some y) := by
      intro p k y hk hy
      unfold putH at hk
      unfold Rho.put at hy
      by_cases e1 : p = nx
      · rw [if_pos e1] at hk hy; injection hk with hk; injection hy with hy; exact .inl ⟨e1, hk.symm, hy.symm⟩
      · rw [if_neg e1] at hk hy
        by_cases e2 : p = b
        · rw [if_pos e2] at hk; injection hk with hk; subst e2; rw [hx] at hy; injection hy with hy; exact .inr (.inl ⟨rfl, e1, hk.symm, hy.symm⟩)
        · rw [if_neg e2] at hk; exact .inr (.inr ⟨e1, e2, hk, hy⟩)
    rcases norm p k y q1 q3 with ⟨rfl, rfl, rfl⟩ | ⟨rfl, e1, rfl, rfl⟩ | ⟨e1, e2, f1, f2⟩
    · rcases norm p' k' y' q4 q5 with ⟨rfl, _, _⟩ | ⟨rfl, _, rfl, rfl⟩ | ⟨e3, e4, f3, f4⟩
      · exact absurd rfl q6
      · exact ⟨List.mem_cons_self, rfl, hlen⟩
      · obtain ⟨m1, m2, m3⟩ := g.sep b _ x p' k' y' hb rfl hx f3 f4 e4 q7
        have m3' : y'.sh + k'.len ≤ x.sh + cs.length := m3
        exact ⟨List.mem_cons_of_mem _ m1, m2, Nat.le_trans m3' hlen⟩
    · exact absurd (show false = true from q2) (by decide)
    · rcases norm p' k' y' q4 q5 with ⟨rfl, rfl, rfl⟩ | ⟨rfl, _, rfl, rfl⟩ | ⟨e3, e4, f3, f4⟩
      · -- an own block at the place of b: there is none
        have h3 := g.sep b _ x p k y hb rfl hx f1 f2 e2 q7.symm
        rw [h3.2.1] at q2; exact absurd q2 (by decide)
      · have h3 := g.sep p' _ y' p k y hb rfl hx f1 f2 e2 q7.symm
        rw [h3.2.1] at q2; exact absurd q2 (by decide)
      · exact g.sep p k y p' k' y' f1 q2 f2 f3 f4 q6 q7
theorem Gam.weaken {h:H} (g:Gam h r w) {b:Nat} {cs:List AV} {sz:Nat} {sh:List Nat} (hb:h b=some (.cells cs sz true sh)):Gam (putH h b (.cells cs sz false [])) r w:=by
 refine⟨fun p k hk=>?_,g.real,fun p k y p' k' y' q1 q2 q3 q4 q5 q6 q7=>?_⟩
 ·unfold putH at hk
  by_cases e:p=b
  ·subst e
   rw[if_pos rfl] at hk;injection hk with hk;subst hk
   obtain⟨x,x1,c,e,f,x2,x3,x4,_⟩:=g.blk p _ hb
   exact⟨x,x1,c,e,f,x2,x3,x4,fun h=>absurd h (by decide)⟩
  ·rw[if_neg e] at hk;exact g.blk p k hk
 ·unfold putH at q1 q4
  by_cases e:p=b
  ·rw[if_pos e] at q1;injection q1 with q1;subst q1;exact absurd (show false=true from q2) (by decide)
  ·rw[if_neg e] at q1
   by_cases e':p'=b
   ·subst e'
    have:=g.sep p k y p' _ y' q1 q2 q3 hb q5 q6 q7
    exact absurd (show true=false from this.2.1) (by decide)
   ·rw[if_neg e'] at q4;exact g.sep p k y p' k' y' q1 q2 q3 q4 q5 q6 q7
theorem grow_new (hf:Fresh nx r) {cs new:List AV} {olds:List Value} {us:List Value} (h1:Rels r cs olds) (h2:Rels r new us) {zu:Value} {sz k C:Nat} (hk:cs.length+new.length=k * sz) (hC:k≤C) (hz:zu.cells.size=sz)
  (el:TypeId) {h':H} (g':Gam h' r w) (sh:List Nat) :
  Gam (putH h' nx (.cells (cs++new) sz true sh)) (r.put nx ⟨w.heap.size,0,C - k,false⟩) (w.drew.alloc (.cells (olds.toArray++us.toArray++Builtin.zeroCells zu.cells (C - k)) el)) ∧
  Ext r (r.put nx ⟨w.heap.size,0,C - k,false⟩) w∧Fr r w (w.drew.alloc (.cells (olds.toArray++us.toArray++Builtin.zeroCells zu.cells (C - k)) el))∧Fresh (Nat.succ nx) (r.put nx ⟨w.heap.size,0,C - k,false⟩):=by
 have hn:=hf nx (Nat.le_refl _)
 have hle:r.le (r.put nx ⟨w.heap.size,0,C - k,false⟩):=Rho.put_le _ hn
 have hrel:Rels (r.put nx ⟨w.heap.size,0,C - k,false⟩) (cs++new) (olds++us):=(h1.append h2).mono hle _ _
 have hl1:=h1.length;have hl2:=h2.length
 refine⟨?_,Ext.alloc hn _,(Fr.drew r w).trans (Ext.refl _ _) (Fr.alloc r w.drew _),Fresh.put hf _⟩
 refine g'.drew.alloc (w:=w.drew) hn _ _ _ ⟨_,el,(0,0),heap_alloc_new _ _,?_,fun i b hb=>?_,fun _=>⟨rfl,fun i _=>World.frozen?_alloc_new w.drew _ _ _⟩⟩
 ·simp only[Nat.zero_add,List.length_append,Array.size_append,List.size_toArray,zeroCells_eq,Array.size_map,Array.size_range,hz,hl1,hl2]
  exact Nat.le_refl _
 ·obtain⟨u,q1,q2⟩:=hrel.get hb
  refine⟨u,?_,q2⟩
  have hi:i<olds.length+us.length:=by
   have:=(List.getElem?_eq_some_iff.1 q1).1
   simpa using this
  rw[Nat.zero_add,Array.getElem?_append_left (by simp;omega)]
  rw[← q1]
  simp
theorem append_ok (ht : TmOk r n tm a) (hg : Glob P r) (g : Gam (getB hp) r w) (hf : Fresh nx r) {xs : Array Operand} {ts : Array TypeId} (ho : o.op = .call ⟨.builtin .append, xs, ts⟩) {vs : List AV} (hx : opnds P tm xs.toList = some vs) :
    ResOk P o a r w (xbAppend P ts vs hp nx) := by
  refine runR_ok fun e h1 => runR_ok fun zf h2 => arg2_ok fun s x hv => runR_ok fun q h3 => sel_R (fun h4 => ?_) fun _ => trivial
  subst hv
  obtain ⟨t, h5, h6⟩ := bnd_some h1
  have ht0 := headT_ok h5
  obtain ⟨el, i, zu, z, d1, d2, d3, d4, rfl, d5, d6, d7, d8⟩ := elemZero_ok h6
  obtain ⟨u, ux, e1, e2, e3⟩ := args2 ht hg hx
  have hm := ble_le h4
  obtain ⟨us, n1, n2, N⟩ := news_ok ht hg g ht0 d1 d2 d3 d4 d5 d6 d8 h2 h3 hm e3
  have hn2 := n1.length
  have hzc : zu.cells.size = i.size := by have := (cells_ok (rel_avOf (r := r) _ _ d4)).length; simp at this; omega
  have key : ∀ {v w'}, (Builtin.append_ ts o.type #[u, ux]).run P w = .ok v w' → (execOp a.eval o).run P w = .ok (.value v) w' := fun h => by
    rw [exec_builtin ho, e1]
    simp only [builtin, Sem.run_bind, h, Result.andThen_ok, Sem.run_pure]
  have hn := hf nx (Nat.le_refl _)
  cases s with
  | nilSlice =>
    have hu := rel_nilSlice.1 e2
    subst hu
    show ResOk P o a r w (sel (Nat.beq q.1 0) (.ok .nilSlice hp nx) (.ok (.slice nx 0 q.1 q.1 false) (setB (some (.cells q.2 i.size true [])) nx hp) (Nat.succ nx)))
    refine sel_R (fun h0 => ?_) fun h0 => ?_
    · have hq0 := beq_eq h0
      have := append_room N o.type none 0 0 (by omega) (w' := w) rfl
      rw [hq0] at this
      exact ⟨_, w, r, .inl (key this), rel_nilSlice.2 rfl, Ext.refl _ _, Fr.refl _ _, g, hf⟩
    · have hq0 : q.1 ≠ 0 := fun e => by rw [e] at h0; exact absurd h0 (by decide)
      obtain ⟨C, c1, c2⟩ := append_grow N o.type none 0 0 (by omega) (by omega) (olds := #[]) rfl
      simp only [Nat.zero_add] at c1 c2
      obtain ⟨k1, k2, k3, k4⟩ := grow_new hf (cs := []) (olds := []) (Rels_nil.2 rfl) n1 (k := q.1) (sz := i.size) (C := C) (by simp; omega) c1 hzc el g []
      refine ⟨_, _, _, .inl (key c2), rel_slice.2 ⟨_, _, Rho.put_same _ _ _, ?_, fun _ => rfl⟩, k2, k3, ?_, k4⟩
      · show Value.slice _ _ _ = Value.slice _ _ _
        congr 1
        show C = q.1 + (C - q.1)
        omega
      · rw [getB_put]; exact k1
  | slice b off len cap ex =>
    obtain ⟨x0, A, f1, f2, f3⟩ := rel_slice.1 e2
    subst f2
    show ResOk P o a r w (sel (Nat.ble (len + q.1) cap) (sel (Nat.beq q.1 0) (.ok (.slice b off len cap ex) hp nx) (okR (.slice b off (len + q.1) cap ex) nx (storeB hp b (off + len * i.size) q.2)))
      (sel (Nat.ble len cap) (runR (getB hp b) (growB hp nx i.size b off len cap ex q.1 q.2)) .no))
    refine sel_R (fun h7 => sel_R (fun h8 => ?_) fun h8 => ?_) fun h7 => sel_R (fun h8 => runR_ok fun k hk => ?_) fun _ => trivial
    · -- nothing is appended
      have hq0 := beq_eq h8
      have hle := ble_le h7
      have hus : us = [] := List.eq_nil_of_length_eq_zero (by rw [n2, hq0, Nat.zero_mul])
      have := append_room N o.type (some A) len (cap + (if ex then 0 else x0.xt)) (by omega) (w' := w) (by rw [hus]; rfl)
      rw [hq0, Nat.add_zero] at this
      exact ⟨_, w, r, .inl (key this), e2, Ext.refl _ _, Fr.refl _ _, g, hf⟩
    · have hle := ble_le h7
      have hq0 : q.1 ≠ 0 := fun e => by rw [e] at h8; exact absurd h8 (by decide)
      refine okR_ok hf fun hp' h9 => ?_
      obtain ⟨y, s1, s2, s3, s4⟩ := storeB_ok g h9 n1
      rw [f1] at s1; injection s1 with s1; subst s1
      have hA := f3 (by omega)
      subst hA
      have := append_room N o.type (some ⟨x0.blk, x0.sh + off, none⟩) len (cap + (if ex then 0 else x0.xt)) (by omega) (w' := w.setCells x0.blk (x0.sh + (off + len * i.size)) us) (by
        simp only []
        rw [add_place, Nat.add_assoc]
        exact s2 P)
      exact ⟨_, _, .inl (key this), rel_slice.2 ⟨x0, _, f1, rfl, fun _ => rfl⟩, s4, s3⟩
    · have hlc := ble_le h8
      have hnr : ¬ (len + q.1 ≤ cap) := fun h => by rw [Nat.ble_eq_true_of_le h] at h7; exact absurd h7 (by decide)
      cases k with
      | map _ _ => exact trivial
      | iter _ _ => exact trivial
      | dfr => exact trivial
      | cells cs bs own sh =>
        refine sel_R (fun h9 => runR_ok fun old h10 => ?_) fun _ => trivial
        have hbig := ble_le h9
        obtain ⟨t1, t2⟩ := takeN_some h10
        rw [dropN_eq] at t1 t2
        -- what there was
        have hold : sel (Nat.beq len 0) (some []) (sel (Nat.ble len cap) (bnd (bnd (getB hp b) cellsB) fun cs => takeN (len * i.size) (dropN cs off)) none) = some old := by
          cases h0 : Nat.beq len 0 with
          | true =>
            have := beq_eq h0
            subst this
            rw [Nat.zero_mul] at h10
            exact h10
          | false =>
            show sel (Nat.ble len cap) (bnd (bnd (getB hp b) cellsB) fun cs => takeN (len * i.size) (dropN cs off)) none = some old
            rw [h8, hk]
            exact h10
        obtain ⟨os, o1, o2, o3⟩ := cellsOf_ok g hold (rel_slice.1 e2)
        have ho1 := o1.length
        refine sel_R (fun hex => ?_) fun hex => sel_R (fun h11 => ?_) fun _ => trivial
        · -- a slice of which all is known: a new row
          subst hex
          simp only [if_true, Nat.add_zero] at o3
          obtain ⟨C, c1, c2⟩ := append_grow N o.type (some A) len (cap + (if true then 0 else x0.xt)) (by simp; omega) hbig (o3 P w.drew rfl)
          obtain ⟨k1, k2, k3, k4⟩ := grow_new hf o1 n1 (k := len + q.1) (sz := i.size) (C := C) (by rw [← ho1, ← hn2, o2, n2, Nat.add_mul]) c1 hzc el g []
          refine ⟨_, _, _, .inl (key c2), rel_slice.2 ⟨_, _, Rho.put_same _ _ _, ?_, fun _ => rfl⟩, k2, k3, ?_, k4⟩
          · show Value.slice _ _ _ = Value.slice _ _ _
            congr 1
            show C = len + q.1 + (C - (len + q.1))
            omega
          · rw [app_eq, getB_put]; exact k1
        · have hex' : ex = false := hex
          subst hex'
          obtain ⟨hown, h12⟩ := and2 h11
          obtain ⟨h13, h14⟩ := and2 h12
          obtain ⟨h15, h16⟩ := and2 h14
          obtain ⟨h17, h18⟩ := and2 h16
          have hnc := beq_eq h13
          have hend := beq_eq h15
          rw [lenL_eq] at hend
          have hbs := beq_eq h17
          subst hown; subst hbs; subst hnc
          simp only [Bool.false_eq_true, if_false] at f3
          have hkb : getB hp b = some (.cells cs i.size true sh) := hk
          by_cases hroom : len + q.1 ≤ len + x0.xt
          · -- there is room behind: in the same row
            have hq0 : q.1 ≠ 0 := by omega
            have hA := f3 (by omega)
            subst hA
            obtain ⟨y, y1, c, e, f, y2, y3, y4, y5⟩ := g.blk b _ hkb
            rw [f1] at y1; injection y1 with y1; subst y1
            obtain ⟨hro, hfz⟩ := y5 rfl
            have hx1 : q.1 * i.size ≤ x0.xt * i.size := Nat.mul_le_mul_right _ (by omega)
            have hsub : (x0.xt - q.1) * i.size + q.1 * i.size = x0.xt * i.size := by rw [← Nat.add_mul]; congr 1; omega
            have hul : us.length = q.1 * i.size := n2
            have hplace : x0.sh + off + len * i.size + us.length ≤ c.size := by omega
            obtain ⟨⟨c', w1, w2, w3⟩, w4, w5, w6, w7, w8⟩ := heap_setCells x0.blk us (x0.sh + off + len * i.size) w c e f y2 hplace
            have hst := run_storeCells_cells (P := P) x0.blk (x0.sh + off + len * i.size) us 0 w (fun j hj => by
                rw [cell_of_heap y2]; simp; omega) (fun j hj => by
                exact hfz (x0.sh + off + len * i.size + 0 + j) (by omega)) (lones_ok h18 n1)
            have hrun := append_room N o.type (some ⟨x0.blk, x0.sh + off, none⟩) len (len + (if false then 0 else x0.xt)) (by simpa using hroom) (w' := w.setCells x0.blk (x0.sh + off + len * i.size) us) (by
              simp only []
              rw [add_place]
              simpa using hst)
            have hn' : r nx = none := hn
            let r' := r.put nx ⟨x0.blk, x0.sh + off, x0.xt - q.1, false⟩
            have hle : r.le r' := Rho.put_le _ hn'
            have hlow : ∀ j, j < x0.sh + off + len * i.size → c'[j]? = c[j]? := fun j hj => by rw [w3, if_neg (by omega)]
            have hfz' : ∀ j, j < c'.size → (w.setCells x0.blk (x0.sh + off + len * i.size) us).frozen? ⟨x0.blk, j, none⟩ = false := fun j hj => by
              have := hfz j (by rw [w2] at hj; exact hj)
              simp only [World.frozen?, y2] at this
              simp only [World.frozen?, w1]
              exact this
            refine ⟨_, w.setCells x0.blk (x0.sh + off + len * i.size) us, r', .inl (key hrun), rel_slice.2 ⟨_, _, Rho.put_same _ _ _, ?_, fun _ => rfl⟩, ⟨hle, fun p y h0 h1 => ?_⟩, Fr.turn f1 hro w6 w7 w8 w4 (by rw [w5]; exact Nat.le_refl _), ?_, Fresh.put hf _⟩
            · show Value.slice _ _ _ = Value.slice _ _ _
              congr 1
              show len + x0.xt = len + q.1 + (x0.xt - q.1)
              omega
            · have h1' : (if p = nx then some ⟨x0.blk, x0.sh + off, x0.xt - q.1, false⟩ else r p) = some y := h1
              split at h1'
              · injection h1' with h1'; subst h1'; exact ⟨rfl, .inr ⟨b, x0, f1, hro, rfl⟩⟩
              · rw [h0] at h1'; exact absurd h1' (by simp)
            · show Gam (getB (setB _ nx (setB _ b hp))) _ _
              rw [getB_put, getB_put, app_eq]
              refine g.share hkb f1 hn' w4 (by rw [w5]; exact Nat.le_refl _) (by rw [List.length_append]; show x0.sh + cs.length ≤ x0.sh + off + (old.length + q.2.length); omega) ⟨c', e, f, w1, by rw [w2]; exact y3, fun j d hd => ?_, fun h => absurd h (by decide)⟩ ⟨c', e, f, w1, ?_, fun j d hd => ?_, fun _ => ⟨rfl, hfz'⟩⟩ ?_
              · obtain ⟨v, v1, v2⟩ := y4 j d hd
                have hj := (List.getElem?_eq_some_iff.1 hd).1
                exact ⟨v, by rw [hlow _ (by omega)]; exact v1, v2.mono hle _ _⟩
              · rw [w2, List.length_append]
                show x0.sh + off + (old.length + q.2.length) + (x0.xt - q.1) * i.size ≤ c.size
                omega
              · by_cases hj : j < old.length
                · rw [List.getElem?_append_left hj, t2] at hd
                  rw [t2] at hj
                  have hj' : j < len * i.size := by simp at hj; omega
                  rw [List.getElem?_take_of_lt hj', List.getElem?_drop] at hd
                  obtain ⟨v, v1, v2⟩ := y4 _ d hd
                  refine ⟨v, ?_, v2.mono hle _ _⟩
                  show c'[x0.sh + off + j]? = some v
                  rw [hlow _ (by omega), ← v1]
                  congr 1; omega
                · have hol : old.length = len * i.size := by omega
                  rw [List.getElem?_append_right (by omega)] at hd
                  obtain ⟨v, v1, v2⟩ := n1.get hd
                  have hj2 := (List.getElem?_eq_some_iff.1 v1).1
                  refine ⟨v, ?_, v2.mono hle _ _⟩
                  show c'[x0.sh + off + j]? = some v
                  rw [w3, if_pos (by omega), ← v1]
                  congr 1; omega
              · intro b' k' x' p1 p2 p3 p4
                obtain ⟨s1, s2⟩ := g.sep b _ x0 b' k' x' hkb rfl f1 p1 p2 p3 p4
                obtain ⟨y', y1', y2'⟩ := g.blk b' k' p1
                rw [p2] at y1'; injection y1' with y1'; subst y1'
                cases k' with
                | map _ _ => obtain ⟨m, k, z1, _⟩ := y2'; rw [p4, y2] at z1; exact absurd z1 (by simp)
                | iter _ _ => obtain ⟨m, z1, _⟩ := y2'; rw [p4, y2] at z1; exact absurd z1 (by simp)
                | dfr => obtain ⟨z1, _⟩ := y2'; rw [p4, y2] at z1; exact absurd z1 (by simp)
                | cells cs' sz' own' sh' =>
                  obtain ⟨c2, e2', f2', z1, z2, z3, _⟩ := y2'
                  rw [p4, y2] at z1
                  injection z1 with z1; injection z1 with z1 z1' z1''; subst z1
                  obtain ⟨s2, s3⟩ := s2
                  have s2' : own' = false := s2
                  subst s2'
                  have s3' : x'.sh + cs'.length ≤ x0.sh + cs.length := s3
                  refine ⟨c', e, f, by rw [p4]; exact w1, by rw [w2]; exact z2, fun j d hd => ?_, fun h => absurd h (by decide)⟩
                  obtain ⟨v, v1, v2⟩ := z3 j d hd
                  have hj := (List.getElem?_eq_some_iff.1 hd).1
                  exact ⟨v, by rw [hlow _ (by omega)]; exact v1, v2.mono hle _ _⟩
          · -- a new row
            obtain ⟨C, c1, c2⟩ := append_grow N o.type (some A) len (len + (if false then 0 else x0.xt)) (by simp; omega) hbig (o3 P w.drew rfl)
            obtain ⟨k1, k2, k3, k4⟩ := grow_new hf o1 n1 (k := len + q.1) (sz := i.size) (C := C) (by rw [← ho1, ← hn2, o2, n2, Nat.add_mul]) c1 hzc el (g.weaken hkb) (b :: sh)
            refine ⟨_, _, _, .inl (key c2), rel_slice.2 ⟨_, _, Rho.put_same _ _ _, ?_, fun _ => rfl⟩, k2, k3, ?_, k4⟩
            · show Value.slice _ _ _ = Value.slice _ _ _
              congr 1
              show C = len + q.1 + (C - (len + q.1))
              omega
            · rw [app_eq, getB_put, getB_put]; exact k1
  | _ => exact trivial
end
end Go.Proofs.YtdmelebgdaiinaaGreatDoor.Ev
set_option linter.unusedVariables false
set_option linter.unusedSimpArgs false
namespace Go.Proofs.YtdmelebgdaiinaaGreatDoor.Ev
section
variable {P : Program} {r : Rho} {n : Nat} {tm : Tr AV} {a : Act} {w : World} {o : Oper} {hp : Hp} {nx : Nat}
theorem copy_ok (ht : TmOk r n tm a) (hg : Glob P r) (g : Gam (getB hp) r w) (hf : Fresh nx r) {xs : Array Operand} {ts : Array TypeId} (ho : o.op = .call ⟨.builtin .copy, xs, ts⟩) {vs : List AV} (hx : opnds P tm xs.toList = some vs) :
    ResOk P o a r w (xbCopy P ts vs hp nx) := by
  refine runR_ok fun e h1 => arg2_ok fun d x hv => runR_ok fun dl h2 => runR_ok fun xl h3 => ?_
  subst hv
  obtain ⟨t, h5, h6⟩ := bnd_some h1
  have ht0 := headT_ok h5
  obtain ⟨el, i, zu, z, d1, d2, d3, d4, rfl, d5, d6, d7, d8⟩ := elemZero_ok h6
  obtain ⟨u, ux, e1, e2, e3⟩ := args2 ht hg hx
  obtain ⟨A, c, f1, f2⟩ := lenOf_ok h2 e2
  obtain ⟨B, c', f3, f4⟩ := lenOf_ok h3 e3
  have hmin : sel (Nat.blt xl dl) xl dl = Nat.min xl dl := by
    cases hb : Nat.blt xl dl with
    | true => have := blt_lt hb; show xl = min xl dl; omega
    | false =>
      have : ¬ xl < dl := fun h => by
        have := Nat.ble_eq_true_of_le (show xl + 1 ≤ dl from h)
        rw [show Nat.blt xl dl = Nat.ble (xl + 1) dl from rfl, this] at hb; exact absurd hb (by decide)
      show dl = min xl dl; omega
  rw [hmin]
  generalize hm : Nat.min xl dl = m
  unfold copyB
  refine runR_ok fun new h4 => ?_
  have key : ∀ {w'}, (Builtin.copy_ ts o.type #[u, ux]).run P w = .ok (.int .i64 (m : Int)) w' → (execOp a.eval o).run P w = .ok (.value (.int .i64 (m : Int))) w' := fun h => by
    rw [exec_builtin ho, e1]
    simp only [builtin, Sem.run_bind, h, Result.andThen_ok, Sem.run_pure]
  -- what is copied
  have hsrc : ∃ us : List Value, Rels r new us ∧ us.length = m * i.size ∧ (Builtin.firstCells i.size m ux).run P w = .ok us.toArray w := by
    cases x with
    | slice b off len cap ex =>
      obtain ⟨us, k1, k2, k3⟩ := cellsOf_ok g (show sel (Nat.beq m 0) (some []) (sel (Nat.ble m cap) (bnd (bnd (getB hp b) cellsB) fun cs => takeN (m * i.size) (dropN cs off)) none) = some new from h4) (rel_slice.1 e3)
      exact ⟨us, k1, k2, k3 P w rfl⟩
    | nilSlice =>
      obtain ⟨q1, q2⟩ := sel_none (show sel (Nat.beq m 0) (some []) none = some new from h4)
      injection q2 with q2; subst q2
      have hux := rel_nilSlice.1 e3
      have h0 := beq_eq q1
      refine ⟨[], Rels_nil.2 rfl, by rw [h0]; simp, ?_⟩
      rw [hux]; rfl
    | _ => exact absurd h3 (by simp [lenOf])
  obtain ⟨us, s1, s2, s3⟩ := hsrc
  have hrun : ∀ {w'}, (match A with | some a => storeCells a us | none => pure () : Sem Unit).run P w = .ok () w' → (Builtin.copy_ ts o.type #[u, ux]).run P w = .ok (.int .i64 (m : Int)) w' := by
    intro w' hst
    subst f1; subst f3
    simp only [Builtin.copy_, ht0, List.getElem?_toArray, List.getElem?_cons_zero, List.getElem?_cons_succ, Sem.run_bind, run_underlying d1, Result.andThen_ok, Builtin.lenOf, Sem.run_pure, run_size d2, hm, s3]
    cases A with
    | none => simp only [Sem.run_pure] at hst; injection hst with _ hst; subst hst; rfl
    | some a => simp only [] at hst; simp [hst, goInt]
  cases d with
  | nilSlice =>
    have hu := rel_nilSlice.1 e2
    rw [hu] at f1
    injection f1 with q1 q2 q3
    subst q1
    have hd0 : m = 0 := by have := (f2 rfl).1; show m = 0; rw [← hm, this]; exact Nat.min_eq_right (Nat.zero_le _)
    subst hd0
    exact ⟨_, w, r, .inl (key (hrun rfl)), rel_int.2 rfl, Ext.refl _ _, Fr.refl _ _, g, hf⟩
  | slice b off len cap ex =>
    obtain ⟨x0, A', q1, q2, q3⟩ := rel_slice.1 e2
    rw [q2] at f1
    injection f1 with p1 p2 p3
    subst p1
    refine sel_R (fun h0 => ?_) fun h0 => sel_R (fun h7 => ?_) fun _ => trivial
    · have hm0 := beq_eq h0
      have hus : us = [] := List.eq_nil_of_length_eq_zero (by rw [s2, hm0, Nat.zero_mul])
      have := key (hrun (w' := w) (by rw [hus]; rfl))
      rw [hm0] at this
      exact ⟨_, w, r, .inl this, rel_int.2 rfl, Ext.refl _ _, Fr.refl _ _, g, hf⟩
    · have hm0 : m ≠ 0 := fun e => by rw [e] at h0; exact absurd h0 (by decide)
      have hle := ble_le h7
      refine okR_ok hf fun hp' h9 => ?_
      obtain ⟨y, t1, t2, t3, t4⟩ := storeB_ok g h9 s1
      rw [q1] at t1; injection t1 with t1; subst t1
      have hA := q3 (by omega)
      subst hA
      exact ⟨_, _, .inl (key (hrun (t2 P))), rel_int.2 rfl, t4, t3⟩
  | _ => exact absurd h2 (by simp [lenOf])
theorem clear_ok (ht:TmOk r n tm a) (hg:Glob P r) (g:Gam (getB hp) r w) (hf:Fresh nx r) {xs:Array Operand} {ts:Array TypeId} (ho:o.op=.call ⟨.builtin .clear,xs,ts⟩) {vs:List AV} (hx:opnds P tm xs.toList=some vs) :
  ResOk P o a r w (xbClear P ts vs hp nx):=by
 refine runR_ok fun e h1=>arg1_ok fun x hv=>?_
 subst hv
 obtain⟨t,h5,h6⟩:=bnd_some h1
 have ht0:=headT_ok h5
 obtain⟨el,i,zu,z,d1,d2,d3,d4,rfl,d5,d6,d7,d8⟩:=elemZero_ok h6
 obtain⟨u,e1,e2⟩:=args1 ht hg hx
 have key:∀ {w'},(Builtin.clear_ ts o.type #[u]).run P w=.ok (.tuple #[]) w'→(execOp a.eval o).run P w=.ok (.value (.tuple #[])) w':=fun h=>by
  rw[exec_builtin ho,e1]
  simp only[builtin,Sem.run_bind,h,Result.andThen_ok,Sem.run_pure]
 have done:∀ {A:Option Addr} {c:Nat},(Builtin.clear_ ts o.type #[.slice A 0 c]).run P w=.ok (.tuple #[]) w:=by
  intro A c
  cases A <;> simp only[Builtin.clear_,ht0,List.getElem?_toArray,List.getElem?_cons_zero,Sem.run_bind,run_underlying d1,Result.andThen_ok,Sem.run_pure]
 cases x with
 | nilSlice =>
  have hu:=rel_nilSlice.1 e2
  subst hu
  exact⟨_,w,r,.inl (key done),rel_undef,Ext.refl _ _,Fr.refl _ _,g,hf⟩
 | slice b off m cap ex =>
  obtain⟨x0,A,q1,rfl,q3⟩:=rel_slice.1 e2
  refine sel_R (fun h0=>?_) fun h0=>sel_R (fun h7=>?_) fun _=>trivial
  ·have hm0:=beq_eq h0
   subst hm0
   exact⟨_,w,r,.inl (key done),rel_undef,Ext.refl _ _,Fr.refl _ _,g,hf⟩
  ·have hm0:m≠0:=fun e=>by rw[e] at h0;exact absurd h0 (by decide)
   obtain⟨h8,h9⟩:=and2 h7
   have hle:=ble_le h8
   have hm:=ble_le h9
   have hA:=q3 (by omega)
   subst hA
   have hz:=cells_ok (rel_avOf (r:=r) _ _ d4)
   have hzs:=zeros_ok hz m (by omega)
   refine okR_ok hf fun hp' h10=>?_
   obtain⟨y,t1,t2,t3,t4⟩:=storeB_ok g h10 hzs
   rw[q1] at t1;injection t1 with t1;subst t1
   refine⟨_,_,.inl (key ?_),rel_undef,t4,t3⟩
   obtain⟨k,rfl⟩ : ∃ k,m=k+1:=⟨m - 1,by omega⟩
   have:=t2 P
   simp only[Builtin.clear_,ht0,List.getElem?_toArray,List.getElem?_cons_zero,Sem.run_bind,run_underlying d1,Result.andThen_ok,run_zero d2 d3,Sem.run_pure,Builtin.zeroCells]
   simp only[Array.toList_map] at this ⊢
   rw[this]
   rfl
 | _=>exact trivial
theorem funKind_ok {f:FuncId} {k:FK} (h:funKind P f=some k) :
  match k with
  | .own=>(∃ fn c,P.funcs[f]?=some fn∧fn.body=some c)∧∀ args w,(callFunc f args).run P w=.ok (.enter f args) w
  | .clone=>∀ (t:TypeId) (b:Nat) (m:Array MapEntry) (c:Nat) w,w.heap[b]?=some (.map m c)→(callFunc f #[.iface t (.map (some b))]).run P w=.ok (.value (.iface t (.map (some w.heap.size)))) (w.alloc (.map m c)):=by
 unfold funKind at h
 split at h
 ·rename_i fn hfn
  cases hb:fn.body with
  | some c =>
   rw[hb] at h
   obtain ⟨h1, h2⟩ := sel_none' (show sel (fn.name == "runtime.NumGoroutine") none (some FK.own) = some k from h)
   injection h2 with h2;subst h2
   refine⟨⟨fn,c,hfn,hb⟩,fun args w=>?_⟩
   have h1' : (fn.name == "runtime.NumGoroutine") = false := h1
   simp only[callFunc,Sem.run_bind,run_program,Result.andThen_ok,hfn,h1',Bool.false_eq_true,if_false,hb,Option.isNone_some,Sem.run_pure]
  | none =>
   rw[hb] at h
   obtain ⟨h1, h2⟩ := sel_none (show sel (and (fn.name == "maps.clone") (fn.origin == "")) (some FK.clone) none = some k from h)
   injection h2 with h2;subst h2
   obtain⟨h3,h4⟩:=and2 h1
   have h3:=eq_of_beq h3;have h4:=eq_of_beq h4
   intro t b m c w hw
   have e1 : (fn.name == "runtime.NumGoroutine") = false := by rw [h3]; decide
   have e2:Extern.findNext fn=none:=by
    unfold Extern.findNext
    rw[h3,h4]
    have g1 : (Extern.allNextRows.lookup "maps.clone").isNone = true := by kernel_rfl
    have g2 : (Extern.allNextRows.lookup "").isNone = true := by kernel_rfl
    rw[Option.isNone_iff_eq_none] at g1 g2
    simp[g1,g2]
   have e3:Extern.find fn=some Extern.MapsClone.clone:=by
    unfold Extern.find
    rw[h3,h4]
    have g1 : (Extern.allGenericRows.lookup "maps.clone").isNone = true := by kernel_rfl
    have g2 : (Extern.allTypedRows.lookup "maps.clone").isNone = true := by kernel_rfl
    have g3 : Extern.allRows.lookup "maps.clone" = some Extern.MapsClone.clone := by kernel_rfl
    rw[Option.isNone_iff_eq_none] at g1 g2
    simp[g1,g2,g3]
   have hdef:Extern.MapsClone.clone #[.iface t (.map (some b))]=(getObj b >>= fun o=>match o with
    | .map entries clock=>(do pure (.iface t (.map (some (← newObj (.map entries clock))))))
    | _ => stuck "maps.clone: a map expected") := rfl
   have e4:(Extern.MapsClone.clone #[.iface t (.map (some b))]).run P w=.ok (.iface t (.map (some w.heap.size))) (w.alloc (.map m c)):=by
    rw[hdef]
    simp only[Sem.run_bind,run_getObj_map hw,Result.andThen_ok,run_newObj,Sem.run_pure]
    rfl
   simp only[callFunc,Sem.run_bind,run_program,Result.andThen_ok,hfn,e1,Bool.false_eq_true,if_false,hb,Option.isNone_none,if_true,run_mark,e2,e3,e4,Sem.run_pure]
 ·exact absurd h (by simp)
theorem calleeOf_ok {v:AV} {c:FuncId×List AV×List AV} (h:calleeOf v=some c):v=.func c.1 c.2.1 c.2.2:=by
 cases v <;> simp[calleeOf] at h;subst h;rfl
theorem callR_ok (g:Gam (getB hp) r w) (hf:Fresh nx r) {f:FuncId} {k:FK} (hk:funKind P f=some k) {vs:List AV} {us:Array Value} (hu:Rels r vs us.toList) (hrun:(execOp a.eval o).run P w=(callFunc f us).run P w) :
  ResOk P o a r w (callR k f vs hp nx):=by
 have hfk:=funKind_ok hk
 cases k with
 | own=>exact⟨us,by rw[hrun,hfk.2],hu⟩
 | clone =>
  refine newR_ok g hf fun v k h=>?_
  unfold cloneP at h
  split at h
  ·rename_i t b
   obtain⟨es,h1,h2⟩:=bnd_some h
   simp only[Option.some.injEq,Prod.mk.injEq] at h2
   obtain⟨rfl,rfl⟩:=h2
   obtain⟨x,m,c,m1,m2,m3⟩:=mapB_ok g h1
   obtain⟨u,l,e1,e2,e3⟩:=Rels_cons.1 hu
   have:=Rels_nil.1 e3
   subst this
   obtain⟨y,rfl,e4⟩:=rel_iface.1 e2
   obtain⟨x',m1',rfl⟩:=rel_map.1 e4
   rw[m1] at m1';injection m1' with m1';subst m1'
   have hus:us=#[.iface t (.map (some x.blk))]:=by rw[← Array.toList_inj,e1]
   have hle:r.le (r.put nx ⟨w.heap.size,0,0,false⟩):=Rho.put_le _ (hf nx (Nat.le_refl _))
   refine⟨.map m c,0,.iface t (.map (some w.heap.size)),by rw[hrun,hus];exact hfk t x.blk m c w m2,rel_iface.2 ⟨_,rfl,rel_map.2 ⟨_,Rho.put_same _ _ _,rfl⟩⟩,⟨m,c,heap_alloc_new _ _,m3.mono hle,fun _=>rfl⟩⟩
  ·exact absurd h (by simp)
theorem value_ok (ht:TmOk r n tm a) (hg:Glob P r) (g:Gam (getB hp) r w) (hf:Fresh nx r) {f:Operand} {xs:Array Operand} {ts:Array TypeId} (ho:o.op=.call ⟨.value f,xs,ts⟩) :
  ResOk P o a r w (xcValue f xs ts P tm hp nx):=by
 refine runR_ok fun c h1=>runR_ok fun vs h2=>runR_ok fun k h3=>?_
 obtain⟨b,h4,h5⟩:=bnd_some h1
 have:=calleeOf_ok h5;subst this
 obtain⟨x,y,e1,e2,e3⟩:=rel_func.1 (opnd_ok ht hg h4)
 have e4:=opnds_ok ht hg h2
 refine callR_ok g hf h3 (us:=x++xs.map a.eval++y) ?_ ?_
 ·rw[app_eq,app_eq,Array.toList_append,Array.toList_append,Array.toList_map,List.append_assoc]
  exact e2.append (e4.append e3)
 ·simp only[execOp,ho,resolve,Deferred.ofValue,e1,Sem.run_bind,Sem.run_pure,Result.andThen_ok,invoke]
theorem methodKind_ok {t:TypeId} {name:String} {k:MK} (h:methodKind P t name=some k) :
  match k with
  | .own f=>∀ d p w,(Go.method (d+1) t (.pointer p) name).run P w=.ok (f,.pointer p) w
  | .sub f off s=>∃ ft,aggSize P ft=some s∧∀ d A w u,(loadVar ft (A.add off)).run P w=.ok u w→(Go.method (d+1) t (.pointer (some A)) name).run P w=.ok (f,u) w
  | .val f s=>∃ ft,aggSize P ft=some s∧∀ d A w u,(loadVar ft A).run P w=.ok u w→(Go.method (d+1) t (.pointer (some A)) name).run P w=.ok (f,u) w:=by
 obtain⟨i,h1,h2⟩:=bnd_some h
 obtain⟨m,h3,h4⟩:=bnd_some h2
 split at h4
 ·rename_i f p hm hp
  split at h4
  ·rename_i e hu
   injection h4 with h4;subst h4
   intro d q w
   simp[Go.method,typeInfo,h1,h3,hp,Go.follow,hm,Go.receiverAt,run_underlying hu,Go.Place.get]
  ·rename_i e hu
   obtain⟨az,h5,h6⟩:=bnd_some h4
   injection h6 with h6;subst h6
   refine⟨e,h5,fun d A w u hl=>?_⟩
   have hw : ∀ s : String, Builtin.ssaWrapNilChk_ #[t] t #[.pointer (some A), strVal "", strVal s] = pure (.pointer (some A)) := fun s => rfl
   simp[Go.method,typeInfo,h1,h3,hp,Go.follow,hm,Go.receiverAt,run_underlying hu,Go.Place.get,hw,Go.asAddr,hl]
  ·exact absurd h4 (by simp)
 ·rename_i f s hm hp
  obtain⟨h5,h6⟩:=sel_none h4
  obtain⟨fs,h7,h8⟩:=bnd_some h6
  obtain⟨g,h9,h10⟩:=bnd_some h8
  obtain⟨sz,h11,h12⟩:=bnd_some h10
  obtain⟨az,h13,h14⟩:=bnd_some h12
  split at h14
  ·exact absurd h14 (by simp)
  ·rename_i dd hnp hu
   obtain⟨h15,h16⟩:=sel_none' h14
   injection h16 with h16;subst h16
   obtain⟨j,i1,i2⟩:=sizeOf_ok h11
   have hz:j.size≠0:=fun e=>by rw[i2] at e;subst e;exact absurd h15 (by decide)
   refine⟨g.type,h13,fun d A w u hl=>?_⟩
   have hd:(s.deref)=true:=h5
   have e1:(Go.receiverAt g.type (.var (A.add g.offset)) false none).run P w=.ok u w:=by
    simp only[Go.receiverAt,Sem.run_bind,run_underlying hu,Result.andThen_ok]
    cases dd <;> first | exact absurd rfl (hnp _) | exact hl
   have hpe:m.path.isEmpty=false:=by rw[hp];rfl
   simp[Go.method,typeInfo,h1,h3,hp,Go.follow,hm,run_underlying (structOf_ok h7),h9,hd,Go.Place.get,Go.asAddr,fieldPlace,run_size i1,hz,e1]
  ·exact absurd h14 (by simp)
 ·exact absurd h4 (by simp)
theorem ifaceOf_ok {v:AV} {p:TypeId×AV} (h:ifaceOf v=some p):v=.iface p.1 p.2:=by
 cases v <;> simp[ifaceOf] at h;subst h;rfl
theorem invoke_ok (ht:TmOk r n tm a) (hg:Glob P r) (g:Gam (getB hp) r w) (hf:Fresh nx r) {f:Operand} {name:String} {xs:Array Operand} {ts:Array TypeId} (ho:o.op=.call ⟨.invoke f name,xs,ts⟩) :
  ResOk P o a r w (xcInvoke f name xs ts P tm hp nx):=by
 refine runR_ok fun p h1=>runR_ok fun q h2=>runR_ok fun vs h3=>runR_ok fun k h4=>?_
 obtain⟨b,h5,h6⟩:=bnd_some h1
 have:=ifaceOf_ok h6;subst this
 obtain⟨x,e1,e2⟩:=rel_iface.1 (opnd_ok ht hg h5)
 have e4:=opnds_ok ht hg h3
 obtain⟨mk,h7,h8⟩:=bnd_some h2
 have key:∀ {y:Value},(∀ d,(Go.method (d+1) p.1 x name).run P w=.ok (q.1,y) w)→(execOp a.eval o).run P w=(callFunc q.1 (#[y]++xs.map a.eval)).run P w:=by
  intro y h
  have hext:(#[Value.iface p.1 x]++xs.map a.eval).extract 1 (#[Value.iface p.1 x]++xs.map a.eval).size=xs.map a.eval:=by
   apply Array.ext'
   simp[Array.toList_extract,List.extract_eq_take_drop]
   exact List.take_of_length_le (by simp)
  have h0:(#[Value.iface p.1 x]++xs.map a.eval)[0]?=some (.iface p.1 x):=by
   rw[Array.getElem?_append_left (by simp)];rfl
  have hd:=h (P.types.size+Made.depth - 1)
  have hpos:P.types.size+Made.depth - 1+1=P.types.size+Made.depth:=by
   have:0<Made.depth:=by decide
   omega
  rw[hpos] at hd
  simp only[execOp,ho,resolve,e1,Sem.run_bind,Sem.run_pure,Result.andThen_ok,invoke,h0,hext,callMethod,run_program,hd]
 cases mk with
 | own f0 =>
  obtain⟨pp,h9,h10⟩:=bnd_some (show bnd (asPtr p.2) (fun p=>some (f0,AV.ptr p.1 p.2))=some q from h8)
  injection h10 with h10;subst h10
  have hp2:=asPtr_some h9
  rw[hp2] at e2
  obtain⟨y,f1,f2⟩:=rel_ptr.1 e2
  refine callR_ok g hf h4 (us:=#[x]++xs.map a.eval) ?_ (key fun d=>by rw[f2];exact methodKind_ok h7 d _ w)
  rw[Array.toList_append,Array.toList_map]
  exact Rels_cons.2 ⟨_,_,rfl,e2,e4⟩
 | sub f0 off s =>
  obtain⟨pp,h9,h10⟩:=bnd_some (show bnd (asPtr p.2) (fun p=>bnd (loadB hp s (p.1,p.2+off)) fun r=>some (f0,r))=some q from h8)
  obtain⟨rv,h11,h12⟩:=bnd_some h10
  injection h12 with h12;subst h12
  have hp2:=asPtr_some h9
  rw[hp2] at e2
  obtain⟨y,f1,f2⟩:=rel_ptr.1 e2
  obtain⟨ft,m1,m2⟩:=methodKind_ok h7
  obtain⟨u,l1,l2⟩:=loadB_run g m1 f1 h11
  refine callR_ok g hf h4 (us:=#[u]++xs.map a.eval) ?_ (key fun d=>?_)
  ·rw[Array.toList_append,Array.toList_map]
   exact Rels_cons.2 ⟨_,_,rfl,l2,e4⟩
  ·rw[f2]
   exact m2 d _ w u (by rw[add_place,Nat.add_assoc];exact l1)
 | val f0 s =>
  obtain⟨pp,h9,h10⟩:=bnd_some (show bnd (asPtr p.2) (fun p=>bnd (loadB hp s p) fun r=>some (f0,r))=some q from h8)
  obtain⟨rv,h11,h12⟩:=bnd_some h10
  injection h12 with h12;subst h12
  have hp2:=asPtr_some h9
  rw[hp2] at e2
  obtain⟨y,f1,f2⟩:=rel_ptr.1 e2
  obtain⟨ft,m1,m2⟩:=methodKind_ok h7
  obtain⟨u,l1,l2⟩:=loadB_run g m1 f1 h11
  refine callR_ok g hf h4 (us:=#[u]++xs.map a.eval) ?_ (key fun d=>?_)
  ·rw[Array.toList_append,Array.toList_map]
   exact Rels_cons.2 ⟨_,_,rfl,l2,e4⟩
  ·rw[f2]
   exact m2 d _ w u l1
end
end Go.Proofs.YtdmelebgdaiinaaGreatDoor.Ev
