/- The evaluator: append, copy, calls; all operations. The evaluator: copy, calls; all operations. The evaluator: all operations; rows of them. -/
import Derived.KernelRfl
import Derived.RangeFuncSeq
import Derived.RangeFuncLeaves
import Derived.RangeFuncRecord
import Derived.RangeFuncCalls
import Derived.OrdersIn
import Derived.Deep.Draws
import Derived.Test.YtbdbhdcbdfbnnaaGreatDoorJ4
set_option linter.unusedVariables false
set_option linter.unusedSimpArgs false
set_option linter.unusedVariables false
set_option linter.unusedSimpArgs false
namespace Go.Proofs.YtbdbhdcbdfbnnaaGreatDoor.Ev
section
variable {P : Program} {r : Rho} {n : Nat} {tm : Tr AV} {a : Act} {w : World} {o : Oper} {hp : Hp} {nx : Nat}
theorem firstCells_list {A:Addr} {sz m len cap:Nat} {l:List Value} (hl:l.length=m * sz) (h:∀ (j:Nat) (u:Value),l[j]?=some u→w.cell? (A.add j)=some u) :
  (Builtin.firstCells sz m (.slice (some A) len cap)).run P w=.ok l.toArray w:=by
 simp only[Builtin.firstCells]
 rw[← hl]
 exact run_loadCells_list w A l h
theorem cellsOf_ok {h:H} (g:Gam h r w) {sz m:Nat} {b off len cap:Nat} {ex:Bool} {cs:List AV} (hc:sel (Nat.beq m 0) (some []) (sel (Nat.ble m cap) (bnd (bnd (h b) cellsB) fun cs=>takeN (m * sz) (dropN cs off)) none)=some cs)
  {u:Value} (hu:SlA r b off len cap ex u):∃ us:List Value,Rels r cs us∧us.length=m * sz∧∀ (P:Program) (w':World),w'.heap=w.heap→(Builtin.firstCells sz m u).run P w'=.ok us.toArray w':=by
 obtain⟨x,A,e1,e2,e3⟩:=hu
 cases hm:Nat.beq m 0 with
 | true =>
  rw[hm] at hc
  injection (show some []=some cs from hc) with hc;subst hc
  have:=beq_eq hm;subst this
  refine⟨[],Rels_nil.2 rfl,by simp,fun P w' _=>?_⟩
  rw[e2]
  exact firstCells_list (by simp) (fun j u h=>absurd h (by simp))
 | false =>
  rw[hm] at hc
  obtain⟨h1,h2⟩:=sel_none (show sel (Nat.ble m cap) _ none=some cs from hc)
  obtain⟨cs0,h3,h4⟩:=bnd_some h2
  obtain⟨h5,h6⟩:=takeN_some h4
  rw[dropN_eq] at h5 h6
  obtain⟨y,sz',own,sh,c,e,f,k1,_,k2,k3,k4,_⟩:=cellsB_ok g h3
  rw[e1] at k1;injection k1 with k1;subst k1
  have hm0:m≠0:=fun e=>by subst e;exact absurd hm (by decide)
  have hA:=e3 (by have:=ble_le h1;omega)
  subst hA
  simp only[List.length_drop] at h5
  let L:=(c.toList.drop (x.sh+off)).take (m * sz)
  have hlen:L.length=m * sz:=by
   simp only[L,List.length_take,List.length_drop,Array.length_toList]
   rcases Nat.eq_zero_or_pos (m * sz) with h0 | h0 <;> omega
  have hget:∀ i,i<m * sz→L[i]?=c[x.sh+off+i]?:=by
   intro i hi
   simp only[L]
   rw[List.getElem?_take_of_lt hi,List.getElem?_drop]
   simp
  refine⟨L,Rels_iff.2 ⟨?_,fun i q hq=>?_⟩,hlen,fun P w' hw=>?_⟩
  ·rw[hlen,h6];simp;omega
  ·rw[h6] at hq
   have hi:i<m * sz:=by
    have:=(List.getElem?_eq_some_iff.1 hq).1
    simp at this;omega
   rw[List.getElem?_take_of_lt hi,List.getElem?_drop] at hq
   obtain⟨u,q1,q2⟩:=k4 _ _ hq
   exact⟨u,by rw[hget i hi,← q1];congr 1;omega,q2⟩
  ·rw[e2]
   refine firstCells_list hlen (fun j u h=>?_)
   have hj:j<m * sz:=by rw[← hlen];exact (List.getElem?_eq_some_iff.1 h).1
   rw[hget j hj] at h
   rw[add_place,cell_of_heap (by rw[hw];exact k2),h]
theorem zeroCells_eq (z:Array Value) (m:Nat):Builtin.zeroCells z m=(Array.range (m * z.size)).map (fun i=>z[i % z.size]!):=rfl
theorem news_ok (ht:TmOk r n tm a) (hg:Glob P r) (g:Gam (getB hp) r w) {ts:Array TypeId} {t:TypeId} (ht0:ts[0]?=some t) {el:TypeId} {i:TypeInfo} {zu:Value} {z:AV} (hu:P.underlying t=some (.slice el)) (hi:P.info? el=some i)
  (hz:i.zero=some zu) (hz':avOf zu=some z) (hzl:z.cells.length=i.size) (hby:i.bytes≤4096) (hsz:0<i.size) {zf:Bool} (hzf:zerosOf P ts=some zf) {x:AV} {q:Nat×List AV}
  (h:sel zf (zeroCellsP (i.size,z.cells) x) (newCells hp (i.size,z.cells) x)=some q) (hq:q.1≤100000) {u:Value} (hx:Rel r x u) :
  ∃ us:List Value,Rels r q.2 us∧us.length=q.1 * i.size∧News P w ts t el i zu u q.1 us.toArray:=by
 have ht1:∃ u d,ts[1]?=some u∧P.underlying u=some d∧((zf=true∧∃ k,d=.int k)∨(zf=false∧∃ e,d=.slice e)):=by
  unfold zerosOf at hzf
  split at hzf
  ·rename_i u
   split at hzf
   ·rename_i k hk;injection hzf with hzf;exact⟨u,_,rfl,hk,.inl ⟨hzf.symm,_,rfl⟩⟩
   ·rename_i e he;injection hzf with hzf;exact⟨u,_,rfl,he,.inr ⟨hzf.symm,_,rfl⟩⟩
   ·exact absurd hzf (by simp)
  ·exact absurd hzf (by simp)
 obtain⟨t1,d,u1,u2,u3⟩:=ht1
 have hzc:=cells_ok (rel_avOf (r:=r) _ _ hz')
 have hus:zu.cells.size=i.size:=by have:=hzc.length;simp at this;omega
 rcases u3 with ⟨rfl,k,rfl⟩ | ⟨rfl,e,rfl⟩
 ·obtain⟨m,h1,h2⟩:=bnd_some (show bnd (asNat x) (fun n=>some (n,repN z.cells n))=some q from h)
  injection h2 with h2;subst h2
  obtain⟨k',rfl⟩:=asNat_some h1
  have hux:=rel_int.1 hx
  have hzs:=zeros_ok hzc m (by omega)
  refine⟨_,hzs,by simp[hus],⟨ht0,hu,hi,hz,hby,hsz,.inl ⟨t1,k,k',u1,u2,hux,hq,?_⟩⟩⟩
  by_cases h0:m * i.size=0
  ·rw[if_pos h0,hus]
   show _=#[]
   rw[h0,show Array.range 0=#[] from rfl,Array.map_empty]
  ·rw[if_neg h0];rfl
 ·obtain⟨m,h1,h2⟩:=bnd_some (show bnd (lenOf x) (fun n=>bnd (cellsOf hp i.size n x) fun new=>some (n,new))=some q from h)
  obtain⟨new,h3,h4⟩:=bnd_some h2
  injection h4 with h4;subst h4
  obtain⟨A,c,e1,e2⟩:=lenOf_ok h1 hx
  cases x with
  | slice b off len cap ex =>
   obtain⟨us,k1,k2,k3⟩:=cellsOf_ok g (show sel (Nat.beq m 0) (some []) (sel (Nat.ble m cap) (bnd (bnd (getB hp b) cellsB) fun cs=>takeN (m * i.size) (dropN cs off)) none)=some new from h3) (rel_slice.1 hx)
   exact⟨us,k1,k2,⟨ht0,hu,hi,hz,hby,hsz,.inr ⟨t1,e,A,c,u1,u2,e1,k3 P⟩⟩⟩
  | nilSlice =>
   have hux:=rel_nilSlice.1 hx
   obtain⟨h5,h6⟩:=sel_none (show sel (Nat.beq m 0) (some []) none=some new from h3)
   injection h6 with h6;subst h6
   have:=beq_eq h5;subst this
   refine⟨[],Rels_nil.2 rfl,by simp,⟨ht0,hu,hi,hz,hby,hsz,.inr ⟨t1,e,none,0,u1,u2,hux,fun w' _=>?_⟩⟩⟩
   rw[hux];rfl
  | _=>exact absurd h1 (by simp[lenOf])
theorem Gam.share {h : H} (g : Gam h r w) {b : Nat} {cs : List AV} {sz : Nat} {sh : List Nat} {x : BI} (hb : h b = some (.cells cs sz true sh)) (hx : r b = some x) (hn : r nx = none) {s xt : Nat} {cs2 : List AV} {w' : World}
    (hoth : ∀ i, i ≠ x.blk → w'.heap[i]? = w.heap[i]?) (hsz : w.heap.size ≤ w'.heap.size) (hlen : x.sh + cs.length ≤ s + cs2.length)
    (h1 : BOk (r.put nx ⟨x.blk, s, xt, false⟩) w' x (.cells cs sz false [])) (h2 : BOk (r.put nx ⟨x.blk, s, xt, false⟩) w' ⟨x.blk, s, xt, false⟩ (.cells cs2 sz true (b :: sh)))
    (hpast : ∀ b' k' x', h b' = some k' → r b' = some x' → b' ≠ b → x'.blk = x.blk → BOk (r.put nx ⟨x.blk, s, xt, false⟩) w' x' k') :
    Gam (putH (putH h b (.cells cs sz false [])) nx (.cells cs2 sz true (b :: sh))) (r.put nx ⟨x.blk, s, xt, false⟩) w' := by
  have hle : r.le (r.put nx ⟨x.blk, s, xt, false⟩) := Rho.put_le _ hn
  have hbn : b ≠ nx := fun e => by subst e; rw [hx] at hn; exact absurd hn (by simp)
  have hxb : (r.put nx ⟨x.blk, s, xt, false⟩) b = some x := hle _ _ hx
  refine ⟨fun b' k' hk => ?_, fun b' x' hb' => ?_, fun p k y p' k' y' q1 q2 q3 q4 q5 q6 q7 => ?_⟩
  · unfold putH at hk
    by_cases e1 : b' = nx
    · rw [if_pos e1] at hk; injection hk with hk; subst hk; subst e1; exact ⟨_, Rho.put_same _ _ _, h2⟩
    · rw [if_neg e1] at hk
      by_cases e2 : b' = b
      · rw [if_pos e2] at hk; injection hk with hk; subst hk; subst e2; exact ⟨x, hxb, h1⟩
      · rw [if_neg e2] at hk
        obtain ⟨y, y1, y2⟩ := g.blk b' k' hk
        refine ⟨y, hle _ _ y1, ?_⟩
        by_cases e3 : y.blk = x.blk
        · exact hpast b' k' y hk y1 e2 e3
        · exact y2.kept hle (hoth _ e3)
  · unfold Rho.put at hb'
    split at hb'
    · injection hb' with hb'; subst hb'; have := g.real _ _ hx; exact Nat.lt_of_lt_of_le (show x.blk < w.heap.size from this) hsz
    · exact Nat.lt_of_lt_of_le (g.real _ _ hb') hsz
  · -- what shares a place
    have norm : ∀ p k y, putH (putH h b (.cells cs sz false [])) nx (.cells cs2 sz true (b :: sh)) p = some k → (r.put nx ⟨x.blk, s, xt, false⟩) p = some y →
        (p = nx ∧ k = .cells cs2 sz true (b :: sh) ∧ y = ⟨x.blk, s, xt, false⟩) ∨ (p = b ∧ p ≠ nx ∧ k = .cells cs sz false [] ∧ y = x) ∨ (p ≠ nx ∧ p ≠ b ∧ h p = some k ∧ r p = some y) := by
      intro p k y hk hy
      unfold putH at hk
      unfold Rho.put at hy
      by_cases e1 : p = nx
      · rw [if_pos e1] at hk hy; injection hk with hk; injection hy with hy; exact .inl ⟨e1, hk.symm, hy.symm⟩
      · rw [if_neg e1] at hk hy
        by_cases e2 : p = b
        · rw [if_pos e2] at hk; injection hk with hk; subst e2; rw [hx] at hy; injection hy with hy; exact .inr (.inl ⟨rfl, e1, hk.symm, hy.symm⟩)
        · rw [if_neg e2] at hk; exact .inr (.inr ⟨e1, e2, hk, hy⟩)
    rcases norm p k y q1 q3 with ⟨rfl, rfl, rfl⟩ | ⟨rfl, e1, rfl, rfl⟩ | ⟨e1, e2, f1, f2⟩
    · rcases norm p' k' y' q4 q5 with ⟨rfl, _, _⟩ | ⟨rfl, _, rfl, rfl⟩ | ⟨e3, e4, f3, f4⟩
      · exact absurd rfl q6
      · exact ⟨List.mem_cons_self, rfl, hlen⟩
      · obtain ⟨m1, m2, m3⟩ := g.sep b _ x p' k' y' hb rfl hx f3 f4 e4 q7
        have m3' : y'.sh + k'.len ≤ x.sh + cs.length := m3
        exact ⟨List.mem_cons_of_mem _ m1, m2, Nat.le_trans m3' hlen⟩
    · exact absurd (show false = true from q2) (by decide)
    · rcases norm p' k' y' q4 q5 with ⟨rfl, rfl, rfl⟩ | ⟨rfl, _, rfl, rfl⟩ | ⟨e3, e4, f3, f4⟩
      · -- an own block at the place of b: there is none
        have h3 := g.sep b _ x p k y hb rfl hx f1 f2 e2 q7.symm
        rw [h3.2.1] at q2; exact absurd q2 (by decide)
      · have h3 := g.sep p' _ y' p k y hb rfl hx f1 f2 e2 q7.symm
        rw [h3.2.1] at q2; exact absurd q2 (by decide)
      · exact g.sep p k y p' k' y' f1 q2 f2 f3 f4 q6 q7
theorem Gam.weaken {h:H} (g:Gam h r w) {b:Nat} {cs:List AV} {sz:Nat} {sh:List Nat} (hb:h b=some (.cells cs sz true sh)):Gam (putH h b (.cells cs sz false [])) r w:=by
 refine⟨fun p k hk=>?_,g.real,fun p k y p' k' y' q1 q2 q3 q4 q5 q6 q7=>?_⟩
 ·unfold putH at hk
  by_cases e:p=b
  ·subst e
   rw[if_pos rfl] at hk;injection hk with hk;subst hk
   obtain⟨x,x1,c,e,f,x2,x3,x4,_⟩:=g.blk p _ hb
   exact⟨x,x1,c,e,f,x2,x3,x4,fun h=>absurd h (by decide)⟩
  ·rw[if_neg e] at hk;exact g.blk p k hk
 ·unfold putH at q1 q4
  by_cases e:p=b
  ·rw[if_pos e] at q1;injection q1 with q1;subst q1;exact absurd (show false=true from q2) (by decide)
  ·rw[if_neg e] at q1
   by_cases e':p'=b
   ·subst e'
    have:=g.sep p k y p' _ y' q1 q2 q3 hb q5 q6 q7
    exact absurd (show true=false from this.2.1) (by decide)
   ·rw[if_neg e'] at q4;exact g.sep p k y p' k' y' q1 q2 q3 q4 q5 q6 q7
theorem grow_new (hf:Fresh nx r) {cs new:List AV} {olds:List Value} {us:List Value} (h1:Rels r cs olds) (h2:Rels r new us) {zu:Value} {sz k C:Nat} (hk:cs.length+new.length=k * sz) (hC:k≤C) (hz:zu.cells.size=sz)
  (el:TypeId) {h':H} (g':Gam h' r w) (sh:List Nat) :
  Gam (putH h' nx (.cells (cs++new) sz true sh)) (r.put nx ⟨w.heap.size,0,C - k,false⟩) (w.drew.alloc (.cells (olds.toArray++us.toArray++Builtin.zeroCells zu.cells (C - k)) el)) ∧
  Ext r (r.put nx ⟨w.heap.size,0,C - k,false⟩) w∧Fr r w (w.drew.alloc (.cells (olds.toArray++us.toArray++Builtin.zeroCells zu.cells (C - k)) el))∧Fresh (Nat.succ nx) (r.put nx ⟨w.heap.size,0,C - k,false⟩):=by
 have hn:=hf nx (Nat.le_refl _)
 have hle:r.le (r.put nx ⟨w.heap.size,0,C - k,false⟩):=Rho.put_le _ hn
 have hrel:Rels (r.put nx ⟨w.heap.size,0,C - k,false⟩) (cs++new) (olds++us):=(h1.append h2).mono hle _ _
 have hl1:=h1.length;have hl2:=h2.length
 refine⟨?_,Ext.alloc hn _,(Fr.drew r w).trans (Ext.refl _ _) (Fr.alloc r w.drew _),Fresh.put hf _⟩
 refine g'.drew.alloc (w:=w.drew) hn _ _ _ ⟨_,el,(0,0),heap_alloc_new _ _,?_,fun i b hb=>?_,fun _=>⟨rfl,fun i _=>World.frozen?_alloc_new w.drew _ _ _⟩⟩
 ·simp only[Nat.zero_add,List.length_append,Array.size_append,List.size_toArray,zeroCells_eq,Array.size_map,Array.size_range,hz,hl1,hl2]
  exact Nat.le_refl _
 ·obtain⟨u,q1,q2⟩:=hrel.get hb
  refine⟨u,?_,q2⟩
  have hi:i<olds.length+us.length:=by
   have:=(List.getElem?_eq_some_iff.1 q1).1
   simpa using this
  rw[Nat.zero_add,Array.getElem?_append_left (by simp;omega)]
  rw[← q1]
  simp
theorem append_ok (ht : TmOk r n tm a) (hg : Glob P r) (g : Gam (getB hp) r w) (hf : Fresh nx r) {xs : Array Operand} {ts : Array TypeId} (ho : o.op = .call ⟨.builtin .append, xs, ts⟩) {vs : List AV} (hx : opnds P tm xs.toList = some vs) :
    ResOk P o a r w (xbAppend P ts vs hp nx) := by
  refine runR_ok fun e h1 => runR_ok fun zf h2 => arg2_ok fun s x hv => runR_ok fun q h3 => sel_R (fun h4 => ?_) fun _ => trivial
  subst hv
  obtain ⟨t, h5, h6⟩ := bnd_some h1
  have ht0 := headT_ok h5
  obtain ⟨el, i, zu, z, d1, d2, d3, d4, rfl, d5, d6, d7, d8⟩ := elemZero_ok h6
  obtain ⟨u, ux, e1, e2, e3⟩ := args2 ht hg hx
  have hm := ble_le h4
  obtain ⟨us, n1, n2, N⟩ := news_ok ht hg g ht0 d1 d2 d3 d4 d5 d6 d8 h2 h3 hm e3
  have hn2 := n1.length
  have hzc : zu.cells.size = i.size := by have := (cells_ok (rel_avOf (r := r) _ _ d4)).length; simp at this; omega
  have key : ∀ {v w'}, (Builtin.append_ ts o.type #[u, ux]).run P w = .ok v w' → (execOp a.eval o).run P w = .ok (.value v) w' := fun h => by
    rw [exec_builtin ho, e1]
    simp only [builtin, Sem.run_bind, h, Result.andThen_ok, Sem.run_pure]
  have hn := hf nx (Nat.le_refl _)
  cases s with
  | nilSlice =>
    have hu := rel_nilSlice.1 e2
    subst hu
    show ResOk P o a r w (sel (Nat.beq q.1 0) (.ok .nilSlice hp nx) (.ok (.slice nx 0 q.1 q.1 false) (setB (some (.cells q.2 i.size true [])) nx hp) (Nat.succ nx)))
    refine sel_R (fun h0 => ?_) fun h0 => ?_
    · have hq0 := beq_eq h0
      have := append_room N o.type none 0 0 (by omega) (w' := w) rfl
      rw [hq0] at this
      exact ⟨_, w, r, .inl (key this), rel_nilSlice.2 rfl, Ext.refl _ _, Fr.refl _ _, g, hf⟩
    · have hq0 : q.1 ≠ 0 := fun e => by rw [e] at h0; exact absurd h0 (by decide)
      obtain ⟨C, c1, c2⟩ := append_grow N o.type none 0 0 (by omega) (by omega) (olds := #[]) rfl
      simp only [Nat.zero_add] at c1 c2
      obtain ⟨k1, k2, k3, k4⟩ := grow_new hf (cs := []) (olds := []) (Rels_nil.2 rfl) n1 (k := q.1) (sz := i.size) (C := C) (by simp; omega) c1 hzc el g []
      refine ⟨_, _, _, .inl (key c2), rel_slice.2 ⟨_, _, Rho.put_same _ _ _, ?_, fun _ => rfl⟩, k2, k3, ?_, k4⟩
      · show Value.slice _ _ _ = Value.slice _ _ _
        congr 1
        show C = q.1 + (C - q.1)
        omega
      · rw [getB_put]; exact k1
  | slice b off len cap ex =>
    obtain ⟨x0, A, f1, f2, f3⟩ := rel_slice.1 e2
    subst f2
    show ResOk P o a r w (sel (Nat.ble (len + q.1) cap) (sel (Nat.beq q.1 0) (.ok (.slice b off len cap ex) hp nx) (okR (.slice b off (len + q.1) cap ex) nx (storeB hp b (off + len * i.size) q.2)))
      (sel (Nat.ble len cap) (runR (getB hp b) (growB hp nx i.size b off len cap ex q.1 q.2)) .no))
    refine sel_R (fun h7 => sel_R (fun h8 => ?_) fun h8 => ?_) fun h7 => sel_R (fun h8 => runR_ok fun k hk => ?_) fun _ => trivial
    · -- nothing is appended
      have hq0 := beq_eq h8
      have hle := ble_le h7
      have hus : us = [] := List.eq_nil_of_length_eq_zero (by rw [n2, hq0, Nat.zero_mul])
      have := append_room N o.type (some A) len (cap + (if ex then 0 else x0.xt)) (by omega) (w' := w) (by rw [hus]; rfl)
      rw [hq0, Nat.add_zero] at this
      exact ⟨_, w, r, .inl (key this), e2, Ext.refl _ _, Fr.refl _ _, g, hf⟩
    · have hle := ble_le h7
      have hq0 : q.1 ≠ 0 := fun e => by rw [e] at h8; exact absurd h8 (by decide)
      refine okR_ok hf fun hp' h9 => ?_
      obtain ⟨y, s1, s2, s3, s4⟩ := storeB_ok g h9 n1
      rw [f1] at s1; injection s1 with s1; subst s1
      have hA := f3 (by omega)
      subst hA
      have := append_room N o.type (some ⟨x0.blk, x0.sh + off, none⟩) len (cap + (if ex then 0 else x0.xt)) (by omega) (w' := w.setCells x0.blk (x0.sh + (off + len * i.size)) us) (by
        simp only []
        rw [add_place, Nat.add_assoc]
        exact s2 P)
      exact ⟨_, _, .inl (key this), rel_slice.2 ⟨x0, _, f1, rfl, fun _ => rfl⟩, s4, s3⟩
    · have hlc := ble_le h8
      have hnr : ¬ (len + q.1 ≤ cap) := fun h => by rw [Nat.ble_eq_true_of_le h] at h7; exact absurd h7 (by decide)
      cases k with
      | map _ _ => exact trivial
      | iter _ _ => exact trivial
      | dfr => exact trivial
      | cells cs bs own sh =>
        refine sel_R (fun h9 => runR_ok fun old h10 => ?_) fun _ => trivial
        have hbig := ble_le h9
        obtain ⟨t1, t2⟩ := takeN_some h10
        rw [dropN_eq] at t1 t2
        -- what there was
        have hold : sel (Nat.beq len 0) (some []) (sel (Nat.ble len cap) (bnd (bnd (getB hp b) cellsB) fun cs => takeN (len * i.size) (dropN cs off)) none) = some old := by
          cases h0 : Nat.beq len 0 with
          | true =>
            have := beq_eq h0
            subst this
            rw [Nat.zero_mul] at h10
            exact h10
          | false =>
            show sel (Nat.ble len cap) (bnd (bnd (getB hp b) cellsB) fun cs => takeN (len * i.size) (dropN cs off)) none = some old
            rw [h8, hk]
            exact h10
        obtain ⟨os, o1, o2, o3⟩ := cellsOf_ok g hold (rel_slice.1 e2)
        have ho1 := o1.length
        refine sel_R (fun hex => ?_) fun hex => sel_R (fun h11 => ?_) fun _ => trivial
        · -- a slice of which all is known: a new row
          subst hex
          simp only [if_true, Nat.add_zero] at o3
          obtain ⟨C, c1, c2⟩ := append_grow N o.type (some A) len (cap + (if true then 0 else x0.xt)) (by simp; omega) hbig (o3 P w.drew rfl)
          obtain ⟨k1, k2, k3, k4⟩ := grow_new hf o1 n1 (k := len + q.1) (sz := i.size) (C := C) (by rw [← ho1, ← hn2, o2, n2, Nat.add_mul]) c1 hzc el g []
          refine ⟨_, _, _, .inl (key c2), rel_slice.2 ⟨_, _, Rho.put_same _ _ _, ?_, fun _ => rfl⟩, k2, k3, ?_, k4⟩
          · show Value.slice _ _ _ = Value.slice _ _ _
            congr 1
            show C = len + q.1 + (C - (len + q.1))
            omega
          · rw [app_eq, getB_put]; exact k1
        · have hex' : ex = false := hex
          subst hex'
          obtain ⟨hown, h12⟩ := and2 h11
          obtain ⟨h13, h14⟩ := and2 h12
          obtain ⟨h15, h16⟩ := and2 h14
          obtain ⟨h17, h18⟩ := and2 h16
          have hnc := beq_eq h13
          have hend := beq_eq h15
          rw [lenL_eq] at hend
          have hbs := beq_eq h17
          subst hown; subst hbs; subst hnc
          simp only [Bool.false_eq_true, if_false] at f3
          have hkb : getB hp b = some (.cells cs i.size true sh) := hk
          by_cases hroom : len + q.1 ≤ len + x0.xt
          · -- there is room behind: in the same row
            have hq0 : q.1 ≠ 0 := by omega
            have hA := f3 (by omega)
            subst hA
            obtain ⟨y, y1, c, e, f, y2, y3, y4, y5⟩ := g.blk b _ hkb
            rw [f1] at y1; injection y1 with y1; subst y1
            obtain ⟨hro, hfz⟩ := y5 rfl
            have hx1 : q.1 * i.size ≤ x0.xt * i.size := Nat.mul_le_mul_right _ (by omega)
            have hsub : (x0.xt - q.1) * i.size + q.1 * i.size = x0.xt * i.size := by rw [← Nat.add_mul]; congr 1; omega
            have hul : us.length = q.1 * i.size := n2
            have hplace : x0.sh + off + len * i.size + us.length ≤ c.size := by omega
            obtain ⟨⟨c', w1, w2, w3⟩, w4, w5, w6, w7, w8⟩ := heap_setCells x0.blk us (x0.sh + off + len * i.size) w c e f y2 hplace
            have hst := run_storeCells_cells (P := P) x0.blk (x0.sh + off + len * i.size) us 0 w (fun j hj => by
                rw [cell_of_heap y2]; simp; omega) (fun j hj => by
                exact hfz (x0.sh + off + len * i.size + 0 + j) (by omega)) (lones_ok h18 n1)
            have hrun := append_room N o.type (some ⟨x0.blk, x0.sh + off, none⟩) len (len + (if false then 0 else x0.xt)) (by simpa using hroom) (w' := w.setCells x0.blk (x0.sh + off + len * i.size) us) (by
              simp only []
              rw [add_place]
              simpa using hst)
            have hn' : r nx = none := hn
            let r' := r.put nx ⟨x0.blk, x0.sh + off, x0.xt - q.1, false⟩
            have hle : r.le r' := Rho.put_le _ hn'
            have hlow : ∀ j, j < x0.sh + off + len * i.size → c'[j]? = c[j]? := fun j hj => by rw [w3, if_neg (by omega)]
            have hfz' : ∀ j, j < c'.size → (w.setCells x0.blk (x0.sh + off + len * i.size) us).frozen? ⟨x0.blk, j, none⟩ = false := fun j hj => by
              have := hfz j (by rw [w2] at hj; exact hj)
              simp only [World.frozen?, y2] at this
              simp only [World.frozen?, w1]
              exact this
            refine ⟨_, w.setCells x0.blk (x0.sh + off + len * i.size) us, r', .inl (key hrun), rel_slice.2 ⟨_, _, Rho.put_same _ _ _, ?_, fun _ => rfl⟩, ⟨hle, fun p y h0 h1 => ?_⟩, Fr.turn f1 hro w6 w7 w8 w4 (by rw [w5]; exact Nat.le_refl _), ?_, Fresh.put hf _⟩
            · show Value.slice _ _ _ = Value.slice _ _ _
              congr 1
              show len + x0.xt = len + q.1 + (x0.xt - q.1)
              omega
            · have h1' : (if p = nx then some ⟨x0.blk, x0.sh + off, x0.xt - q.1, false⟩ else r p) = some y := h1
              split at h1'
              · injection h1' with h1'; subst h1'; exact ⟨rfl, .inr ⟨b, x0, f1, hro, rfl⟩⟩
              · rw [h0] at h1'; exact absurd h1' (by simp)
            · show Gam (getB (setB _ nx (setB _ b hp))) _ _
              rw [getB_put, getB_put, app_eq]
              refine g.share hkb f1 hn' w4 (by rw [w5]; exact Nat.le_refl _) (by rw [List.length_append]; show x0.sh + cs.length ≤ x0.sh + off + (old.length + q.2.length); omega) ⟨c', e, f, w1, by rw [w2]; exact y3, fun j d hd => ?_, fun h => absurd h (by decide)⟩ ⟨c', e, f, w1, ?_, fun j d hd => ?_, fun _ => ⟨rfl, hfz'⟩⟩ ?_
              · obtain ⟨v, v1, v2⟩ := y4 j d hd
                have hj := (List.getElem?_eq_some_iff.1 hd).1
                exact ⟨v, by rw [hlow _ (by omega)]; exact v1, v2.mono hle _ _⟩
              · rw [w2, List.length_append]
                show x0.sh + off + (old.length + q.2.length) + (x0.xt - q.1) * i.size ≤ c.size
                omega
              · by_cases hj : j < old.length
                · rw [List.getElem?_append_left hj, t2] at hd
                  rw [t2] at hj
                  have hj' : j < len * i.size := by simp at hj; omega
                  rw [List.getElem?_take_of_lt hj', List.getElem?_drop] at hd
                  obtain ⟨v, v1, v2⟩ := y4 _ d hd
                  refine ⟨v, ?_, v2.mono hle _ _⟩
                  show c'[x0.sh + off + j]? = some v
                  rw [hlow _ (by omega), ← v1]
                  congr 1; omega
                · have hol : old.length = len * i.size := by omega
                  rw [List.getElem?_append_right (by omega)] at hd
                  obtain ⟨v, v1, v2⟩ := n1.get hd
                  have hj2 := (List.getElem?_eq_some_iff.1 v1).1
                  refine ⟨v, ?_, v2.mono hle _ _⟩
                  show c'[x0.sh + off + j]? = some v
                  rw [w3, if_pos (by omega), ← v1]
                  congr 1; omega
              · intro b' k' x' p1 p2 p3 p4
                obtain ⟨s1, s2⟩ := g.sep b _ x0 b' k' x' hkb rfl f1 p1 p2 p3 p4
                obtain ⟨y', y1', y2'⟩ := g.blk b' k' p1
                rw [p2] at y1'; injection y1' with y1'; subst y1'
                cases k' with
                | map _ _ => obtain ⟨m, k, z1, _⟩ := y2'; rw [p4, y2] at z1; exact absurd z1 (by simp)
                | iter _ _ => obtain ⟨m, z1, _⟩ := y2'; rw [p4, y2] at z1; exact absurd z1 (by simp)
                | dfr => obtain ⟨z1, _⟩ := y2'; rw [p4, y2] at z1; exact absurd z1 (by simp)
                | cells cs' sz' own' sh' =>
                  obtain ⟨c2, e2', f2', z1, z2, z3, _⟩ := y2'
                  rw [p4, y2] at z1
                  injection z1 with z1; injection z1 with z1 z1' z1''; subst z1
                  obtain ⟨s2, s3⟩ := s2
                  have s2' : own' = false := s2
                  subst s2'
                  have s3' : x'.sh + cs'.length ≤ x0.sh + cs.length := s3
                  refine ⟨c', e, f, by rw [p4]; exact w1, by rw [w2]; exact z2, fun j d hd => ?_, fun h => absurd h (by decide)⟩
                  obtain ⟨v, v1, v2⟩ := z3 j d hd
                  have hj := (List.getElem?_eq_some_iff.1 hd).1
                  exact ⟨v, by rw [hlow _ (by omega)]; exact v1, v2.mono hle _ _⟩
          · -- a new row
            obtain ⟨C, c1, c2⟩ := append_grow N o.type (some A) len (len + (if false then 0 else x0.xt)) (by simp; omega) hbig (o3 P w.drew rfl)
            obtain ⟨k1, k2, k3, k4⟩ := grow_new hf o1 n1 (k := len + q.1) (sz := i.size) (C := C) (by rw [← ho1, ← hn2, o2, n2, Nat.add_mul]) c1 hzc el (g.weaken hkb) (b :: sh)
            refine ⟨_, _, _, .inl (key c2), rel_slice.2 ⟨_, _, Rho.put_same _ _ _, ?_, fun _ => rfl⟩, k2, k3, ?_, k4⟩
            · show Value.slice _ _ _ = Value.slice _ _ _
              congr 1
              show C = len + q.1 + (C - (len + q.1))
              omega
            · rw [app_eq, getB_put, getB_put]; exact k1
  | _ => exact trivial
end
end Go.Proofs.YtbdbhdcbdfbnnaaGreatDoor.Ev
set_option linter.unusedVariables false
set_option linter.unusedSimpArgs false
namespace Go.Proofs.YtbdbhdcbdfbnnaaGreatDoor.Ev
section
variable {P : Program} {r : Rho} {n : Nat} {tm : Tr AV} {a : Act} {w : World} {o : Oper} {hp : Hp} {nx : Nat}
theorem copy_ok (ht : TmOk r n tm a) (hg : Glob P r) (g : Gam (getB hp) r w) (hf : Fresh nx r) {xs : Array Operand} {ts : Array TypeId} (ho : o.op = .call ⟨.builtin .copy, xs, ts⟩) {vs : List AV} (hx : opnds P tm xs.toList = some vs) :
    ResOk P o a r w (xbCopy P ts vs hp nx) := by
  refine runR_ok fun e h1 => arg2_ok fun d x hv => runR_ok fun dl h2 => runR_ok fun xl h3 => ?_
  subst hv
  obtain ⟨t, h5, h6⟩ := bnd_some h1
  have ht0 := headT_ok h5
  obtain ⟨el, i, zu, z, d1, d2, d3, d4, rfl, d5, d6, d7, d8⟩ := elemZero_ok h6
  obtain ⟨u, ux, e1, e2, e3⟩ := args2 ht hg hx
  obtain ⟨A, c, f1, f2⟩ := lenOf_ok h2 e2
  obtain ⟨B, c', f3, f4⟩ := lenOf_ok h3 e3
  have hmin : sel (Nat.blt xl dl) xl dl = Nat.min xl dl := by
    cases hb : Nat.blt xl dl with
    | true => have := blt_lt hb; show xl = min xl dl; omega
    | false =>
      have : ¬ xl < dl := fun h => by
        have := Nat.ble_eq_true_of_le (show xl + 1 ≤ dl from h)
        rw [show Nat.blt xl dl = Nat.ble (xl + 1) dl from rfl, this] at hb; exact absurd hb (by decide)
      show dl = min xl dl; omega
  rw [hmin]
  generalize hm : Nat.min xl dl = m
  unfold copyB
  refine runR_ok fun new h4 => ?_
  have key : ∀ {w'}, (Builtin.copy_ ts o.type #[u, ux]).run P w = .ok (.int .i64 (m : Int)) w' → (execOp a.eval o).run P w = .ok (.value (.int .i64 (m : Int))) w' := fun h => by
    rw [exec_builtin ho, e1]
    simp only [builtin, Sem.run_bind, h, Result.andThen_ok, Sem.run_pure]
  -- what is copied
  have hsrc : ∃ us : List Value, Rels r new us ∧ us.length = m * i.size ∧ (Builtin.firstCells i.size m ux).run P w = .ok us.toArray w := by
    cases x with
    | slice b off len cap ex =>
      obtain ⟨us, k1, k2, k3⟩ := cellsOf_ok g (show sel (Nat.beq m 0) (some []) (sel (Nat.ble m cap) (bnd (bnd (getB hp b) cellsB) fun cs => takeN (m * i.size) (dropN cs off)) none) = some new from h4) (rel_slice.1 e3)
      exact ⟨us, k1, k2, k3 P w rfl⟩
    | nilSlice =>
      obtain ⟨q1, q2⟩ := sel_none (show sel (Nat.beq m 0) (some []) none = some new from h4)
      injection q2 with q2; subst q2
      have hux := rel_nilSlice.1 e3
      have h0 := beq_eq q1
      refine ⟨[], Rels_nil.2 rfl, by rw [h0]; simp, ?_⟩
      rw [hux]; rfl
    | _ => exact absurd h3 (by simp [lenOf])
  obtain ⟨us, s1, s2, s3⟩ := hsrc
  have hrun : ∀ {w'}, (match A with | some a => storeCells a us | none => pure () : Sem Unit).run P w = .ok () w' → (Builtin.copy_ ts o.type #[u, ux]).run P w = .ok (.int .i64 (m : Int)) w' := by
    intro w' hst
    subst f1; subst f3
    simp only [Builtin.copy_, ht0, List.getElem?_toArray, List.getElem?_cons_zero, List.getElem?_cons_succ, Sem.run_bind, run_underlying d1, Result.andThen_ok, Builtin.lenOf, Sem.run_pure, run_size d2, hm, s3]
    cases A with
    | none => simp only [Sem.run_pure] at hst; injection hst with _ hst; subst hst; rfl
    | some a => simp only [] at hst; simp [hst, goInt]
  cases d with
  | nilSlice =>
    have hu := rel_nilSlice.1 e2
    rw [hu] at f1
    injection f1 with q1 q2 q3
    subst q1
    have hd0 : m = 0 := by have := (f2 rfl).1; show m = 0; rw [← hm, this]; exact Nat.min_eq_right (Nat.zero_le _)
    subst hd0
    exact ⟨_, w, r, .inl (key (hrun rfl)), rel_int.2 rfl, Ext.refl _ _, Fr.refl _ _, g, hf⟩
  | slice b off len cap ex =>
    obtain ⟨x0, A', q1, q2, q3⟩ := rel_slice.1 e2
    rw [q2] at f1
    injection f1 with p1 p2 p3
    subst p1
    refine sel_R (fun h0 => ?_) fun h0 => sel_R (fun h7 => ?_) fun _ => trivial
    · have hm0 := beq_eq h0
      have hus : us = [] := List.eq_nil_of_length_eq_zero (by rw [s2, hm0, Nat.zero_mul])
      have := key (hrun (w' := w) (by rw [hus]; rfl))
      rw [hm0] at this
      exact ⟨_, w, r, .inl this, rel_int.2 rfl, Ext.refl _ _, Fr.refl _ _, g, hf⟩
    · have hm0 : m ≠ 0 := fun e => by rw [e] at h0; exact absurd h0 (by decide)
      have hle := ble_le h7
      refine okR_ok hf fun hp' h9 => ?_
      obtain ⟨y, t1, t2, t3, t4⟩ := storeB_ok g h9 s1
      rw [q1] at t1; injection t1 with t1; subst t1
      have hA := q3 (by omega)
      subst hA
      exact ⟨_, _, .inl (key (hrun (t2 P))), rel_int.2 rfl, t4, t3⟩
  | _ => exact absurd h2 (by simp [lenOf])
theorem clear_ok (ht:TmOk r n tm a) (hg:Glob P r) (g:Gam (getB hp) r w) (hf:Fresh nx r) {xs:Array Operand} {ts:Array TypeId} (ho:o.op=.call ⟨.builtin .clear,xs,ts⟩) {vs:List AV} (hx:opnds P tm xs.toList=some vs) :
  ResOk P o a r w (xbClear P ts vs hp nx):=by
 refine runR_ok fun e h1=>arg1_ok fun x hv=>?_
 subst hv
 obtain⟨t,h5,h6⟩:=bnd_some h1
 have ht0:=headT_ok h5
 obtain⟨el,i,zu,z,d1,d2,d3,d4,rfl,d5,d6,d7,d8⟩:=elemZero_ok h6
 obtain⟨u,e1,e2⟩:=args1 ht hg hx
 have key:∀ {w'},(Builtin.clear_ ts o.type #[u]).run P w=.ok (.tuple #[]) w'→(execOp a.eval o).run P w=.ok (.value (.tuple #[])) w':=fun h=>by
  rw[exec_builtin ho,e1]
  simp only[builtin,Sem.run_bind,h,Result.andThen_ok,Sem.run_pure]
 have done:∀ {A:Option Addr} {c:Nat},(Builtin.clear_ ts o.type #[.slice A 0 c]).run P w=.ok (.tuple #[]) w:=by
  intro A c
  cases A <;> simp only[Builtin.clear_,ht0,List.getElem?_toArray,List.getElem?_cons_zero,Sem.run_bind,run_underlying d1,Result.andThen_ok,Sem.run_pure]
 cases x with
 | nilSlice =>
  have hu:=rel_nilSlice.1 e2
  subst hu
  exact⟨_,w,r,.inl (key done),rel_undef,Ext.refl _ _,Fr.refl _ _,g,hf⟩
 | slice b off m cap ex =>
  obtain⟨x0,A,q1,rfl,q3⟩:=rel_slice.1 e2
  refine sel_R (fun h0=>?_) fun h0=>sel_R (fun h7=>?_) fun _=>trivial
  ·have hm0:=beq_eq h0
   subst hm0
   exact⟨_,w,r,.inl (key done),rel_undef,Ext.refl _ _,Fr.refl _ _,g,hf⟩
  ·have hm0:m≠0:=fun e=>by rw[e] at h0;exact absurd h0 (by decide)
   obtain⟨h8,h9⟩:=and2 h7
   have hle:=ble_le h8
   have hm:=ble_le h9
   have hA:=q3 (by omega)
   subst hA
   have hz:=cells_ok (rel_avOf (r:=r) _ _ d4)
   have hzs:=zeros_ok hz m (by omega)
   refine okR_ok hf fun hp' h10=>?_
   obtain⟨y,t1,t2,t3,t4⟩:=storeB_ok g h10 hzs
   rw[q1] at t1;injection t1 with t1;subst t1
   refine⟨_,_,.inl (key ?_),rel_undef,t4,t3⟩
   obtain⟨k,rfl⟩ : ∃ k,m=k+1:=⟨m - 1,by omega⟩
   have:=t2 P
   simp only[Builtin.clear_,ht0,List.getElem?_toArray,List.getElem?_cons_zero,Sem.run_bind,run_underlying d1,Result.andThen_ok,run_zero d2 d3,Sem.run_pure,Builtin.zeroCells]
   simp only[Array.toList_map] at this ⊢
   rw[this]
   rfl
 | _=>exact trivial
theorem funKind_ok {f:FuncId} {k:FK} (h:funKind P f=some k) :
  match k with
  | .own=>(∃ fn c,P.funcs[f]?=some fn∧fn.body=some c)∧∀ args w,(callFunc f args).run P w=.ok (.enter f args) w
  | .clone=>∀ (t:TypeId) (b:Nat) (m:Array MapEntry) (c:Nat) w,w.heap[b]?=some (.map m c)→(callFunc f #[.iface t (.map (some b))]).run P w=.ok (.value (.iface t (.map (some w.heap.size)))) (w.alloc (.map m c)):=by
 unfold funKind at h
 split at h
 ·rename_i fn hfn
  cases hb:fn.body with
  | some c =>
   rw[hb] at h
   obtain ⟨h1, h2⟩ := sel_none' (show sel (fn.name == "runtime.NumGoroutine") none (some FK.own) = some k from h)
   injection h2 with h2;subst h2
   refine⟨⟨fn,c,hfn,hb⟩,fun args w=>?_⟩
   have h1' : (fn.name == "runtime.NumGoroutine") = false := h1
   simp only[callFunc,Sem.run_bind,run_program,Result.andThen_ok,hfn,h1',Bool.false_eq_true,if_false,hb,Option.isNone_some,Sem.run_pure]
  | none =>
   rw[hb] at h
   obtain ⟨h1, h2⟩ := sel_none (show sel (and (fn.name == "maps.clone") (fn.origin == "")) (some FK.clone) none = some k from h)
   injection h2 with h2;subst h2
   obtain⟨h3,h4⟩:=and2 h1
   have h3:=eq_of_beq h3;have h4:=eq_of_beq h4
   intro t b m c w hw
   have e1 : (fn.name == "runtime.NumGoroutine") = false := by rw [h3]; decide
   have e2:Extern.findNext fn=none:=by
    unfold Extern.findNext
    rw[h3,h4]
    have g1 : (Extern.allNextRows.lookup "maps.clone").isNone = true := by kernel_rfl
    have g2 : (Extern.allNextRows.lookup "").isNone = true := by kernel_rfl
    rw[Option.isNone_iff_eq_none] at g1 g2
    simp[g1,g2]
   have e3:Extern.find fn=some Extern.MapsClone.clone:=by
    unfold Extern.find
    rw[h3,h4]
    have g1 : (Extern.allGenericRows.lookup "maps.clone").isNone = true := by kernel_rfl
    have g2 : (Extern.allTypedRows.lookup "maps.clone").isNone = true := by kernel_rfl
    have g3 : Extern.allRows.lookup "maps.clone" = some Extern.MapsClone.clone := by kernel_rfl
    rw[Option.isNone_iff_eq_none] at g1 g2
    simp[g1,g2,g3]
   have hdef:Extern.MapsClone.clone #[.iface t (.map (some b))]=(getObj b >>= fun o=>match o with
    | .map entries clock=>(do pure (.iface t (.map (some (← newObj (.map entries clock))))))
    | _ => stuck "maps.clone: a map expected") := rfl
   have e4:(Extern.MapsClone.clone #[.iface t (.map (some b))]).run P w=.ok (.iface t (.map (some w.heap.size))) (w.alloc (.map m c)):=by
    rw[hdef]
    simp only[Sem.run_bind,run_getObj_map hw,Result.andThen_ok,run_newObj,Sem.run_pure]
    rfl
   simp only[callFunc,Sem.run_bind,run_program,Result.andThen_ok,hfn,e1,Bool.false_eq_true,if_false,hb,Option.isNone_none,if_true,run_mark,e2,e3,e4,Sem.run_pure]
 ·exact absurd h (by simp)
theorem calleeOf_ok {v:AV} {c:FuncId×List AV×List AV} (h:calleeOf v=some c):v=.func c.1 c.2.1 c.2.2:=by
 cases v <;> simp[calleeOf] at h;subst h;rfl
theorem callR_ok (g:Gam (getB hp) r w) (hf:Fresh nx r) {f:FuncId} {k:FK} (hk:funKind P f=some k) {vs:List AV} {us:Array Value} (hu:Rels r vs us.toList) (hrun:(execOp a.eval o).run P w=(callFunc f us).run P w) :
  ResOk P o a r w (callR k f vs hp nx):=by
 have hfk:=funKind_ok hk
 cases k with
 | own=>exact⟨us,by rw[hrun,hfk.2],hu⟩
 | clone =>
  refine newR_ok g hf fun v k h=>?_
  unfold cloneP at h
  split at h
  ·rename_i t b
   obtain⟨es,h1,h2⟩:=bnd_some h
   simp only[Option.some.injEq,Prod.mk.injEq] at h2
   obtain⟨rfl,rfl⟩:=h2
   obtain⟨x,m,c,m1,m2,m3⟩:=mapB_ok g h1
   obtain⟨u,l,e1,e2,e3⟩:=Rels_cons.1 hu
   have:=Rels_nil.1 e3
   subst this
   obtain⟨y,rfl,e4⟩:=rel_iface.1 e2
   obtain⟨x',m1',rfl⟩:=rel_map.1 e4
   rw[m1] at m1';injection m1' with m1';subst m1'
   have hus:us=#[.iface t (.map (some x.blk))]:=by rw[← Array.toList_inj,e1]
   have hle:r.le (r.put nx ⟨w.heap.size,0,0,false⟩):=Rho.put_le _ (hf nx (Nat.le_refl _))
   refine⟨.map m c,0,.iface t (.map (some w.heap.size)),by rw[hrun,hus];exact hfk t x.blk m c w m2,rel_iface.2 ⟨_,rfl,rel_map.2 ⟨_,Rho.put_same _ _ _,rfl⟩⟩,⟨m,c,heap_alloc_new _ _,m3.mono hle,fun _=>rfl⟩⟩
  ·exact absurd h (by simp)
theorem value_ok (ht:TmOk r n tm a) (hg:Glob P r) (g:Gam (getB hp) r w) (hf:Fresh nx r) {f:Operand} {xs:Array Operand} {ts:Array TypeId} (ho:o.op=.call ⟨.value f,xs,ts⟩) :
  ResOk P o a r w (xcValue f xs ts P tm hp nx):=by
 refine runR_ok fun c h1=>runR_ok fun vs h2=>runR_ok fun k h3=>?_
 obtain⟨b,h4,h5⟩:=bnd_some h1
 have:=calleeOf_ok h5;subst this
 obtain⟨x,y,e1,e2,e3⟩:=rel_func.1 (opnd_ok ht hg h4)
 have e4:=opnds_ok ht hg h2
 refine callR_ok g hf h3 (us:=x++xs.map a.eval++y) ?_ ?_
 ·rw[app_eq,app_eq,Array.toList_append,Array.toList_append,Array.toList_map,List.append_assoc]
  exact e2.append (e4.append e3)
 ·simp only[execOp,ho,resolve,Deferred.ofValue,e1,Sem.run_bind,Sem.run_pure,Result.andThen_ok,invoke]
theorem methodKind_ok {t:TypeId} {name:String} {k:MK} (h:methodKind P t name=some k) :
  match k with
  | .own f=>∀ d p w,(Go.method (d+1) t (.pointer p) name).run P w=.ok (f,.pointer p) w
  | .sub f off s=>∃ ft,aggSize P ft=some s∧∀ d A w u,(loadVar ft (A.add off)).run P w=.ok u w→(Go.method (d+1) t (.pointer (some A)) name).run P w=.ok (f,u) w
  | .val f s=>∃ ft,aggSize P ft=some s∧∀ d A w u,(loadVar ft A).run P w=.ok u w→(Go.method (d+1) t (.pointer (some A)) name).run P w=.ok (f,u) w:=by
 obtain⟨i,h1,h2⟩:=bnd_some h
 obtain⟨m,h3,h4⟩:=bnd_some h2
 split at h4
 ·rename_i f p hm hp
  split at h4
  ·rename_i e hu
   injection h4 with h4;subst h4
   intro d q w
   simp[Go.method,typeInfo,h1,h3,hp,Go.follow,hm,Go.receiverAt,run_underlying hu,Go.Place.get]
  ·rename_i e hu
   obtain⟨az,h5,h6⟩:=bnd_some h4
   injection h6 with h6;subst h6
   refine⟨e,h5,fun d A w u hl=>?_⟩
   have hw : ∀ s : String, Builtin.ssaWrapNilChk_ #[t] t #[.pointer (some A), strVal "", strVal s] = pure (.pointer (some A)) := fun s => rfl
   simp[Go.method,typeInfo,h1,h3,hp,Go.follow,hm,Go.receiverAt,run_underlying hu,Go.Place.get,hw,Go.asAddr,hl]
  ·exact absurd h4 (by simp)
 ·rename_i f s hm hp
  obtain⟨h5,h6⟩:=sel_none h4
  obtain⟨fs,h7,h8⟩:=bnd_some h6
  obtain⟨g,h9,h10⟩:=bnd_some h8
  obtain⟨sz,h11,h12⟩:=bnd_some h10
  obtain⟨az,h13,h14⟩:=bnd_some h12
  split at h14
  ·exact absurd h14 (by simp)
  ·rename_i dd hnp hu
   obtain⟨h15,h16⟩:=sel_none' h14
   injection h16 with h16;subst h16
   obtain⟨j,i1,i2⟩:=sizeOf_ok h11
   have hz:j.size≠0:=fun e=>by rw[i2] at e;subst e;exact absurd h15 (by decide)
   refine⟨g.type,h13,fun d A w u hl=>?_⟩
   have hd:(s.deref)=true:=h5
   have e1:(Go.receiverAt g.type (.var (A.add g.offset)) false none).run P w=.ok u w:=by
    simp only[Go.receiverAt,Sem.run_bind,run_underlying hu,Result.andThen_ok]
    cases dd <;> first | exact absurd rfl (hnp _) | exact hl
   have hpe:m.path.isEmpty=false:=by rw[hp];rfl
   simp[Go.method,typeInfo,h1,h3,hp,Go.follow,hm,run_underlying (structOf_ok h7),h9,hd,Go.Place.get,Go.asAddr,fieldPlace,run_size i1,hz,e1]
  ·exact absurd h14 (by simp)
 ·exact absurd h4 (by simp)
theorem ifaceOf_ok {v:AV} {p:TypeId×AV} (h:ifaceOf v=some p):v=.iface p.1 p.2:=by
 cases v <;> simp[ifaceOf] at h;subst h;rfl
theorem invoke_ok (ht:TmOk r n tm a) (hg:Glob P r) (g:Gam (getB hp) r w) (hf:Fresh nx r) {f:Operand} {name:String} {xs:Array Operand} {ts:Array TypeId} (ho:o.op=.call ⟨.invoke f name,xs,ts⟩) :
  ResOk P o a r w (xcInvoke f name xs ts P tm hp nx):=by
 refine runR_ok fun p h1=>runR_ok fun q h2=>runR_ok fun vs h3=>runR_ok fun k h4=>?_
 obtain⟨b,h5,h6⟩:=bnd_some h1
 have:=ifaceOf_ok h6;subst this
 obtain⟨x,e1,e2⟩:=rel_iface.1 (opnd_ok ht hg h5)
 have e4:=opnds_ok ht hg h3
 obtain⟨mk,h7,h8⟩:=bnd_some h2
 have key:∀ {y:Value},(∀ d,(Go.method (d+1) p.1 x name).run P w=.ok (q.1,y) w)→(execOp a.eval o).run P w=(callFunc q.1 (#[y]++xs.map a.eval)).run P w:=by
  intro y h
  have hext:(#[Value.iface p.1 x]++xs.map a.eval).extract 1 (#[Value.iface p.1 x]++xs.map a.eval).size=xs.map a.eval:=by
   apply Array.ext'
   simp[Array.toList_extract,List.extract_eq_take_drop]
   exact List.take_of_length_le (by simp)
  have h0:(#[Value.iface p.1 x]++xs.map a.eval)[0]?=some (.iface p.1 x):=by
   rw[Array.getElem?_append_left (by simp)];rfl
  have hd:=h (P.types.size+Made.depth - 1)
  have hpos:P.types.size+Made.depth - 1+1=P.types.size+Made.depth:=by
   have:0<Made.depth:=by decide
   omega
  rw[hpos] at hd
  simp only[execOp,ho,resolve,e1,Sem.run_bind,Sem.run_pure,Result.andThen_ok,invoke,h0,hext,callMethod,run_program,hd]
 cases mk with
 | own f0 =>
  obtain⟨pp,h9,h10⟩:=bnd_some (show bnd (asPtr p.2) (fun p=>some (f0,AV.ptr p.1 p.2))=some q from h8)
  injection h10 with h10;subst h10
  have hp2:=asPtr_some h9
  rw[hp2] at e2
  obtain⟨y,f1,f2⟩:=rel_ptr.1 e2
  refine callR_ok g hf h4 (us:=#[x]++xs.map a.eval) ?_ (key fun d=>by rw[f2];exact methodKind_ok h7 d _ w)
  rw[Array.toList_append,Array.toList_map]
  exact Rels_cons.2 ⟨_,_,rfl,e2,e4⟩
 | sub f0 off s =>
  obtain⟨pp,h9,h10⟩:=bnd_some (show bnd (asPtr p.2) (fun p=>bnd (loadB hp s (p.1,p.2+off)) fun r=>some (f0,r))=some q from h8)
  obtain⟨rv,h11,h12⟩:=bnd_some h10
  injection h12 with h12;subst h12
  have hp2:=asPtr_some h9
  rw[hp2] at e2
  obtain⟨y,f1,f2⟩:=rel_ptr.1 e2
  obtain⟨ft,m1,m2⟩:=methodKind_ok h7
  obtain⟨u,l1,l2⟩:=loadB_run g m1 f1 h11
  refine callR_ok g hf h4 (us:=#[u]++xs.map a.eval) ?_ (key fun d=>?_)
  ·rw[Array.toList_append,Array.toList_map]
   exact Rels_cons.2 ⟨_,_,rfl,l2,e4⟩
  ·rw[f2]
   exact m2 d _ w u (by rw[add_place,Nat.add_assoc];exact l1)
 | val f0 s =>
  obtain⟨pp,h9,h10⟩:=bnd_some (show bnd (asPtr p.2) (fun p=>bnd (loadB hp s p) fun r=>some (f0,r))=some q from h8)
  obtain⟨rv,h11,h12⟩:=bnd_some h10
  injection h12 with h12;subst h12
  have hp2:=asPtr_some h9
  rw[hp2] at e2
  obtain⟨y,f1,f2⟩:=rel_ptr.1 e2
  obtain⟨ft,m1,m2⟩:=methodKind_ok h7
  obtain⟨u,l1,l2⟩:=loadB_run g m1 f1 h11
  refine callR_ok g hf h4 (us:=#[u]++xs.map a.eval) ?_ (key fun d=>?_)
  ·rw[Array.toList_append,Array.toList_map]
   exact Rels_cons.2 ⟨_,_,rfl,l2,e4⟩
  ·rw[f2]
   exact m2 d _ w u l1
end
end Go.Proofs.YtbdbhdcbdfbnnaaGreatDoor.Ev
set_option linter.unusedVariables false
set_option linter.unusedSimpArgs false
namespace Go.Proofs.YtbdbhdcbdfbnnaaGreatDoor.Ev
section
variable {P : Program} {r : Rho} {n : Nat} {tm : Tr AV} {a : Act} {w : World} {o : Oper} {hp : Hp} {nx : Nat}
theorem builtin_ok (ht:TmOk r n tm a) (hg:Glob P r) (g:Gam (getB hp) r w) (hf:Fresh nx r) {b:Builtin} {xs:Array Operand} {ts:Array TypeId} (ho:o.op=.call ⟨.builtin b,xs,ts⟩) :
  ResOk P o a r w (xcBuiltin b xs ts P tm hp nx):=by
 refine runR_ok fun vs h=>?_
 cases b <;> first | exact trivial | skip
 case append=>exact append_ok ht hg g hf ho h
 case cap =>
  refine runR_ok fun e h1=>arg1_ok fun x hv=>pureR_ok g hf fun v h2=>?_
  subst hv;exact cap_ok ht hg ho h1 h h2
 case copy=>exact copy_ok ht hg g hf ho h
 case clear=>exact clear_ok ht hg g hf ho h
 case delete=>exact delete_ok ht hg g hf ho h
 case len =>
  refine runR_ok fun k h1=>arg1_ok fun x hv=>pureR_ok g hf fun v h2=>?_
  subst hv;exact len_ok ht hg g ho h1 h h2
 case max =>
  refine arg2_ok fun x y hv=>pureR_ok g hf fun v h2=>?_
  subst hv;exact max_ok ht hg ho h h2
 case min =>
  refine arg2_ok fun x y hv=>pureR_ok g hf fun v h2=>?_
  subst hv;exact min_ok ht hg ho h h2
theorem opX_ok (ht:TmOk r n tm a) (hg:Glob P r) (g:Gam (getB hp) r w) (hf:Fresh nx r):ResOk P o a r w (opX o.op P tm hp nx):=by
 cases hop:o.op <;> first | exact trivial | skip
 case move x=>exact pureR_ok g hf fun v h=>move_ok ht hg (.inl hop) h
 case assign x=>exact pureR_ok g hf fun v h=>move_ok ht hg (.inr hop) h
 case pick c x y=>exact pureR_ok g hf fun v h=>pick_ok ht hg hop h
 case alloc t=>exact alloc_ok g hf hop
 case box t x=>exact box_ok ht hg g hf hop
 case build t ps=>exact pureR_ok g hf fun v h=>build_ok ht hg hop h
 case buildSlice t m ps=>exact buildSlice_ok ht hg g hf hop
 case insert t m k v=>exact update_ok ht hg g hf (.inr hop)
 case load t x=>exact pureR_ok g hf fun v h=>load_ok ht hg g hop h
 case store t x v=>exact store_ok ht hg g hf hop
 case nilCheck x=>exact pureR_ok g hf fun v h=>nilCheck_ok ht hg hop h
 case binOp op t x y t'=>exact pureR_ok g hf fun v h=>bin_ok ht hg hop h
 case unOp op t x=>exact pureR_ok g hf fun v h=>un_ok ht hg hop h
 case convert s d x=>exact pureR_ok g hf fun v h=>conv_ok ht hg hop h
 case makeInterface t x=>exact pureR_ok g hf fun v h=>iface_ok ht hg hop h
 case makeFunc fn x y =>
  cases fn <;> first | exact trivial | exact pureR_ok g hf fun v h=>func_ok ht hg hop h
 case makeMap t x=>exact makeMap_ok g hf hop
 case makeSlice t x y=>exact makeSlice_ok ht hg g hf hop
 case slice t x lo hi mx=>exact pureR_ok g hf fun v h=>slice_ok ht hg hop h
 case fieldAddr s x f=>exact pureR_ok g hf fun v h=>fieldAddr_ok ht hg hop h
 case field s x f=>exact pureR_ok g hf fun v h=>field_ok ht hg hop h
 case indexAddr t x i=>exact pureR_ok g hf fun v h=>indexAddr_ok ht hg hop h
 case index t x i=>exact pureR_ok g hf fun v h=>index_ok ht hg hop h
 case lookup t x i ok=>exact pureR_ok g hf fun v h=>lookup_ok ht hg g hop h
 case mapUpdate t m k v=>exact update_ok ht hg g hf (.inl hop)
 case range t x=>exact range_ok ht hg g hf hop
 case next x s=>exact next_ok ht hg g hf hop
 case typeAssert x t' t ok=>exact pureR_ok g hf fun v h=>assert_ok ht hg hop h
 case extract x i=>exact pureR_ok g hf fun v h=>extract_ok ht hg hop h
 case call c =>
  obtain⟨callee,xs,ts⟩:=c
  cases callee with
  | value f=>exact value_ok ht hg g hf hop
  | invoke f name=>exact invoke_ok ht hg g hf hop
  | builtin b=>exact builtin_ok ht hg g hf hop
theorem slot_set (tm:Tr AV) (v:AV) (d t:Nat):slot (setP (some v) (pos (Nat.succ d)) tm) t=if t=d then v else slot tm t:=by
 unfold slot
 split
 ·rename_i h;subst h;rw[getP_setP_same]
 ·rename_i h;rw[getP_setP_other _ _ _ _ fun e=>h (by have:=pos_inj e;omega)]
theorem TmOk.put (ht:TmOk r n tm a) {v:AV} {x:Value} (hv:Rel r v x) {d:Nat} (hd:d<n):TmOk r n (setP (some v) (pos (Nat.succ d)) tm) (a.put (some d) x):=by
 have hs:=ht.size
 refine⟨by simp[Act.put,hs],fun t=>?_,?_⟩
 ·rw[slot_set]
  simp only[Act.put,Array.getD_eq_getD_getElem?]
  split
  ·rename_i h;subst h
   rw[Array.getElem?_setIfInBounds_self,if_pos (by omega)]
   exact hv
  ·rename_i h
   rw[Array.getElem?_setIfInBounds_ne (Ne.symm h)]
   have:=ht.slot t
   rwa [Array.getD_eq_getD_getElem?] at this
 ·rw[getP_setP_other _ _ _ _ (Ne.symm (pos_succ_ne d))]
  exact ht.defs
def St (P:Program) (r:Rho) (w:World) (n:Nat) (tm:Tr AV) (hp:Hp) (nx:Nat) (a':Act) (w':World):Prop :=
 ∃ r',TmOk r' n tm a'∧Ext r r' w∧Fr r w w'∧Gam (getB hp) r' w'∧Fresh nx r'
theorem St.trans {tm':Tr AV} {hp':Hp} {nx':Nat} {a' a'':Act} {w' w'':World} {r':Rho} (e:Ext r r' w) (f:Fr r w w') (h:St P r' w' n tm hp nx a'' w''):St P r w n tm hp nx a'' w'':=by
 obtain⟨s,h1,h2,h3,h4,h5⟩:=h
 exact⟨s,h1,e.trans h2 f.size,f.trans e h3,h4,h5⟩
theorem putD_ok {dst:Option Tmp} {v:AV} {o':Out} (h:putD dst v tm n hp nx=o'):(∃ m,o'=.fail m)∨∃ tm',o'=.norm tm' hp nx∧∀ {r:Rho} {a:Act} {x:Value},TmOk r n tm a→Rel r v x→TmOk r n tm' (a.put dst x):=by
 cases dst with
 | none=>exact .inr ⟨tm,h.symm,fun ht _=>ht⟩
 | some d =>
  cases hd:Nat.blt d n with
  | true =>
   refine .inr ⟨setP (some v) (pos (Nat.succ d)) tm,?_,fun ht hv=>ht.put hv (blt_lt hd)⟩
   rw[← h]
   show Bool.rec (motive:=fun _=>Out) _ _ (Nat.blt d n)=_
   rw[hd]
  | false =>
   refine .inl ⟨"put", ?_⟩
   rw[← h]
   show Bool.rec (motive:=fun _=>Out) _ _ (Nat.blt d n)=_
   rw[hd]
theorem wanted_ok (ht:TmOk r n tm a) {ops:Array Oper} {t:Bool} (h:wanted? ops o.guard tm=some t):Region.wanted o (yielded ops a.tmps)=t:=by
 unfold Region.wanted
 cases hgd:o.guard with
 | none=>rw[hgd] at h;injection (show some true=some t from h) with h
 | some p =>
  obtain⟨j,want⟩:=p
  rw[hgd] at h
  obtain⟨d,h1,h2⟩:=bnd_some (show bnd (bnd ops[j]? (·.dst)) (fun d=>wantedB (slot tm d) want)=some t from h)
  obtain⟨q,h3,h4⟩:=bnd_some h1
  have hs:=ht.slot d
  have hy:yielded ops a.tmps j=match a.tmps[d]? with | some (.bool b)=>some b | _=>none:=by
   unfold yielded
   rw[h3]
   simp only[Option.bind_some,h4]
   rfl
  simp only[hy]
  rw[Array.getD_eq_getD_getElem?] at hs
  cases hsl:slot tm d with
  | bool b =>
   rw[hsl] at h2 hs
   injection (show some (sel b want (not want))=some t from h2) with h2
   have hb:=rel_bool.1 hs
   cases hd:a.tmps[d]? with
   | none=>rw[hd] at hb;exact absurd hb (by simp[undef])
   | some u =>
    rw[hd] at hb
    simp only[Option.getD_some] at hb
    subst hb;subst h2
    cases b <;> cases want <;> rfl
  | tuple l =>
   rw[hsl] at h2 hs
   cases l with
   | cons _ _=>exact absurd h2 (by simp[wantedB])
   | nil =>
    injection (show some false=some t from h2) with h2
    subst h2
    obtain⟨x,hx,_⟩:=rel_tuple.1 hs
    cases hd:a.tmps[d]? with
    | none=>rfl
    | some u =>
     rw[hd] at hx
     simp only[Option.getD_some] at hx
     subst hx;rfl
  | _=>rw[hsl] at h2;exact absurd h2 (by simp[wantedB])
end
def IterOk (P:Program) (f:FuncId) (sz:Nat):Prop :=
 (∀ args w,(callFunc f args).run P w=.ok (.enter f args) w)∧∀ (l:Nat) (A:Addr) (len:Nat) (I:Nat→World→Prop) (W0:World),(∀ k W n,I k W→I k (W.drewN n))→len≤1000000 →
  (∃ a cap,W0.cell? A=some (.slice (some a) len cap)) →
  (∀ k W,I (k+1) W→∃ (b o m cap:Nat) (us:List Value),W.cell? A=some (.slice (some ⟨b,o,none⟩) m cap)∧k<m∧us.length=sz∧(∀ (i:Nat) (u:Value),us[i]?=some u→W.cell? ⟨b,o+k * sz+i,none⟩=some u) ∧
   ∀ n,YieldAt Fence.wide 0 P l #[.int .i64 (k:Int),.agg us.toArray] (W.drewN n) fun e W'=>e=.returned (.bool true)∧I k W') →
  I len W0→CallsIn Fence.wide 0 P f #[.func (.yield l) #[] #[],.pointer (some A)] W0 fun e W'=>(∃ v,e=.returned v)∧I 0 W'
def CallOk (P:Program) (mode:Nat) (f:FuncId) (args:List AV) (hp:Hp) (nx:Nat) (v:AV) (hp':Hp) (nx':Nat):Prop :=
 ∀ r w (us:Array Value),Rels r args us.toList→Glob P r→Gam (getB hp) r w→Fresh nx r →
  (mode=0→Calls P f us w fun e w'=>∃ x r',e=.returned x∧Rel r' v x∧Ext r r' w∧Fr r w w'∧Gam (getB hp') r' w'∧Fresh nx' r') ∧
  (mode=1→CallsD P f us .returning w fun e u w'=>∃ x r',e=.returned x∧u=.returning∧Rel r' v x∧Ext r r' w∧Fr r w w'∧Gam (getB hp') r' w'∧Fresh nx' r') ∧
  (mode=7→∀ k sz,v=.int k (.ofNat sz)→IterOk P f sz)
def Post (P:Program) (r:Rho) (w:World) (n:Nat):Out→Exit→Act→World→Prop
 | .norm tm hp nx=>fun e a' w'=>e=.normal∧St P r w n tm hp nx a' w'
 | .exit id tm hp nx=>fun e a' w'=>e=.exit id∧St P r w n tm hp nx a' w'
 | .ret tm hp nx=>fun e a' w'=>e=.ret∧St P r w n tm hp nx a' w'
 | _=>fun _ _ _=>True
def Out.good:Out→Bool | .norm _ _ _=>true | .exit _ _ _ _=>true | .ret _ _ _=>true | _=>false
def CodeOk (P:Program) (c:Code) (tm:Tr AV) (n:Nat) (hp:Hp) (nx:Nat) (out:Out):Prop :=
 ∀ r w a,TmOk r n tm a→Glob P r→Gam (getB hp) r w→Fresh nx r→out.good=true→c.wp P (Post P r w n out) a w
def LoopFrom (P:Program) (c:Code) (Q:Exit→Act→World→Prop) (a:Act) (w:World):Prop :=
 ∀ (b:Frame) (k:List Item) (cs:List Frame),∃ e a' w',Q e a' w'∧Arrives P (Go.lone (b.at a (.code c :: .inLoop c :: k)) cs w) b k cs e a' w'
def LoopOk (P:Program) (c:Code) (tm:Tr AV) (n:Nat) (hp:Hp) (nx:Nat) (out:Out):Prop :=
 ∀ r w a,TmOk r n tm a→Glob P r→Gam (getB hp) r w→Fresh nx r→out.good=true→LoopFrom P c (Post P r w n out) a w
structure KOk (P:Program) (ih:K):Prop where
 loop:∀ c tm n hp nx,LoopOk P c tm n hp nx (ih (.code (.loop c)) tm n hp nx)
 code:∀ c tm n hp nx,CodeOk P c tm n hp nx (ih (.code c) tm n hp nx)
 call:∀ f args tm mode hp nx v hp' nx',ih (.call f args) tm mode hp nx=.value v hp' nx'→CallOk P mode f args hp nx v hp' nx'
def CodeOkR (P:Program) (l:Nat) (c:Code) (tm:Tr AV) (n:Nat) (hp:Hp) (nx:Nat) (out:Out):Prop :=
 ∀ r w a,TmOk r n tm a→Glob P r→Gam (getB hp) r w→Fresh nx r→out.good=true→c.wpIn (Fence.wide.inRound l) 0 P (Post P r w n out) a w
def LoopFromR (P:Program) (l:Nat) (c:Code) (Q:Exit→Act→World→Prop) (a:Act) (w:World):Prop :=
 ∀ (b:Frame) (k:List Item) (cs:List Frame),b.roundOf=some l→∃ e a' w',Q e a' w'∧ArrivesIn (Machine.fenced P (Fence.wide.inRound l)) P (Go.lone (b.atR a (.code c :: .inLoop c :: k)) cs w) b k cs e a' w'
def LoopOkR (P:Program) (l:Nat) (c:Code) (tm:Tr AV) (n:Nat) (hp:Hp) (nx:Nat) (out:Out):Prop :=
 ∀ r w a,TmOk r n tm a→Glob P r→Gam (getB hp) r w→Fresh nx r→out.good=true→LoopFromR P l c (Post P r w n out) a w
structure KOkR (P:Program) (ih:K):Prop where
 loop:∀ l c tm n hp nx,okC c=true→LoopOkR P l c tm n hp nx (ih (.code (.loop c)) tm n hp nx)
 code:∀ l c tm n hp nx,okC c=true→CodeOkR P l c tm n hp nx (ih (.code c) tm n hp nx)
section
variable {P : Program} {r : Rho} {n : Nat} {tm : Tr AV} {a : Act} {w : World} {o : Oper} {hp : Hp} {nx : Nat} {ih : K}
theorem opS_ok (hk:KOk P ih) (ht:TmOk r n tm a) (hg:Glob P r) (g:Gam (getB hp) r w) (hf:Fresh nx r) {ops:Array Oper} {out:Out} (h:opS o ops ih P tm n hp nx=out) :
  (∃ m,out=.fail m)∨∃ tm' hp' nx',out=.norm tm' hp' nx'∧∀ (K:Act→World→Prop) (Q:Exit→Act→World→Prop),(∀ a' w',St P r w n tm' hp' nx' a' w'→K a' w') →
   if Region.wanted o (yielded ops a.tmps) then o.wp P a w K Q else K (a.put o.dst undef) w:=by
 unfold opS at h
 cases hw:wanted? ops o.guard tm with
 | none=>rw[hw] at h;exact .inl ⟨_,h.symm⟩
 | some t =>
  rw[hw] at h
  have hwd:=wanted_ok ht hw
  cases t with
  | false =>
   have h':putD o.dst (.tuple []) tm n hp nx=out:=h
   rcases putD_ok h' with hm | ⟨tm',h1,h2⟩
   ·exact .inl hm
   ·refine .inr ⟨tm',hp,nx,h1,fun K Q hK=>?_⟩
    rw[hwd]
    exact hK _ _ ⟨r,h2 ht rel_undef,Ext.refl _ _,Fr.refl _ _,g,hf⟩
  | true =>
   have h':finR P ih o tm n hp nx (opX o.op P tm hp nx)=out:=h
   have hres:=opX_ok (o:=o) ht hg g hf
   cases hR:opX o.op P tm hp nx with
   | ok v hp' nx' =>
    rw[hR] at h' hres
    have h'':putD o.dst v tm n hp' nx'=out:=h'
    rcases putD_ok h'' with hm | ⟨tm',h1,h2⟩
    ·exact .inl hm
    ·refine .inr ⟨tm',hp',nx',h1,fun K Q hK=>?_⟩
     rw[hwd,if_pos rfl]
     obtain⟨x,w',r',h3,h4,h5,h6,h7,h8⟩:=hres
     unfold Oper.wp
     rcases h3 with h3 | ⟨h3,rfl⟩
     ·rw[h3];exact hK _ _ ⟨r',h2 (ht.mono h5.le) h4,h5,h6,h7,h8⟩
     ·rw[h3];exact hK _ _ ⟨r',h2 (ht.mono h5.le) h4,h5,h6,h7,h8⟩
   | call f args =>
    rw[hR] at h' hres
    have h'':putO o.dst tm n (ih (.call f args) .leaf 0 hp nx)=out:=h'
    cases hc:ih (.call f args) .leaf 0 hp nx with
    | value v hp' nx' =>
     rw[hc] at h''
     rcases putD_ok (show putD o.dst v tm n hp' nx'=out from h'') with hm | ⟨tm',h1,h2⟩
     ·exact .inl hm
     ·refine .inr ⟨tm',hp',nx',h1,fun K Q hK=>?_⟩
      rw[hwd,if_pos rfl]
      obtain⟨us,h3,h4⟩:=hres
      have hcall:=(hk.call _ _ _ _ _ _ _ _ _ hc r w us h4 hg g hf).1 rfl
      unfold Oper.wp
      rw[h3]
      refine hcall.mono ?_
      rintro e w' ⟨x,r',rfl,h5,h6,h7,h8,h9⟩
      exact hK _ _ ⟨r',h2 (ht.mono h6.le) h5,h6,h7,h8,h9⟩
    | fail m=>rw[hc] at h'';exact .inl ⟨m,h''.symm⟩
    | norm _ _ _=>rw[hc] at h'';exact .inl ⟨_,h''.symm⟩
    | exit _ _ _ _=>rw[hc] at h'';exact .inl ⟨_,h''.symm⟩
    | ret _ _ _=>rw[hc] at h'';exact .inl ⟨_,h''.symm⟩
   | no =>
    rw[hR] at h'
    have h'':noR P o tm hp nx=out:=h'
    unfold noR at h''
    split at h''
    ·rename_i c hop
     cases hd:o.dst with
     | some d=>rw[hd] at h'';exact .inl ⟨_,h''.symm⟩
     | none =>
      rw[hd] at h''
      have h3:deferS P c tm hp nx=out:=h''
      unfold deferS at h3
      split at h3
      ·rename_i f ts
       cases hq:sel (getP .h tm).isSome none (opnd P f tm) with
       | none=>rw[hq] at h3;exact .inl ⟨_,h3.symm⟩
       | some v =>
        rw[hq] at h3
        obtain⟨h4,h5⟩:=sel_none' hq
        have hnone:getP .h tm=none:=by
         cases hgp:getP .h tm with
         | none=>rfl
         | some _=>rw[hgp] at h4;exact absurd h4 (by simp)
        have h3:dfOf v tm hp nx=out:=h3
        cases v with
        | func gf fs cs =>
         cases fs with
         | cons _ _=>exact .inl ⟨_,h3.symm⟩
         | nil =>
           refine .inr ⟨_,hp,nx,h3.symm,fun K Q hK=>?_⟩
           rw[hwd,if_pos rfl]
           obtain⟨x,y,e1,e2,e3⟩:=rel_func.1 (opnd_ok ht hg h5)
           have hx:x=#[]:=by rw[← Array.toList_inj];exact Rels_nil.1 e2
           subst hx
           have hdf:=ht.defs
           rw[hnone] at hdf
           have hdf':a.defers=[]:=hdf
           have hrun:(execOp a.eval o).run P w=.ok (.defer { target:=.fn (.func gf) y,args:=#[] }) w:=by
            simp[execOp,hop,resolve,Deferred.ofValue,e1]
           unfold Oper.wp
           rw[hrun]
           show K (({ a with defers:=_ :: a.defers } : Act).put o.dst undef) w
           rw[hd,hdf']
           refine hK _ _ ⟨r,⟨ht.size,fun t=>?_,?_⟩,Ext.refl _ _,Fr.refl _ _,g,hf⟩
           ·have:slot (setP (some (AV.tuple [.func gf [] cs])) .h tm) t=slot tm t:=by
             unfold slot
             rw[getP_setP_other _ _ _ _ (pos_succ_ne t)]
            rw[this]
            exact ht.slot t
           ·rw[getP_setP_same]
            exact⟨y,rfl,e3⟩
        | _=>exact .inl ⟨_,h3.symm⟩
      ·exact .inl ⟨_,h3.symm⟩
    ·exact .inl ⟨_,h''.symm⟩
theorem opsS_ok (hk:KOk P ih) {ops:Array Oper} : ∀ (l:List Oper) {tm:Tr AV} {hp:Hp} {nx:Nat} {r:Rho} {a:Act} {w:World} {out:Out},TmOk r n tm a→Glob P r→Gam (getB hp) r w→Fresh nx r→opsS ops l ih P tm n hp nx=out→out.good=true →
  ∀ (Q:Exit→Act→World→Prop),(∀ e a' w',Post P r w n out e a' w'→Q e a' w')→wpList P ops Q l a w:=by
 intro l
 induction l with
 | nil =>
  intro tm hp nx r a w out ht hg g hf h _ Q hQ
  have h':Out.norm tm hp nx=out:=h
  subst h'
  exact hQ _ _ _ ⟨rfl,r,ht,Ext.refl _ _,Fr.refl _ _,g,hf⟩
 | cons o l ihl =>
  intro tm hp nx r a w out ht hg g hf h hgood Q hQ
  have h':onNorm (opS o ops ih P tm n hp nx) (fun tm hp nx=>opsS ops l ih P tm n hp nx)=out:=h
  rcases opS_ok hk ht hg g hf (rfl:opS o ops ih P tm n hp nx=_) with ⟨m,hm⟩ | ⟨tm',hp',nx',h1,h2⟩
  ·rw[hm] at h'
   have:Out.fail m=out:=h'
   subst this;exact absurd (show false=true from hgood) (by decide)
  ·rw[h1] at h'
   have h'':opsS ops l ih P tm' n hp' nx'=out:=h'
   refine wpList_step fun K hK=>?_
   refine h2 K Q fun a' w' hst=>?_
   obtain⟨r',q1,q2,q3,q4,q5⟩:=hst
   refine hK _ _ (ihl q1 (hg.mono q2.le) q4 q5 h'' hgood Q fun e a'' w'' hp=>hQ _ _ _ ?_)
   cases out <;> first | exact trivial | exact⟨hp.1,St.trans (tm':=tm) (hp':=hp') (nx':=nx) (a':=a) q2 q3 hp.2⟩
end
end Go.Proofs.YtbdbhdcbdfbnnaaGreatDoor.Ev
