/- The evaluator: reads; maps. The evaluator: new blocks. -/
import Derived.Laws.StructEq
import Derived.Laws.RangeString
import Derived.Laws.Runes
import Derived.Test.YtdmelebgdaiinaaGreatDoorJ7
set_option linter.unusedVariables false
set_option linter.unusedSimpArgs false
set_option linter.unusedVariables false
set_option linter.unusedSimpArgs false
namespace Go.Proofs.YtdmelebgdaiinaaGreatDoor.Ev
section
variable {P : Program} {r : Rho} {n : Nat} {tm : Tr AV} {a : Act} {w : World} {o : Oper} {v : AV} {hp : Hp}
theorem cellsB_ok {h:H} (g:Gam h r w) {b:Nat} {cs:List AV} (hb:bnd (h b) cellsB=some cs):∃ x sz own sh c e f,r b=some x∧h b=some (.cells cs sz own sh)∧w.heap[x.blk]?=some (.cells c e f) ∧
  x.sh+cs.length+x.xt * sz≤c.size∧(∀ (i:Nat) (a:AV),cs[i]?=some a→∃ u,c[x.sh+i]?=some u∧Rel r a u)∧(own=true→x.ro=false∧∀ i,i<c.size→w.frozen? ⟨x.blk,i,none⟩=false):=by
 obtain⟨k,h1,h2⟩:=bnd_some hb
 cases k with
 | cells cs' sz own sh =>
  injection h2 with h2;subst h2
  obtain⟨x,h3,c,e,f,h4,h5,h6,h7⟩:=g.blk b _ h1
  exact⟨x,sz,own,sh,c,e,f,h3,h1,h4,h5,h6,h7⟩
 | map _ _=>exact absurd h2 (by simp[cellsB])
 | iter _ _=>exact absurd h2 (by simp[cellsB])
 | dfr=>exact absurd h2 (by simp[cellsB])
theorem run_isAgg_load {t:TypeId} {A:Addr} {s:Option Nat} (hs:aggSize P t=some s) {l:List Value} (hl:∀ (i:Nat) (u:Value),l[i]?=some u→w.cell? (A.add i)=some u)
  (hlen:match s with | some m=>l.length=m | none=>l.length=1) :
  (loadVar t A).run P w=.ok (match s with | some _=>.agg l.toArray | none=>l.headD undef) w:=by
 rcases aggSize_ok hs with ⟨m,i,rfl,h1,h2,h3⟩ | ⟨rfl,h1⟩
 ·simp only[loadVar,Sem.run_bind,h1,Result.andThen_ok,if_true,run_size h2,h3]
  have hlen':l.length=m:=hlen
  subst hlen'
  rw[run_loadCells_list w A l fun j u h=>hl j u h]
  rfl
 ·have hlen':l.length=1:=hlen
  obtain⟨u,rfl⟩:=List.length_eq_one_iff.1 hlen'
  have:=hl 0 u rfl
  have ha:A.add 0=A:=rfl
  rw[ha] at this
  simp[loadVar,h1,this]
theorem loadB_run {h : H} (g : Gam h r w) {t : TypeId} {s : Option Nat} (hs : aggSize P t = some s) {b off : Nat} {x : BI} (hx : r b = some x)
    (hl : bnd (bnd (h b) cellsB) (fun cs => rowOf cs off s) = some v) : ∃ u, (loadVar t ⟨x.blk, x.sh + off, none⟩).run P w = .ok u w ∧ Rel r v u := by
  obtain ⟨cs, h1, h2⟩ := bnd_some hl
  obtain ⟨y, sz, own, sh, c, e, f, h3, _, h4, h5, h6, _⟩ := cellsB_ok g h1
  rw [hx] at h3; injection h3 with h3; subst h3
  have cell : ∀ (i : Nat) (q : AV), cs[off + i]? = some q → ∃ u, w.cell? ((⟨x.blk, x.sh + off, none⟩ : Addr).add i) = some u ∧ Rel r q u := by
    intro i q hq
    obtain ⟨u, h7, h8⟩ := h6 _ _ hq
    exact ⟨u, by rw [add_place, cell_of_heap h4, ← h7]; congr 1; omega, h8⟩
  cases s with
  | none =>
    have h7 : cs[off]? = some v := by rw [← nth_eq]; exact h2
    obtain ⟨u, h8, h9⟩ := cell 0 v h7
    refine ⟨u, run_isAgg_load hs (l := [u]) (fun i q hq => ?_) rfl, h9⟩
    cases i with
    | zero => injection hq with hq; subst hq; exact h8
    | succ i => exact absurd hq (by simp)
  | some m =>
    obtain ⟨l, h7, h8⟩ := bnd_some (show bnd (takeN m (dropN cs off)) _ = some v from h2)
    injection h8 with h8; subst h8
    obtain ⟨h9, h10⟩ := takeN_some h7
    rw [dropN_eq] at h9 h10
    simp only [List.length_drop] at h9
    -- the real row
    let L := (c.toList.drop (x.sh + off)).take m
    have hL : L.length = m := by
      simp only [L, List.length_take, List.length_drop, Array.length_toList]
      rcases Nat.eq_zero_or_pos m with h0 | h0 <;> omega
    have hget : ∀ i, i < m → L[i]? = c[x.sh + off + i]? := by
      intro i hi
      simp only [L]
      rw [List.getElem?_take_of_lt hi, List.getElem?_drop]
      simp
    refine ⟨.agg L.toArray, run_isAgg_load hs (l := L) (fun i q hq => ?_) hL, rel_agg.2 ⟨_, rfl, ?_⟩⟩
    · have hi : i < m := by rw [← hL]; exact (List.getElem?_eq_some_iff.1 hq).1
      rw [hget i hi] at hq
      rw [add_place, cell_of_heap h4, hq]
    · refine Rels_iff.2 ⟨by simp only [hL]; subst h10; simp; omega, fun i q hq => ?_⟩
      subst h10
      have hi : i < m := by
        have := (List.getElem?_eq_some_iff.1 hq).1
        simp at this; omega
      rw [List.getElem?_take_of_lt hi, List.getElem?_drop] at hq
      obtain ⟨u, h11, h12⟩ := h6 _ _ hq
      refine ⟨u, ?_, h12⟩
      show L[i]? = some u
      rw [hget i hi, ← h11]; congr 1; omega
theorem load_ok (ht:TmOk r n tm a) (hg:Glob P r) (g:Gam (getB hp) r w) {t:TypeId} {x:Operand} (ho:o.op=.load t x)
  (h:bnd (aggSize P t) (fun s=>bnd (bnd (opnd P x tm) asPtr) fun p=>loadB hp s p)=some v):Owes P o a r w v:=by
 obtain⟨s,h1,h2⟩:=bnd_some h
 obtain⟨p,h3,h4⟩:=bnd_some h2
 obtain⟨b,h5,h6⟩:=bnd_some h3
 have:=asPtr_some h6;subst this
 obtain⟨y,e1,e2⟩:=rel_ptr.1 (opnd_ok ht hg h5)
 obtain⟨u,h7,h8⟩:=loadB_run g h1 e1 h4
 exact⟨u,by simp[execOp,ho,e2,Instr.loadAt,Instr.sureAddr,h7],h8⟩
theorem keyKind_ok {t:TypeId} {k:KK} (h:keyKind P t=some k):match k with | .int=>∃ j,P.underlying t=some (.int j) | .str=>P.underlying t=some .string | .bool=>P.underlying t=some .bool:=by
 unfold keyKind at h
 split at h <;> first | (injection h with h;subst h;rename_i hu;first | exact⟨_,hu⟩ | exact hu) | exact absurd h (by simp)
structure MapTy (P:Program) (t:TypeId) (kk:KK) (z:AV) where
 key:TypeId
 elem:TypeId
 d:TypeDesc
 hu:P.underlying t=some (.map key elem)
 hk:P.underlying key=some d
 hd:match kk with | .int=>∃ j,d=.int j | .str=>d=.string | .bool=>d=.bool
 hz:zero? P elem=some z
theorem mapKind_ok {t:TypeId} {z:KK×AV} (h:mapKind P t=some z):Nonempty (MapTy P t z.1 z.2):=by
 unfold mapKind at h
 split at h
 ·rename_i k e hu
  obtain⟨kk,h1,h2⟩:=bnd_some h
  obtain⟨z',h3,h4⟩:=bnd_some h2
  injection h4 with h4;subst h4
  have:=keyKind_ok h1
  cases kk with
  | int=>obtain⟨j,hj⟩:=this;exact⟨⟨k,e,_,hu,hj,⟨j,rfl⟩,h3⟩⟩
  | str=>exact⟨⟨k,e,_,hu,this,rfl,h3⟩⟩
  | bool=>exact⟨⟨k,e,_,hu,this,rfl,h3⟩⟩
 ·exact absurd h (by simp)
theorem beq_bytes (x y:ByteArray):(x==y)=strEq (x.data.toList.map UInt8.toNat) (y.data.toList.map UInt8.toNat):=by
 rw[beq_toListBytes,ba_toList,ba_toList,strEq_eq]
theorem keyEq_ok {kk:KK} {d:TypeDesc} (hd:match kk with | .int=>∃ j,d=.int j | .str=>d=.string | .bool=>d=.bool) {x y:AV} {t:Bool} (h:keyEq kk x y=some t) {u z:Value}
  (hu:Rel r x u) (hz:Rel r y z):Instr.sameNow d u z=some t:=by
 cases kk with
 | int =>
  obtain⟨j,rfl⟩:=hd
  obtain⟨p,h1,h2⟩:=bnd_some (show bnd (asInt x) _=some t from h)
  obtain⟨q,h3,h4⟩:=bnd_some h2
  obtain⟨h5,h6⟩:=sel_none h4
  injection h6 with h6;subst h6
  have:=asInt_some h1;subst this
  have:=asInt_some h3;subst this
  have e1:=rel_int.1 hu;have e2:=rel_int.1 hz
  subst e1;subst e2
  have:=kindEq_eq h5
  simp only[Instr.sameNow,this,if_true,iEq_eq]
 | str =>
  subst hd
  obtain⟨p,h1,h2⟩:=bnd_some (show bnd (asStr x) _=some t from h)
  obtain⟨q,h3,h4⟩:=bnd_some h2
  injection h4 with h4;subst h4
  have:=asStr_some h1;subst this
  have:=asStr_some h3;subst this
  obtain⟨s,rfl,e1⟩:=rel_str.1 hu
  obtain⟨s',rfl,e2⟩:=rel_str.1 hz
  subst e1;subst e2
  show some (s==s')=_
  rw[beq_bytes]
 | bool =>
  subst hd
  obtain⟨p,h1,h2⟩:=bnd_some (show bnd (asBool x) _=some t from h)
  obtain⟨q,h3,h4⟩:=bnd_some h2
  injection h4 with h4;subst h4
  have:=asBool_some h1;subst this
  have:=asBool_some h3;subst this
  have e1:=rel_bool.1 hu;have e2:=rel_bool.1 hz
  subst e1;subst e2
  cases p <;> cases q <;> rfl
theorem run_checkKey {kk:KK} {d:TypeDesc} (hd:match kk with | .int=>∃ j,d=.int j | .str=>d=.string | .bool=>d=.bool) {t:TypeId} (hu:P.underlying t=some d) (e:Bool) (m:Nat) (u:Value) (w:World) :
  (Instr.checkKey e (m+1) t u).run P w=.ok () w:=by
 unfold Instr.checkKey
 simp only[Sem.run_bind,run_underlying hu,Result.andThen_ok]
 cases kk with
 | int=>obtain⟨j,rfl⟩:=hd;rfl
 | str=>subst hd;rfl
 | bool=>subst hd;rfl
theorem Ents_cons {e:AV×AV} {es:List (AV×AV)} {l:List MapEntry} (h:Ents r (e :: es) l):∃ m ms,l=m :: ms∧Rel r e.1 m.key∧Rel r e.2 m.val∧Ents r es ms:=by
 obtain⟨h1,h2⟩:=h
 cases l with
 | nil=>exact absurd h1 (by simp)
 | cons m ms =>
  obtain⟨m',h3,h4,h5⟩:=h2 0 e rfl
  injection h3 with h3;subst h3
  exact⟨m,ms,rfl,h4,h5,by simpa using h1,fun i x hx=>by simpa using h2 (i+1) x (by simpa using hx)⟩
theorem findK_ok {kk:KK} {d:TypeDesc} (hd:match kk with | .int=>∃ j,d=.int j | .str=>d=.string | .bool=>d=.bool) {k:AV} {u:Value} (hk:Rel r k u) :
  ∀ {es:List (AV×AV)} {l:List MapEntry} {f:Option AV} (i:Nat),Ents r es l→findK kk k es=some f →
   match f with | none=>Instr.findNow d u l i=some none | some v=>∃ j x,Instr.findNow d u l i=some (some (j,x))∧Rel r v x:=by
 intro es
 induction es with
 | nil =>
  intro l f i he h
  injection (show some none=some f from h) with h;subst h
  have:l=[]:=List.eq_nil_of_length_eq_zero he.1
  subst this;rfl
 | cons e es ih =>
  intro l f i he h
  obtain⟨m,ms,rfl,h1,h2,h3⟩:=Ents_cons he
  obtain⟨t,h4,h5⟩:=bnd_some (show bnd (keyEq kk k e.1) (fun t=>sel t (some (some e.2)) (findK kk k es))=some f from h)
  have h6:=keyEq_ok hd h4 hk h1
  cases t with
  | true =>
   injection (show some (some e.2)=some f from h5) with h5;subst h5
   exact⟨i,m.val,by unfold Instr.findNow;rw[h6],h2⟩
  | false =>
   have:=ih (i+1) h3 h5
   cases f with
   | none=>show Instr.findNow d u (m :: ms) i=_;unfold Instr.findNow;rw[h6];exact this
   | some v=>obtain⟨j,x,h7,h8⟩:=this;exact⟨j,x,by unfold Instr.findNow;rw[h6];exact h7,h8⟩
theorem mapB_ok {h:H} (g:Gam h r w) {b:Nat} {es:List (AV×AV)} (hb:bnd (h b) mapB=some es):∃ x m k,r b=some x∧w.heap[x.blk]?=some (.map m k)∧Ents r es m.toList:=by
 obtain⟨k,h1,h2⟩:=bnd_some hb
 cases k with
 | cells _ _ _ _=>exact absurd h2 (by simp[mapB])
 | map es' own =>
  injection h2 with h2;subst h2
  obtain⟨x,h3,m,k,h4,h5,_⟩:=g.blk b _ h1
  exact⟨x,m,k,h3,h4,h5⟩
 | iter _ _=>exact absurd h2 (by simp[mapB])
 | dfr=>exact absurd h2 (by simp[mapB])
theorem run_getObj_map {b:Nat} {m:Array MapEntry} {k:Nat} (h:w.heap[b]?=some (.map m k)):(getObj b).run P w=.ok (.map m k) w:=by
 simp[getObj,Sem.run,h]
theorem entries_ok (g:Gam (getB hp) r w) {b:AV} {es:List (AV×AV)} (h:entries hp b=some es) {u:Value} (hu:Rel r b u) :
  (u=.map none∧es=[])∨∃ x m k,u=.map (some x)∧w.heap[x]?=some (.map m k)∧Ents r es m.toList:=by
 cases b with
 | nilMap=>injection (show some []=some es from h) with h;subst h;exact .inl ⟨rel_nilMap.1 hu,rfl⟩
 | map b =>
  obtain⟨x,m,k,h1,h2,h3⟩:=mapB_ok g (show bnd (getB hp b) mapB=some es from h)
  obtain⟨y,h4,h5⟩:=rel_map.1 hu
  rw[h1] at h4;injection h4 with h4;subst h4
  exact .inr ⟨_,m,k,h5,h2,h3⟩
 | _=>exact absurd h (by simp[entries])
theorem lookup_ok (ht : TmOk r n tm a) (hg : Glob P r) (g : Gam (getB hp) r w) {t : TypeId} {x i : Operand} {ok : Bool} (ho : o.op = .lookup t x i ok)
    (h : bnd (mapKind P t) (fun z => bnd (opnd P i tm) fun k => bnd (bnd (opnd P x tm) (entries hp)) fun es => bnd (keyEq z.1 k k) fun _ => bnd (findK z.1 k es) fun f =>
      some (sel ok (AV.tuple [f.getD z.2, .bool f.isSome]) (f.getD z.2))) = some v) : Owes P o a r w v := by
  obtain ⟨z, h1, h2⟩ := bnd_some h
  obtain ⟨k, h3, h4⟩ := bnd_some h2
  obtain ⟨es, h5, h6⟩ := bnd_some h4
  obtain ⟨t', h7, h8⟩ := bnd_some h6
  obtain ⟨f, h9, h10⟩ := bnd_some h8
  injection h10 with h10
  obtain ⟨M⟩ := mapKind_ok h1
  obtain ⟨b, h11, h12⟩ := bnd_some h5
  have hk := opnd_ok ht hg h3
  have hb := opnd_ok ht hg h11
  obtain ⟨zi, zu, z1, z2, z3⟩ := zero_ok M.hz
  -- what is found
  have found : ∀ (l : Array MapEntry), Ents r es l.toList → (f = none ∧ (Instr.findKey M.key (a.eval i) l.toList).run P w = .ok none w) ∨
      ∃ j y q, f = some q ∧ (Instr.findKey M.key (a.eval i) l.toList).run P w = .ok (some (j, y)) w ∧ Rel r q y := by
    intro l hl
    have hf := findK_ok M.hd hk 0 hl h9
    cases f with
    | none =>
      refine .inl ⟨rfl, ?_⟩
      simp only [Instr.findKey, Sem.run_bind, run_underlying M.hk, Result.andThen_ok]
      rw [show Instr.findNow M.d (a.eval i) l.toList 0 = some none from hf]; rfl
    | some q =>
      obtain ⟨j, y, e0, e1⟩ := hf
      refine .inr ⟨j, y, q, rfl, ?_, e1⟩
      simp only [Instr.findKey, Sem.run_bind, run_underlying M.hk, Result.andThen_ok]
      rw [e0]; rfl
  have last : ∀ (u : Value), ((f = none ∧ (Instr.lookup t (a.eval x) (a.eval i) ok).run P w = .ok (if ok then .tuple #[zu, .bool false] else zu) w) ∨
      ∃ y q, f = some q ∧ (Instr.lookup t (a.eval x) (a.eval i) ok).run P w = .ok (if ok then .tuple #[y, .bool true] else y) w ∧ Rel r q y) → Owes P o a r w v := by
    rintro u (⟨rfl, e⟩ | ⟨y, q, rfl, e, e1⟩)
    · refine ⟨_, by simp [execOp, ho, e]; rfl, ?_⟩
      cases ok with
      | true => subst h10; exact rel_tuple.2 ⟨_, rfl, Rels_cons.2 ⟨_, _, rfl, rel_avOf _ _ z3, Rels_cons.2 ⟨_, _, rfl, rel_bool.2 rfl, Rels_nil.2 rfl⟩⟩⟩
      | false => subst h10; exact rel_avOf _ _ z3
    · refine ⟨_, by simp [execOp, ho, e]; rfl, ?_⟩
      cases ok with
      | true => subst h10; exact rel_tuple.2 ⟨_, rfl, Rels_cons.2 ⟨_, _, rfl, e1, Rels_cons.2 ⟨_, _, rfl, rel_bool.2 rfl, Rels_nil.2 rfl⟩⟩⟩
      | false => subst h10; exact e1
  rcases entries_ok g h12 hb with ⟨e1, e2⟩ | ⟨y, m, c, e1, e2, e3⟩
  · subst e2
    refine last undef ?_
    rw [e1]
    rcases found #[] ⟨rfl, fun i e he => absurd he (by simp)⟩ with ⟨f1, f2⟩ | ⟨j, q, p, f1, f2, f3⟩
    · refine .inl ⟨f1, ?_⟩
      simp only [Instr.lookup, Sem.run_bind, run_underlying M.hu, Result.andThen_ok, Sem.run_pure, run_checkKey M.hd M.hk _ 9999, f2, run_zero z1 z2]
    · refine .inr ⟨q, p, f1, ?_, f3⟩
      simp only [Instr.lookup, Sem.run_bind, run_underlying M.hu, Result.andThen_ok, Sem.run_pure, run_checkKey M.hd M.hk _ 9999, f2]
  · refine last undef ?_
    rw [e1]
    rcases found m e3 with ⟨f1, f2⟩ | ⟨j, q, p, f1, f2, f3⟩
    · refine .inl ⟨f1, ?_⟩
      simp only [Instr.lookup, Sem.run_bind, run_underlying M.hu, Result.andThen_ok, Sem.run_pure, run_checkKey M.hd M.hk _ 9999, run_getObj_map e2, f2, run_zero z1 z2]
    · refine .inr ⟨q, p, f1, ?_, f3⟩
      simp only [Instr.lookup, Sem.run_bind, run_underlying M.hu, Result.andThen_ok, Sem.run_pure, run_checkKey M.hd M.hk _ 9999, run_getObj_map e2, f2]
end
end Go.Proofs.YtdmelebgdaiinaaGreatDoor.Ev
set_option linter.unusedVariables false
set_option linter.unusedSimpArgs false
namespace Go.Proofs.YtdmelebgdaiinaaGreatDoor.Ev
def ResOk (P:Program) (o:Oper) (a:Act) (r:Rho) (w:World):R→Prop
 | .no=>True
 | .ok v hp nx=>∃ x w' r',((execOp a.eval o).run P w=.ok (.value x) w'∨((execOp a.eval o).run P w=.ok .skip w'∧x=undef))∧Rel r' v x∧Ext r r' w∧Fr r w w'∧Gam (getB hp) r' w'∧Fresh nx r'
 | .call f args=>∃ vs,(execOp a.eval o).run P w=.ok (.enter f vs) w∧Rels r args vs.toList
section
variable {P : Program} {r : Rho} {n : Nat} {tm : Tr AV} {a : Act} {w : World} {o : Oper} {hp : Hp} {nx : Nat}
theorem pureR_ok {e:Option AV} (g:Gam (getB hp) r w) (hf:Fresh nx r) (h:∀ v,e=some v→Owes P o a r w v):ResOk P o a r w (pureR e hp nx):=by
 cases e with
 | none=>exact trivial
 | some v =>
  obtain⟨x,h1,h2⟩:=h v rfl
  exact⟨x,w,r,.inl h1,h2,Ext.refl _ _,Fr.refl _ _,g,hf⟩
theorem newR_ok {e:Option (AV×Blk)} (g:Gam (getB hp) r w) (hf:Fresh nx r)
  (h:∀ v k,e=some (v,k)→∃ obj xt u,(execOp a.eval o).run P w=.ok (.value u) (w.alloc obj)∧Rel (r.put nx ⟨w.heap.size,0,xt,false⟩) v u ∧
   BOk (r.put nx ⟨w.heap.size,0,xt,false⟩) (w.alloc obj) ⟨w.heap.size,0,xt,false⟩ k):ResOk P o a r w (newR e hp nx):=by
 cases e with
 | none=>exact trivial
 | some p =>
  obtain⟨v,k⟩:=p
  obtain⟨obj,xt,u,h1,h2,h3⟩:=h v k rfl
  have hn:=hf nx (Nat.le_refl _)
  refine⟨u,_,_,.inl h1,h2,Ext.alloc hn xt,Fr.alloc _ _ _,?_,Fresh.put hf _⟩
  show Gam (getB (setB (some k) nx hp)) _ _
  rw[getB_put]
  exact g.alloc hn obj k xt h3
theorem bok_new {s:Rho} {cs:List AV} {c:Array Value} (h:Rels s cs c.toList) (e:TypeId) (sz xt:Nat) (sh:List Nat) (hx:cs.length+xt * sz≤c.size) :
  BOk s (w.alloc (.cells c e)) ⟨w.heap.size,0,xt,false⟩ (.cells cs sz true sh):=by
 refine⟨c,e,(0,0),heap_alloc_new _ _,by simpa using hx,fun i b hb=>?_,fun _=>⟨rfl,fun i _=>by simp⟩⟩
 obtain⟨u,h1,h2⟩:=h.get hb
 exact⟨u,by rw[← h1];simp,h2⟩
theorem alloc_ok (g:Gam (getB hp) r w) (hf:Fresh nx r) {t:TypeId} (ho:o.op=.alloc t) :
  ResOk P o a r w (newR (bnd (zero? P t) fun z=>bnd (sizeOf? P t) fun s=>some (.ptr nx 0,.cells z.cells s true [])) hp nx):=by
 refine newR_ok g hf fun v k h=>?_
 obtain⟨z,h1,h2⟩:=bnd_some h
 obtain⟨s,h3,h4⟩:=bnd_some h2
 injection h4 with h4;injection h4 with h4 h5;subst h4;subst h5
 obtain⟨i,u,z1,z2,z3⟩:=zero_ok h1
 refine⟨.cells u.cells t,0,.pointer (some ⟨w.heap.size,0,none⟩),?_,rel_ptr.2 ⟨_,Rho.put_same _ _ _,rfl⟩,bok_new (cells_ok (rel_avOf _ _ z3)) _ _ _ _ ?_⟩
 ·simp only[execOp,ho,Instr.alloc,Sem.run_bind,run_zero z1 z2,Result.andThen_ok,newVar,newRow,run_newObj,Sem.run_pure];rfl
 ·have:=(cells_ok (rel_avOf (r:=r) _ _ z3)).length
  simp at this;omega
theorem box_ok (ht:TmOk r n tm a) (hg:Glob P r) (g:Gam (getB hp) r w) (hf:Fresh nx r) {t:TypeId} {x:Operand} (ho:o.op=.box t x) :
  ResOk P o a r w (newR (bnd (opnd P x tm) fun v=>bnd (sizeOf? P t) fun s=>some (.ptr nx 0,.cells v.cells s true [])) hp nx):=by
 refine newR_ok g hf fun v k h=>?_
 obtain⟨z,h1,h2⟩:=bnd_some h
 obtain⟨s,h3,h4⟩:=bnd_some h2
 injection h4 with h4;injection h4 with h4 h5;subst h4;subst h5
 have hx:=opnd_ok ht hg h1
 have hle:r.le (r.put nx ⟨w.heap.size,0,0,false⟩):=Rho.put_le _ (hf nx (Nat.le_refl _))
 refine⟨.cells (a.eval x).cells t,0,.pointer (some ⟨w.heap.size,0,none⟩),?_,rel_ptr.2 ⟨_,Rho.put_same _ _ _,rfl⟩,bok_new (cells_ok (hx.mono hle _ _)) _ _ _ _ ?_⟩
 ·simp only[execOp,ho,Instr.box,Sem.run_bind,Result.andThen_ok,newVar,newRow,run_newObj,Sem.run_pure];rfl
 ·have:=(cells_ok hx).length
  simp at this;omega
theorem elemZero_ok {t:TypeId} {e:Nat×List AV} (h:elemZero P t=some e):∃ el i u z,P.underlying t=some (.slice el)∧P.info? el=some i∧i.zero=some u∧avOf u=some z∧e=(i.size,z.cells) ∧
  z.cells.length=i.size∧i.bytes≤4096∧i.size≤64∧0<i.size:=by
 unfold elemZero at h
 split at h
 ·rename_i el hu
  split at h
  ·rename_i i z hi hz
   obtain⟨h1,h2⟩:=sel_none h
   injection h2 with h2
   obtain⟨j,u,z1,z2,z3⟩:=zero_ok hz
   rw[hi] at z1;injection z1 with z1;subst z1
   obtain⟨h3,h4⟩:=and2 h1
   obtain⟨h5,h6⟩:=and2 h4
   obtain⟨h7,h8⟩:=and2 h6
   have:=beq_eq h3
   rw[lenL_eq] at this
   exact⟨el,i,u,z,hu,hi,z2,z3,h2.symm,this,ble_le h5,ble_le h7,blt_lt h8⟩
  ·exact absurd h (by simp)
 ·exact absurd h (by simp)
theorem zeros_ok {s:Rho} {z:List AV} {c:Array Value} (h:Rels s z c.toList) (m:Nat) (hz:0<z.length):Rels s (repN z m) ((Array.range (m * c.size)).map (fun i=>c[i % c.size]!)).toList:=by
 have hl:=h.length
 have hc:c.size=z.length:=by rw[← hl];simp
 refine Rels_iff.2 ⟨by simp[repN_eq,hc],fun i b hb=>?_⟩
 have hi:i<m * z.length:=by
  have:=(List.getElem?_eq_some_iff.1 hb).1
  rwa [repN_eq] at this
 rw[repN_get _ _ _ hi] at hb
 obtain⟨u,h1,h2⟩:=h.get hb
 refine⟨u,?_,h2⟩
 have h3:c[i % c.size]?=some u:=by rw[hc,← h1];simp
 have h4:c[i % c.size]! = u:=by rw[getElem!_def,h3]
 rw[Array.toList_map,List.getElem?_map,Array.toList_range,List.getElem?_range (by rw[hc];exact hi)]
 simp[h4]
theorem buildSlice_run (ht:TmOk r n tm a) (hg:Glob P r) {t:TypeId} {m:Nat} {parts:Array (Nat×Operand)} (ho:o.op=.buildSlice t m parts) {e:Nat×List AV} {ps:List (Nat×AV)} {cs:List AV} (h1:elemZero P t=some e) (h3:partsP P tm parts.toList=some ps)
  (h5:fillC (placeOf (.elems e.1)) ps (repN e.2 m)=some cs) (h7:Nat.ble m 100000=true) (w:World) :
  ∃ (c':Array Value) (el:TypeId),(execOp a.eval o).run P w=.ok (.value (.slice (some ⟨w.heap.size,0,none⟩) m m)) (w.alloc (.cells c' el))∧Rels r cs c'.toList∧cs.length+0 * e.1≤c'.size:=by
 obtain⟨el,i,u,z,e1,e2,e3,e4,rfl,e5,e6,e7,e8⟩:=elemZero_ok h1
 have hz:=cells_ok (rel_avOf (r:=r) _ _ e4)
 have hzs:=zeros_ok hz m (by omega)
 obtain⟨p1,p2⟩:=partsP_ok ht hg h3
 have hus:u.cells.size=i.size:=by have:=hz.length;simp at this;omega
 rw[hus] at hzs
 obtain⟨c',f1,f2⟩:=fill_ok h5 hzs p1 p2
 have hpl:(parts.map fun (i,x)=>(i,a.eval x)).toList=parts.toList.map fun (i,x)=>(i,a.eval x):=by simp
 have hm:¬ (m * i.size > 2 ^ 24):=by
  have:=Nat.mul_le_mul (ble_le h7) e7
  omega
 refine⟨c',el,?_,f2,?_⟩
 ·have hrun:(Instr.buildSlice t m (parts.map fun (i,x)=>(i,a.eval x))).run P w=.ok (.slice (some ⟨w.heap.size,0,none⟩) m m) (w.alloc (.cells c' el)):=by
   by_cases h0:m * i.size=0
   ·have hm0:m=0:=by
     rcases Nat.mul_eq_zero.1 h0 with h | h
     ·exact h
     ·omega
    subst hm0
    simp only[Instr.buildSlice,Sem.run_bind,run_underlying e1,Result.andThen_ok,run_size e2,Nat.zero_mul] at f1 ⊢
    have f1':Instr.fill (fun i_1=>some (i_1 * i.size,i.size)) (Array.map (fun x=>(#[] : Array Value)[x % (#[] : Array Value).size]!) (Array.range 0)) (parts.map fun (i,x)=>(i,a.eval x)).toList=some c':=by
     rw[hpl,← f1,show Array.range 0=#[] from rfl,Array.map_empty,Array.map_empty];rfl
    simp only[Sem.run_ite,Sem.run_pure,if_true,Result.andThen_ok]
    rw[if_neg (by decide)]
    simp only[Sem.run_pure,Result.andThen_ok,f1',newRow,Sem.run_bind,run_newObj]
    rfl
   ·simp only[Instr.buildSlice,Sem.run_bind,run_underlying e1,Result.andThen_ok,run_size e2,Sem.run_ite,if_neg hm,if_neg h0,run_zero e2 e3,Sem.run_pure]
    have f1':Instr.fill (fun i_1=>some (i_1 * i.size,i.size)) (Array.map (fun x=>u.cells[x % u.cells.size]!) (Array.range (m * i.size))) (parts.map fun (i,x)=>(i,a.eval x)).toList=some c':=by
     rw[hpl,hus,← f1];rfl
    simp only[f1',newRow,Sem.run_bind,run_newObj,Result.andThen_ok,Sem.run_pure]
    rfl
  simp only[execOp,ho,Sem.run_bind,hrun,Result.andThen_ok,Sem.run_pure]
 ·have:=f2.length
  simp at this;omega
theorem buildSlice_ok (ht:TmOk r n tm a) (hg:Glob P r) (g:Gam (getB hp) r w) (hf:Fresh nx r) {t:TypeId} {m:Nat} {parts:Array (Nat×Operand)} (ho:o.op=.buildSlice t m parts) :
  ResOk P o a r w (newR (bnd (elemZero P t) fun e=>bnd (partsP P tm parts.toList) fun ps=>bnd (fillC (placeOf (.elems e.1)) ps (repN e.2 m)) fun cs =>
   sel (Nat.ble m 100000) (some (.slice nx 0 m m true,.cells cs e.1 true [])) none) hp nx):=by
 refine newR_ok g hf fun v k h=>?_
 obtain⟨e,h1,h2⟩:=bnd_some h
 obtain⟨ps,h3,h4⟩:=bnd_some h2
 obtain⟨cs,h5,h6⟩:=bnd_some h4
 obtain⟨h7,h8⟩:=sel_none h6
 simp only[Option.some.injEq,Prod.mk.injEq] at h8
 obtain⟨rfl,rfl⟩:=h8
 obtain⟨c',el,q1,q2,q3⟩:=buildSlice_run ht hg ho h1 h3 h5 h7 w
 have hle:r.le (r.put nx ⟨w.heap.size,0,0,false⟩):=Rho.put_le _ (hf nx (Nat.le_refl _))
 exact⟨.cells c' el,0,_,q1,rel_slice.2 ⟨_,_,Rho.put_same _ _ _,rfl,fun _=>rfl⟩,bok_new (q2.mono hle _ _) _ _ _ _ q3⟩
theorem wrap_nat (k:Nat) (h:k≤100000):IntKind.i64.wrap (k:Int)=k:=by
 exact wrap_small _ (by omega) (by omega)
theorem makeSlice_run (ht:TmOk r n tm a) (hg:Glob P r) {t:TypeId} {x y:Operand} (ho:o.op=.makeSlice t x y) {e:Nat×List AV} {l c:Nat} (h1:elemZero P t=some e) (h3':bnd (opnd P x tm) asNat=some l) (h5':bnd (opnd P y tm) asNat=some c)
  (h7:and (Nat.ble l c) (Nat.ble c 100000)=true) (w:World) :
  ∃ (c':Array Value) (el:TypeId),(execOp a.eval o).run P w=.ok (.value (.slice (some ⟨w.heap.size,0,none⟩) l c)) (w.alloc (.cells c' el))∧Rels r (repN e.2 c) c'.toList∧(repN e.2 c).length+0 * e.1≤c'.size:=by
 obtain⟨h9,h10⟩:=and2 h7
 have hlc:=ble_le h9;have hc:=ble_le h10
 obtain⟨el,i,u,z,e1,e2,e3,e4,rfl,e5,e6,e7,e8⟩:=elemZero_ok h1
 have hz:=cells_ok (rel_avOf (r:=r) _ _ e4)
 have hzs:=zeros_ok hz c (by omega)
 have hus:u.cells.size=i.size:=by have:=hz.length;simp at this;omega
 obtain⟨b,q1,q2⟩:=bnd_some h3'
 obtain⟨k1,rfl⟩:=asNat_some q2
 obtain⟨b',q3,q4⟩:=bnd_some h5'
 obtain⟨k2,rfl⟩:=asNat_some q4
 have ex:=rel_int.1 (opnd_ok ht hg q1)
 have ey:=rel_int.1 (opnd_ok ht hg q3)
 have hb:i.bytes * c≤4096 * 100000:=Nat.mul_le_mul e6 hc
 refine⟨((Array.range (c * u.cells.size)).map (fun i=>u.cells[i % u.cells.size]!)),el,?_,hzs,?_⟩
 ·have w1:=wrap_nat l (by omega)
  have w2:=wrap_nat c hc
  have t1:¬ ((c:Int)<0):=by omega
  have t2:¬ ((i.bytes:Int) * (c:Int) > 2 ^ 48):=by
   have:((i.bytes * c:Nat):Int)≤409600000:=by omega
   rw[Int.natCast_mul] at this
   omega
  have t3:¬ ((l:Int)<0):=by omega
  have t4:¬ ((l:Int) > (c:Int)):=by omega
  have t5:(decide ((c:Int)<0) || decide ((i.bytes:Int) * (c:Int) > 2 ^ 48) || decide ((l:Int)<0) || decide ((l:Int) > (c:Int)))=false:=by
   simp only[t1,t2,t3,t4,decide_false,Bool.or_false]
  have hrun:(Instr.makeSlice t (.int k1 (l:Int)) (.int k2 (c:Int))).run P w=.ok (.slice (some ⟨w.heap.size,0,none⟩) l c) (w.alloc (.cells ((Array.range (c * u.cells.size)).map (fun i=>u.cells[i % u.cells.size]!)) el)):=by
   by_cases h0:c * i.size=0
   ·simp only[Instr.makeSlice,Sem.run_bind,run_underlying e1,Result.andThen_ok,Go.asInt,asIntOf,Sem.run_pure,typeInfo,run_program,e2,w1,w2,t5,Bool.false_eq_true,if_false,run_askRoom,Int.toNat_natCast,run_size e2,h0,
     if_true,newRow,run_newObj,hus,show Array.range 0=#[] from rfl,Array.map_empty]
    rfl
   ·simp only[Instr.makeSlice,Sem.run_bind,run_underlying e1,Result.andThen_ok,Go.asInt,asIntOf,Sem.run_pure,typeInfo,run_program,e2,w1,w2,t5,Bool.false_eq_true,if_false,run_askRoom,Int.toNat_natCast,run_size e2,h0,
     run_zero e2 e3,newRow,run_newObj,hus]
    rfl
  simp only[execOp,ho,ex,ey,Sem.run_bind,hrun,Result.andThen_ok,Sem.run_pure]
 ·have:=hzs.length
  simp only[Array.length_toList] at this
  show (repN z.cells c).length+0 * i.size≤_
  omega
theorem makeSlice_ok (ht:TmOk r n tm a) (hg:Glob P r) (g:Gam (getB hp) r w) (hf:Fresh nx r) {t:TypeId} {x y:Operand} (ho:o.op=.makeSlice t x y) :
  ResOk P o a r w (newR (bnd (elemZero P t) fun e=>bnd (bnd (opnd P x tm) asNat) fun l=>bnd (bnd (opnd P y tm) asNat) fun c =>
   sel (and (Nat.ble l c) (Nat.ble c 100000)) (some (.slice nx 0 l c true,.cells (repN e.2 c) e.1 true [])) none) hp nx):=by
 refine newR_ok g hf fun v k h=>?_
 obtain⟨e,h1,h2⟩:=bnd_some h
 obtain⟨l,h3,h4⟩:=bnd_some h2
 obtain⟨c,h5,h6⟩:=bnd_some h4
 obtain⟨h7,h8⟩:=sel_none h6
 simp only[Option.some.injEq,Prod.mk.injEq] at h8
 obtain⟨rfl,rfl⟩:=h8
 obtain⟨c',el,q1,q2,q3⟩:=makeSlice_run ht hg ho h1 h3 h5 h7 w
 have hle:r.le (r.put nx ⟨w.heap.size,0,0,false⟩):=Rho.put_le _ (hf nx (Nat.le_refl _))
 exact⟨.cells c' el,0,_,q1,rel_slice.2 ⟨_,_,Rho.put_same _ _ _,rfl,fun _=>rfl⟩,bok_new (q2.mono hle _ _) _ _ _ _ q3⟩
theorem makeMap_ok (g:Gam (getB hp) r w) (hf:Fresh nx r) {t:TypeId} {x:Option Operand} (ho:o.op=.makeMap t x) :
  ResOk P o a r w (newR (sel x.isNone (some (.map nx,.map [] true)) none) hp nx):=by
 refine newR_ok g hf fun v k h=>?_
 cases x with
 | some _=>exact absurd (show none=some (v,k) from h) (by simp)
 | none =>
  have h:some (AV.map nx,Blk.map [] true)=some (v,k):=h
  simp only[Option.some.injEq,Prod.mk.injEq] at h
  obtain⟨rfl,rfl⟩:=h
  refine⟨.map #[] 0,0,.map (some w.heap.size),?_,rel_map.2 ⟨_,Rho.put_same _ _ _,rfl⟩,⟨#[],0,heap_alloc_new _ _,⟨rfl,fun i e he=>absurd he (by simp)⟩,fun _=>rfl⟩⟩
  simp only[execOp,ho,Instr.makeMap,Option.map_none,Sem.run_bind,Sem.run_pure,Result.andThen_ok,run_newObj];rfl
theorem range_ok (ht:TmOk r n tm a) (hg:Glob P r) (g:Gam (getB hp) r w) (hf:Fresh nx r) {t:TypeId} {x:Operand} (ho:o.op=.range t x) :
  ResOk P o a r w (newR (sel (isString P t) (bnd (bnd (opnd P x tm) asStr) fun s=>some (.ptr nx 0,.iter s 0)) none) hp nx):=by
 refine newR_ok g hf fun v k h=>?_
 obtain⟨h1,h2⟩:=sel_none h
 obtain⟨s,h3,h4⟩:=bnd_some h2
 simp only[Option.some.injEq,Prod.mk.injEq] at h4
 obtain⟨rfl,rfl⟩:=h4
 obtain⟨b,h5,h6⟩:=bnd_some h3
 have:=asStr_some h6;subst this
 obtain⟨y,e1,e2⟩:=rel_str.1 (opnd_ok ht hg h5)
 have hu:P.underlying t=some .string:=by
  unfold isString at h1
  split at h1
  ·rename_i hu;exact hu
  ·exact absurd h1 (by decide)
 refine⟨.stringIter y 0,0,.pointer (some ⟨w.heap.size,0,none⟩),?_,rel_ptr.2 ⟨_,Rho.put_same _ _ _,rfl⟩,⟨y,heap_alloc_new _ _,e2,rfl,rfl⟩⟩
 simp only[execOp,ho,e1,Instr.range,Sem.run_bind,run_underlying hu,Result.andThen_ok,Sem.run_pure,run_newObj];rfl
end
end Go.Proofs.YtdmelebgdaiinaaGreatDoor.Ev
