/- The evaluator: reads; maps. The evaluator: new blocks. The evaluator: writes. The evaluator: the builtins append, copy, delete, len, cap, max and min; the next letter of a string. The evaluator: append and copy. -/
import Derived.Laws.StructEq
import Derived.Laws.RangeString
import Derived.Laws.Runes
import Derived.Laws.Append
import Derived.Test.YtbdbhdcbdfbnnaaGreatDoorJ3
set_option linter.unusedVariables false
set_option linter.unusedSimpArgs false
set_option linter.unusedVariables false
set_option linter.unusedSimpArgs false
namespace Go.Proofs.YtbdbhdcbdfbnnaaGreatDoor.Ev
section
variable {P : Program} {r : Rho} {n : Nat} {tm : Tr AV} {a : Act} {w : World} {o : Oper} {v : AV} {hp : Hp}
theorem cellsB_ok {h:H} (g:Gam h r w) {b:Nat} {cs:List AV} (hb:bnd (h b) cellsB=some cs):∃ x sz own sh c e f,r b=some x∧h b=some (.cells cs sz own sh)∧w.heap[x.blk]?=some (.cells c e f) ∧
  x.sh+cs.length+x.xt * sz≤c.size∧(∀ (i:Nat) (a:AV),cs[i]?=some a→∃ u,c[x.sh+i]?=some u∧Rel r a u)∧(own=true→x.ro=false∧∀ i,i<c.size→w.frozen? ⟨x.blk,i,none⟩=false):=by
 obtain⟨k,h1,h2⟩:=bnd_some hb
 cases k with
 | cells cs' sz own sh =>
  injection h2 with h2;subst h2
  obtain⟨x,h3,c,e,f,h4,h5,h6,h7⟩:=g.blk b _ h1
  exact⟨x,sz,own,sh,c,e,f,h3,h1,h4,h5,h6,h7⟩
 | map _ _=>exact absurd h2 (by simp[cellsB])
 | iter _ _=>exact absurd h2 (by simp[cellsB])
 | dfr=>exact absurd h2 (by simp[cellsB])
theorem run_isAgg_load {t:TypeId} {A:Addr} {s:Option Nat} (hs:aggSize P t=some s) {l:List Value} (hl:∀ (i:Nat) (u:Value),l[i]?=some u→w.cell? (A.add i)=some u)
  (hlen:match s with | some m=>l.length=m | none=>l.length=1) :
  (loadVar t A).run P w=.ok (match s with | some _=>.agg l.toArray | none=>l.headD undef) w:=by
 rcases aggSize_ok hs with ⟨m,i,rfl,h1,h2,h3⟩ | ⟨rfl,h1⟩
 ·simp only[loadVar,Sem.run_bind,h1,Result.andThen_ok,if_true,run_size h2,h3]
  have hlen':l.length=m:=hlen
  subst hlen'
  rw[run_loadCells_list w A l fun j u h=>hl j u h]
  rfl
 ·have hlen':l.length=1:=hlen
  obtain⟨u,rfl⟩:=List.length_eq_one_iff.1 hlen'
  have:=hl 0 u rfl
  have ha:A.add 0=A:=rfl
  rw[ha] at this
  simp[loadVar,h1,this]
theorem loadB_run {h : H} (g : Gam h r w) {t : TypeId} {s : Option Nat} (hs : aggSize P t = some s) {b off : Nat} {x : BI} (hx : r b = some x)
    (hl : bnd (bnd (h b) cellsB) (fun cs => rowOf cs off s) = some v) : ∃ u, (loadVar t ⟨x.blk, x.sh + off, none⟩).run P w = .ok u w ∧ Rel r v u := by
  obtain ⟨cs, h1, h2⟩ := bnd_some hl
  obtain ⟨y, sz, own, sh, c, e, f, h3, _, h4, h5, h6, _⟩ := cellsB_ok g h1
  rw [hx] at h3; injection h3 with h3; subst h3
  have cell : ∀ (i : Nat) (q : AV), cs[off + i]? = some q → ∃ u, w.cell? ((⟨x.blk, x.sh + off, none⟩ : Addr).add i) = some u ∧ Rel r q u := by
    intro i q hq
    obtain ⟨u, h7, h8⟩ := h6 _ _ hq
    exact ⟨u, by rw [add_place, cell_of_heap h4, ← h7]; congr 1; omega, h8⟩
  cases s with
  | none =>
    have h7 : cs[off]? = some v := by rw [← nth_eq]; exact h2
    obtain ⟨u, h8, h9⟩ := cell 0 v h7
    refine ⟨u, run_isAgg_load hs (l := [u]) (fun i q hq => ?_) rfl, h9⟩
    cases i with
    | zero => injection hq with hq; subst hq; exact h8
    | succ i => exact absurd hq (by simp)
  | some m =>
    obtain ⟨l, h7, h8⟩ := bnd_some (show bnd (takeN m (dropN cs off)) _ = some v from h2)
    injection h8 with h8; subst h8
    obtain ⟨h9, h10⟩ := takeN_some h7
    rw [dropN_eq] at h9 h10
    simp only [List.length_drop] at h9
    -- the real row
    let L := (c.toList.drop (x.sh + off)).take m
    have hL : L.length = m := by
      simp only [L, List.length_take, List.length_drop, Array.length_toList]
      rcases Nat.eq_zero_or_pos m with h0 | h0 <;> omega
    have hget : ∀ i, i < m → L[i]? = c[x.sh + off + i]? := by
      intro i hi
      simp only [L]
      rw [List.getElem?_take_of_lt hi, List.getElem?_drop]
      simp
    refine ⟨.agg L.toArray, run_isAgg_load hs (l := L) (fun i q hq => ?_) hL, rel_agg.2 ⟨_, rfl, ?_⟩⟩
    · have hi : i < m := by rw [← hL]; exact (List.getElem?_eq_some_iff.1 hq).1
      rw [hget i hi] at hq
      rw [add_place, cell_of_heap h4, hq]
    · refine Rels_iff.2 ⟨by simp only [hL]; subst h10; simp; omega, fun i q hq => ?_⟩
      subst h10
      have hi : i < m := by
        have := (List.getElem?_eq_some_iff.1 hq).1
        simp at this; omega
      rw [List.getElem?_take_of_lt hi, List.getElem?_drop] at hq
      obtain ⟨u, h11, h12⟩ := h6 _ _ hq
      refine ⟨u, ?_, h12⟩
      show L[i]? = some u
      rw [hget i hi, ← h11]; congr 1; omega
theorem load_ok (ht:TmOk r n tm a) (hg:Glob P r) (g:Gam (getB hp) r w) {t:TypeId} {x:Operand} (ho:o.op=.load t x)
  (h:bnd (aggSize P t) (fun s=>bnd (bnd (opnd P x tm) asPtr) fun p=>loadB hp s p)=some v):Owes P o a r w v:=by
 obtain⟨s,h1,h2⟩:=bnd_some h
 obtain⟨p,h3,h4⟩:=bnd_some h2
 obtain⟨b,h5,h6⟩:=bnd_some h3
 have:=asPtr_some h6;subst this
 obtain⟨y,e1,e2⟩:=rel_ptr.1 (opnd_ok ht hg h5)
 obtain⟨u,h7,h8⟩:=loadB_run g h1 e1 h4
 exact⟨u,by simp[execOp,ho,e2,Instr.loadAt,Instr.sureAddr,h7],h8⟩
theorem keyKind_ok {t:TypeId} {k:KK} (h:keyKind P t=some k):match k with | .int=>∃ j,P.underlying t=some (.int j) | .str=>P.underlying t=some .string | .bool=>P.underlying t=some .bool:=by
 unfold keyKind at h
 split at h <;> first | (injection h with h;subst h;rename_i hu;first | exact⟨_,hu⟩ | exact hu) | exact absurd h (by simp)
structure MapTy (P:Program) (t:TypeId) (kk:KK) (z:AV) where
 key:TypeId
 elem:TypeId
 d:TypeDesc
 hu:P.underlying t=some (.map key elem)
 hk:P.underlying key=some d
 hd:match kk with | .int=>∃ j,d=.int j | .str=>d=.string | .bool=>d=.bool
 hz:zero? P elem=some z
theorem mapKind_ok {t:TypeId} {z:KK×AV} (h:mapKind P t=some z):Nonempty (MapTy P t z.1 z.2):=by
 unfold mapKind at h
 split at h
 ·rename_i k e hu
  obtain⟨kk,h1,h2⟩:=bnd_some h
  obtain⟨z',h3,h4⟩:=bnd_some h2
  injection h4 with h4;subst h4
  have:=keyKind_ok h1
  cases kk with
  | int=>obtain⟨j,hj⟩:=this;exact⟨⟨k,e,_,hu,hj,⟨j,rfl⟩,h3⟩⟩
  | str=>exact⟨⟨k,e,_,hu,this,rfl,h3⟩⟩
  | bool=>exact⟨⟨k,e,_,hu,this,rfl,h3⟩⟩
 ·exact absurd h (by simp)
theorem beq_bytes (x y:ByteArray):(x==y)=strEq (x.data.toList.map UInt8.toNat) (y.data.toList.map UInt8.toNat):=by
 rw[beq_toListBytes,ba_toList,ba_toList,strEq_eq]
theorem keyEq_ok {kk:KK} {d:TypeDesc} (hd:match kk with | .int=>∃ j,d=.int j | .str=>d=.string | .bool=>d=.bool) {x y:AV} {t:Bool} (h:keyEq kk x y=some t) {u z:Value}
  (hu:Rel r x u) (hz:Rel r y z):Instr.sameNow d u z=some t:=by
 cases kk with
 | int =>
  obtain⟨j,rfl⟩:=hd
  obtain⟨p,h1,h2⟩:=bnd_some (show bnd (asInt x) _=some t from h)
  obtain⟨q,h3,h4⟩:=bnd_some h2
  obtain⟨h5,h6⟩:=sel_none h4
  injection h6 with h6;subst h6
  have:=asInt_some h1;subst this
  have:=asInt_some h3;subst this
  have e1:=rel_int.1 hu;have e2:=rel_int.1 hz
  subst e1;subst e2
  have:=kindEq_eq h5
  simp only[Instr.sameNow,this,if_true,iEq_eq]
 | str =>
  subst hd
  obtain⟨p,h1,h2⟩:=bnd_some (show bnd (asStr x) _=some t from h)
  obtain⟨q,h3,h4⟩:=bnd_some h2
  injection h4 with h4;subst h4
  have:=asStr_some h1;subst this
  have:=asStr_some h3;subst this
  obtain⟨s,rfl,e1⟩:=rel_str.1 hu
  obtain⟨s',rfl,e2⟩:=rel_str.1 hz
  subst e1;subst e2
  show some (s==s')=_
  rw[beq_bytes]
 | bool =>
  subst hd
  obtain⟨p,h1,h2⟩:=bnd_some (show bnd (asBool x) _=some t from h)
  obtain⟨q,h3,h4⟩:=bnd_some h2
  injection h4 with h4;subst h4
  have:=asBool_some h1;subst this
  have:=asBool_some h3;subst this
  have e1:=rel_bool.1 hu;have e2:=rel_bool.1 hz
  subst e1;subst e2
  cases p <;> cases q <;> rfl
theorem run_checkKey {kk:KK} {d:TypeDesc} (hd:match kk with | .int=>∃ j,d=.int j | .str=>d=.string | .bool=>d=.bool) {t:TypeId} (hu:P.underlying t=some d) (e:Bool) (m:Nat) (u:Value) (w:World) :
  (Instr.checkKey e (m+1) t u).run P w=.ok () w:=by
 unfold Instr.checkKey
 simp only[Sem.run_bind,run_underlying hu,Result.andThen_ok]
 cases kk with
 | int=>obtain⟨j,rfl⟩:=hd;rfl
 | str=>subst hd;rfl
 | bool=>subst hd;rfl
theorem Ents_cons {e:AV×AV} {es:List (AV×AV)} {l:List MapEntry} (h:Ents r (e :: es) l):∃ m ms,l=m :: ms∧Rel r e.1 m.key∧Rel r e.2 m.val∧Ents r es ms:=by
 obtain⟨h1,h2⟩:=h
 cases l with
 | nil=>exact absurd h1 (by simp)
 | cons m ms =>
  obtain⟨m',h3,h4,h5⟩:=h2 0 e rfl
  injection h3 with h3;subst h3
  exact⟨m,ms,rfl,h4,h5,by simpa using h1,fun i x hx=>by simpa using h2 (i+1) x (by simpa using hx)⟩
theorem findK_ok {kk:KK} {d:TypeDesc} (hd:match kk with | .int=>∃ j,d=.int j | .str=>d=.string | .bool=>d=.bool) {k:AV} {u:Value} (hk:Rel r k u) :
  ∀ {es:List (AV×AV)} {l:List MapEntry} {f:Option AV} (i:Nat),Ents r es l→findK kk k es=some f →
   match f with | none=>Instr.findNow d u l i=some none | some v=>∃ j x,Instr.findNow d u l i=some (some (j,x))∧Rel r v x:=by
 intro es
 induction es with
 | nil =>
  intro l f i he h
  injection (show some none=some f from h) with h;subst h
  have:l=[]:=List.eq_nil_of_length_eq_zero he.1
  subst this;rfl
 | cons e es ih =>
  intro l f i he h
  obtain⟨m,ms,rfl,h1,h2,h3⟩:=Ents_cons he
  obtain⟨t,h4,h5⟩:=bnd_some (show bnd (keyEq kk k e.1) (fun t=>sel t (some (some e.2)) (findK kk k es))=some f from h)
  have h6:=keyEq_ok hd h4 hk h1
  cases t with
  | true =>
   injection (show some (some e.2)=some f from h5) with h5;subst h5
   exact⟨i,m.val,by unfold Instr.findNow;rw[h6],h2⟩
  | false =>
   have:=ih (i+1) h3 h5
   cases f with
   | none=>show Instr.findNow d u (m :: ms) i=_;unfold Instr.findNow;rw[h6];exact this
   | some v=>obtain⟨j,x,h7,h8⟩:=this;exact⟨j,x,by unfold Instr.findNow;rw[h6];exact h7,h8⟩
theorem mapB_ok {h:H} (g:Gam h r w) {b:Nat} {es:List (AV×AV)} (hb:bnd (h b) mapB=some es):∃ x m k,r b=some x∧w.heap[x.blk]?=some (.map m k)∧Ents r es m.toList:=by
 obtain⟨k,h1,h2⟩:=bnd_some hb
 cases k with
 | cells _ _ _ _=>exact absurd h2 (by simp[mapB])
 | map es' own =>
  injection h2 with h2;subst h2
  obtain⟨x,h3,m,k,h4,h5,_⟩:=g.blk b _ h1
  exact⟨x,m,k,h3,h4,h5⟩
 | iter _ _=>exact absurd h2 (by simp[mapB])
 | dfr=>exact absurd h2 (by simp[mapB])
theorem run_getObj_map {b:Nat} {m:Array MapEntry} {k:Nat} (h:w.heap[b]?=some (.map m k)):(getObj b).run P w=.ok (.map m k) w:=by
 simp[getObj,Sem.run,h]
theorem entries_ok (g:Gam (getB hp) r w) {b:AV} {es:List (AV×AV)} (h:entries hp b=some es) {u:Value} (hu:Rel r b u) :
  (u=.map none∧es=[])∨∃ x m k,u=.map (some x)∧w.heap[x]?=some (.map m k)∧Ents r es m.toList:=by
 cases b with
 | nilMap=>injection (show some []=some es from h) with h;subst h;exact .inl ⟨rel_nilMap.1 hu,rfl⟩
 | map b =>
  obtain⟨x,m,k,h1,h2,h3⟩:=mapB_ok g (show bnd (getB hp b) mapB=some es from h)
  obtain⟨y,h4,h5⟩:=rel_map.1 hu
  rw[h1] at h4;injection h4 with h4;subst h4
  exact .inr ⟨_,m,k,h5,h2,h3⟩
 | _=>exact absurd h (by simp[entries])
theorem lookup_ok (ht : TmOk r n tm a) (hg : Glob P r) (g : Gam (getB hp) r w) {t : TypeId} {x i : Operand} {ok : Bool} (ho : o.op = .lookup t x i ok)
    (h : bnd (mapKind P t) (fun z => bnd (opnd P i tm) fun k => bnd (bnd (opnd P x tm) (entries hp)) fun es => bnd (keyEq z.1 k k) fun _ => bnd (findK z.1 k es) fun f =>
      some (sel ok (AV.tuple [f.getD z.2, .bool f.isSome]) (f.getD z.2))) = some v) : Owes P o a r w v := by
  obtain ⟨z, h1, h2⟩ := bnd_some h
  obtain ⟨k, h3, h4⟩ := bnd_some h2
  obtain ⟨es, h5, h6⟩ := bnd_some h4
  obtain ⟨t', h7, h8⟩ := bnd_some h6
  obtain ⟨f, h9, h10⟩ := bnd_some h8
  injection h10 with h10
  obtain ⟨M⟩ := mapKind_ok h1
  obtain ⟨b, h11, h12⟩ := bnd_some h5
  have hk := opnd_ok ht hg h3
  have hb := opnd_ok ht hg h11
  obtain ⟨zi, zu, z1, z2, z3⟩ := zero_ok M.hz
  -- what is found
  have found : ∀ (l : Array MapEntry), Ents r es l.toList → (f = none ∧ (Instr.findKey M.key (a.eval i) l.toList).run P w = .ok none w) ∨
      ∃ j y q, f = some q ∧ (Instr.findKey M.key (a.eval i) l.toList).run P w = .ok (some (j, y)) w ∧ Rel r q y := by
    intro l hl
    have hf := findK_ok M.hd hk 0 hl h9
    cases f with
    | none =>
      refine .inl ⟨rfl, ?_⟩
      simp only [Instr.findKey, Sem.run_bind, run_underlying M.hk, Result.andThen_ok]
      rw [show Instr.findNow M.d (a.eval i) l.toList 0 = some none from hf]; rfl
    | some q =>
      obtain ⟨j, y, e0, e1⟩ := hf
      refine .inr ⟨j, y, q, rfl, ?_, e1⟩
      simp only [Instr.findKey, Sem.run_bind, run_underlying M.hk, Result.andThen_ok]
      rw [e0]; rfl
  have last : ∀ (u : Value), ((f = none ∧ (Instr.lookup t (a.eval x) (a.eval i) ok).run P w = .ok (if ok then .tuple #[zu, .bool false] else zu) w) ∨
      ∃ y q, f = some q ∧ (Instr.lookup t (a.eval x) (a.eval i) ok).run P w = .ok (if ok then .tuple #[y, .bool true] else y) w ∧ Rel r q y) → Owes P o a r w v := by
    rintro u (⟨rfl, e⟩ | ⟨y, q, rfl, e, e1⟩)
    · refine ⟨_, by simp [execOp, ho, e]; rfl, ?_⟩
      cases ok with
      | true => subst h10; exact rel_tuple.2 ⟨_, rfl, Rels_cons.2 ⟨_, _, rfl, rel_avOf _ _ z3, Rels_cons.2 ⟨_, _, rfl, rel_bool.2 rfl, Rels_nil.2 rfl⟩⟩⟩
      | false => subst h10; exact rel_avOf _ _ z3
    · refine ⟨_, by simp [execOp, ho, e]; rfl, ?_⟩
      cases ok with
      | true => subst h10; exact rel_tuple.2 ⟨_, rfl, Rels_cons.2 ⟨_, _, rfl, e1, Rels_cons.2 ⟨_, _, rfl, rel_bool.2 rfl, Rels_nil.2 rfl⟩⟩⟩
      | false => subst h10; exact e1
  rcases entries_ok g h12 hb with ⟨e1, e2⟩ | ⟨y, m, c, e1, e2, e3⟩
  · subst e2
    refine last undef ?_
    rw [e1]
    rcases found #[] ⟨rfl, fun i e he => absurd he (by simp)⟩ with ⟨f1, f2⟩ | ⟨j, q, p, f1, f2, f3⟩
    · refine .inl ⟨f1, ?_⟩
      simp only [Instr.lookup, Sem.run_bind, run_underlying M.hu, Result.andThen_ok, Sem.run_pure, run_checkKey M.hd M.hk _ 9999, f2, run_zero z1 z2]
    · refine .inr ⟨q, p, f1, ?_, f3⟩
      simp only [Instr.lookup, Sem.run_bind, run_underlying M.hu, Result.andThen_ok, Sem.run_pure, run_checkKey M.hd M.hk _ 9999, f2]
  · refine last undef ?_
    rw [e1]
    rcases found m e3 with ⟨f1, f2⟩ | ⟨j, q, p, f1, f2, f3⟩
    · refine .inl ⟨f1, ?_⟩
      simp only [Instr.lookup, Sem.run_bind, run_underlying M.hu, Result.andThen_ok, Sem.run_pure, run_checkKey M.hd M.hk _ 9999, run_getObj_map e2, f2, run_zero z1 z2]
    · refine .inr ⟨q, p, f1, ?_, f3⟩
      simp only [Instr.lookup, Sem.run_bind, run_underlying M.hu, Result.andThen_ok, Sem.run_pure, run_checkKey M.hd M.hk _ 9999, run_getObj_map e2, f2]
end
end Go.Proofs.YtbdbhdcbdfbnnaaGreatDoor.Ev
set_option linter.unusedVariables false
set_option linter.unusedSimpArgs false
namespace Go.Proofs.YtbdbhdcbdfbnnaaGreatDoor.Ev
def ResOk (P:Program) (o:Oper) (a:Act) (r:Rho) (w:World):R→Prop
 | .no=>True
 | .ok v hp nx=>∃ x w' r',((execOp a.eval o).run P w=.ok (.value x) w'∨((execOp a.eval o).run P w=.ok .skip w'∧x=undef))∧Rel r' v x∧Ext r r' w∧Fr r w w'∧Gam (getB hp) r' w'∧Fresh nx r'
 | .call f args=>∃ vs,(execOp a.eval o).run P w=.ok (.enter f vs) w∧Rels r args vs.toList
section
variable {P : Program} {r : Rho} {n : Nat} {tm : Tr AV} {a : Act} {w : World} {o : Oper} {hp : Hp} {nx : Nat}
theorem pureR_ok {e:Option AV} (g:Gam (getB hp) r w) (hf:Fresh nx r) (h:∀ v,e=some v→Owes P o a r w v):ResOk P o a r w (pureR e hp nx):=by
 cases e with
 | none=>exact trivial
 | some v =>
  obtain⟨x,h1,h2⟩:=h v rfl
  exact⟨x,w,r,.inl h1,h2,Ext.refl _ _,Fr.refl _ _,g,hf⟩
theorem newR_ok {e:Option (AV×Blk)} (g:Gam (getB hp) r w) (hf:Fresh nx r)
  (h:∀ v k,e=some (v,k)→∃ obj xt u,(execOp a.eval o).run P w=.ok (.value u) (w.alloc obj)∧Rel (r.put nx ⟨w.heap.size,0,xt,false⟩) v u ∧
   BOk (r.put nx ⟨w.heap.size,0,xt,false⟩) (w.alloc obj) ⟨w.heap.size,0,xt,false⟩ k):ResOk P o a r w (newR e hp nx):=by
 cases e with
 | none=>exact trivial
 | some p =>
  obtain⟨v,k⟩:=p
  obtain⟨obj,xt,u,h1,h2,h3⟩:=h v k rfl
  have hn:=hf nx (Nat.le_refl _)
  refine⟨u,_,_,.inl h1,h2,Ext.alloc hn xt,Fr.alloc _ _ _,?_,Fresh.put hf _⟩
  show Gam (getB (setB (some k) nx hp)) _ _
  rw[getB_put]
  exact g.alloc hn obj k xt h3
theorem bok_new {s:Rho} {cs:List AV} {c:Array Value} (h:Rels s cs c.toList) (e:TypeId) (sz xt:Nat) (sh:List Nat) (hx:cs.length+xt * sz≤c.size) :
  BOk s (w.alloc (.cells c e)) ⟨w.heap.size,0,xt,false⟩ (.cells cs sz true sh):=by
 refine⟨c,e,(0,0),heap_alloc_new _ _,by simpa using hx,fun i b hb=>?_,fun _=>⟨rfl,fun i _=>by simp⟩⟩
 obtain⟨u,h1,h2⟩:=h.get hb
 exact⟨u,by rw[← h1];simp,h2⟩
theorem alloc_ok (g:Gam (getB hp) r w) (hf:Fresh nx r) {t:TypeId} (ho:o.op=.alloc t) :
  ResOk P o a r w (newR (bnd (zero? P t) fun z=>bnd (sizeOf? P t) fun s=>some (.ptr nx 0,.cells z.cells s true [])) hp nx):=by
 refine newR_ok g hf fun v k h=>?_
 obtain⟨z,h1,h2⟩:=bnd_some h
 obtain⟨s,h3,h4⟩:=bnd_some h2
 injection h4 with h4;injection h4 with h4 h5;subst h4;subst h5
 obtain⟨i,u,z1,z2,z3⟩:=zero_ok h1
 refine⟨.cells u.cells t,0,.pointer (some ⟨w.heap.size,0,none⟩),?_,rel_ptr.2 ⟨_,Rho.put_same _ _ _,rfl⟩,bok_new (cells_ok (rel_avOf _ _ z3)) _ _ _ _ ?_⟩
 ·simp only[execOp,ho,Instr.alloc,Sem.run_bind,run_zero z1 z2,Result.andThen_ok,newVar,newRow,run_newObj,Sem.run_pure];rfl
 ·have:=(cells_ok (rel_avOf (r:=r) _ _ z3)).length
  simp at this;omega
theorem box_ok (ht:TmOk r n tm a) (hg:Glob P r) (g:Gam (getB hp) r w) (hf:Fresh nx r) {t:TypeId} {x:Operand} (ho:o.op=.box t x) :
  ResOk P o a r w (newR (bnd (opnd P x tm) fun v=>bnd (sizeOf? P t) fun s=>some (.ptr nx 0,.cells v.cells s true [])) hp nx):=by
 refine newR_ok g hf fun v k h=>?_
 obtain⟨z,h1,h2⟩:=bnd_some h
 obtain⟨s,h3,h4⟩:=bnd_some h2
 injection h4 with h4;injection h4 with h4 h5;subst h4;subst h5
 have hx:=opnd_ok ht hg h1
 have hle:r.le (r.put nx ⟨w.heap.size,0,0,false⟩):=Rho.put_le _ (hf nx (Nat.le_refl _))
 refine⟨.cells (a.eval x).cells t,0,.pointer (some ⟨w.heap.size,0,none⟩),?_,rel_ptr.2 ⟨_,Rho.put_same _ _ _,rfl⟩,bok_new (cells_ok (hx.mono hle _ _)) _ _ _ _ ?_⟩
 ·simp only[execOp,ho,Instr.box,Sem.run_bind,Result.andThen_ok,newVar,newRow,run_newObj,Sem.run_pure];rfl
 ·have:=(cells_ok hx).length
  simp at this;omega
theorem elemZero_ok {t:TypeId} {e:Nat×List AV} (h:elemZero P t=some e):∃ el i u z,P.underlying t=some (.slice el)∧P.info? el=some i∧i.zero=some u∧avOf u=some z∧e=(i.size,z.cells) ∧
  z.cells.length=i.size∧i.bytes≤4096∧i.size≤64∧0<i.size:=by
 unfold elemZero at h
 split at h
 ·rename_i el hu
  split at h
  ·rename_i i z hi hz
   obtain⟨h1,h2⟩:=sel_none h
   injection h2 with h2
   obtain⟨j,u,z1,z2,z3⟩:=zero_ok hz
   rw[hi] at z1;injection z1 with z1;subst z1
   obtain⟨h3,h4⟩:=and2 h1
   obtain⟨h5,h6⟩:=and2 h4
   obtain⟨h7,h8⟩:=and2 h6
   have:=beq_eq h3
   rw[lenL_eq] at this
   exact⟨el,i,u,z,hu,hi,z2,z3,h2.symm,this,ble_le h5,ble_le h7,blt_lt h8⟩
  ·exact absurd h (by simp)
 ·exact absurd h (by simp)
theorem zeros_ok {s:Rho} {z:List AV} {c:Array Value} (h:Rels s z c.toList) (m:Nat) (hz:0<z.length):Rels s (repN z m) ((Array.range (m * c.size)).map (fun i=>c[i % c.size]!)).toList:=by
 have hl:=h.length
 have hc:c.size=z.length:=by rw[← hl];simp
 refine Rels_iff.2 ⟨by simp[repN_eq,hc],fun i b hb=>?_⟩
 have hi:i<m * z.length:=by
  have:=(List.getElem?_eq_some_iff.1 hb).1
  rwa [repN_eq] at this
 rw[repN_get _ _ _ hi] at hb
 obtain⟨u,h1,h2⟩:=h.get hb
 refine⟨u,?_,h2⟩
 have h3:c[i % c.size]?=some u:=by rw[hc,← h1];simp
 have h4:c[i % c.size]! = u:=by rw[getElem!_def,h3]
 rw[Array.toList_map,List.getElem?_map,Array.toList_range,List.getElem?_range (by rw[hc];exact hi)]
 simp[h4]
theorem buildSlice_run (ht:TmOk r n tm a) (hg:Glob P r) {t:TypeId} {m:Nat} {parts:Array (Nat×Operand)} (ho:o.op=.buildSlice t m parts) {e:Nat×List AV} {ps:List (Nat×AV)} {cs:List AV} (h1:elemZero P t=some e) (h3:partsP P tm parts.toList=some ps)
  (h5:fillC (placeOf (.elems e.1)) ps (repN e.2 m)=some cs) (h7:Nat.ble m 100000=true) (w:World) :
  ∃ (c':Array Value) (el:TypeId),(execOp a.eval o).run P w=.ok (.value (.slice (some ⟨w.heap.size,0,none⟩) m m)) (w.alloc (.cells c' el))∧Rels r cs c'.toList∧cs.length+0 * e.1≤c'.size:=by
 obtain⟨el,i,u,z,e1,e2,e3,e4,rfl,e5,e6,e7,e8⟩:=elemZero_ok h1
 have hz:=cells_ok (rel_avOf (r:=r) _ _ e4)
 have hzs:=zeros_ok hz m (by omega)
 obtain⟨p1,p2⟩:=partsP_ok ht hg h3
 have hus:u.cells.size=i.size:=by have:=hz.length;simp at this;omega
 rw[hus] at hzs
 obtain⟨c',f1,f2⟩:=fill_ok h5 hzs p1 p2
 have hpl:(parts.map fun (i,x)=>(i,a.eval x)).toList=parts.toList.map fun (i,x)=>(i,a.eval x):=by simp
 have hm:¬ (m * i.size > 2 ^ 24):=by
  have:=Nat.mul_le_mul (ble_le h7) e7
  omega
 refine⟨c',el,?_,f2,?_⟩
 ·have hrun:(Instr.buildSlice t m (parts.map fun (i,x)=>(i,a.eval x))).run P w=.ok (.slice (some ⟨w.heap.size,0,none⟩) m m) (w.alloc (.cells c' el)):=by
   by_cases h0:m * i.size=0
   ·have hm0:m=0:=by
     rcases Nat.mul_eq_zero.1 h0 with h | h
     ·exact h
     ·omega
    subst hm0
    simp only[Instr.buildSlice,Sem.run_bind,run_underlying e1,Result.andThen_ok,run_size e2,Nat.zero_mul] at f1 ⊢
    have f1':Instr.fill (fun i_1=>some (i_1 * i.size,i.size)) (Array.map (fun x=>(#[] : Array Value)[x % (#[] : Array Value).size]!) (Array.range 0)) (parts.map fun (i,x)=>(i,a.eval x)).toList=some c':=by
     rw[hpl,← f1,show Array.range 0=#[] from rfl,Array.map_empty,Array.map_empty];rfl
    simp only[Sem.run_ite,Sem.run_pure,if_true,Result.andThen_ok]
    rw[if_neg (by decide)]
    simp only[Sem.run_pure,Result.andThen_ok,f1',newRow,Sem.run_bind,run_newObj]
    rfl
   ·simp only[Instr.buildSlice,Sem.run_bind,run_underlying e1,Result.andThen_ok,run_size e2,Sem.run_ite,if_neg hm,if_neg h0,run_zero e2 e3,Sem.run_pure]
    have f1':Instr.fill (fun i_1=>some (i_1 * i.size,i.size)) (Array.map (fun x=>u.cells[x % u.cells.size]!) (Array.range (m * i.size))) (parts.map fun (i,x)=>(i,a.eval x)).toList=some c':=by
     rw[hpl,hus,← f1];rfl
    simp only[f1',newRow,Sem.run_bind,run_newObj,Result.andThen_ok,Sem.run_pure]
    rfl
  simp only[execOp,ho,Sem.run_bind,hrun,Result.andThen_ok,Sem.run_pure]
 ·have:=f2.length
  simp at this;omega
theorem buildSlice_ok (ht:TmOk r n tm a) (hg:Glob P r) (g:Gam (getB hp) r w) (hf:Fresh nx r) {t:TypeId} {m:Nat} {parts:Array (Nat×Operand)} (ho:o.op=.buildSlice t m parts) :
  ResOk P o a r w (newR (bnd (elemZero P t) fun e=>bnd (partsP P tm parts.toList) fun ps=>bnd (fillC (placeOf (.elems e.1)) ps (repN e.2 m)) fun cs =>
   sel (Nat.ble m 100000) (some (.slice nx 0 m m true,.cells cs e.1 true [])) none) hp nx):=by
 refine newR_ok g hf fun v k h=>?_
 obtain⟨e,h1,h2⟩:=bnd_some h
 obtain⟨ps,h3,h4⟩:=bnd_some h2
 obtain⟨cs,h5,h6⟩:=bnd_some h4
 obtain⟨h7,h8⟩:=sel_none h6
 simp only[Option.some.injEq,Prod.mk.injEq] at h8
 obtain⟨rfl,rfl⟩:=h8
 obtain⟨c',el,q1,q2,q3⟩:=buildSlice_run ht hg ho h1 h3 h5 h7 w
 have hle:r.le (r.put nx ⟨w.heap.size,0,0,false⟩):=Rho.put_le _ (hf nx (Nat.le_refl _))
 exact⟨.cells c' el,0,_,q1,rel_slice.2 ⟨_,_,Rho.put_same _ _ _,rfl,fun _=>rfl⟩,bok_new (q2.mono hle _ _) _ _ _ _ q3⟩
theorem wrap_nat (k:Nat) (h:k≤100000):IntKind.i64.wrap (k:Int)=k:=by
 exact wrap_small _ (by omega) (by omega)
theorem makeSlice_run (ht:TmOk r n tm a) (hg:Glob P r) {t:TypeId} {x y:Operand} (ho:o.op=.makeSlice t x y) {e:Nat×List AV} {l c:Nat} (h1:elemZero P t=some e) (h3':bnd (opnd P x tm) asNat=some l) (h5':bnd (opnd P y tm) asNat=some c)
  (h7:and (Nat.ble l c) (Nat.ble c 100000)=true) (w:World) :
  ∃ (c':Array Value) (el:TypeId),(execOp a.eval o).run P w=.ok (.value (.slice (some ⟨w.heap.size,0,none⟩) l c)) (w.alloc (.cells c' el))∧Rels r (repN e.2 c) c'.toList∧(repN e.2 c).length+0 * e.1≤c'.size:=by
 obtain⟨h9,h10⟩:=and2 h7
 have hlc:=ble_le h9;have hc:=ble_le h10
 obtain⟨el,i,u,z,e1,e2,e3,e4,rfl,e5,e6,e7,e8⟩:=elemZero_ok h1
 have hz:=cells_ok (rel_avOf (r:=r) _ _ e4)
 have hzs:=zeros_ok hz c (by omega)
 have hus:u.cells.size=i.size:=by have:=hz.length;simp at this;omega
 obtain⟨b,q1,q2⟩:=bnd_some h3'
 obtain⟨k1,rfl⟩:=asNat_some q2
 obtain⟨b',q3,q4⟩:=bnd_some h5'
 obtain⟨k2,rfl⟩:=asNat_some q4
 have ex:=rel_int.1 (opnd_ok ht hg q1)
 have ey:=rel_int.1 (opnd_ok ht hg q3)
 have hb:i.bytes * c≤4096 * 100000:=Nat.mul_le_mul e6 hc
 refine⟨((Array.range (c * u.cells.size)).map (fun i=>u.cells[i % u.cells.size]!)),el,?_,hzs,?_⟩
 ·have w1:=wrap_nat l (by omega)
  have w2:=wrap_nat c hc
  have t1:¬ ((c:Int)<0):=by omega
  have t2:¬ ((i.bytes:Int) * (c:Int) > 2 ^ 48):=by
   have:((i.bytes * c:Nat):Int)≤409600000:=by omega
   rw[Int.natCast_mul] at this
   omega
  have t3:¬ ((l:Int)<0):=by omega
  have t4:¬ ((l:Int) > (c:Int)):=by omega
  have t5:(decide ((c:Int)<0) || decide ((i.bytes:Int) * (c:Int) > 2 ^ 48) || decide ((l:Int)<0) || decide ((l:Int) > (c:Int)))=false:=by
   simp only[t1,t2,t3,t4,decide_false,Bool.or_false]
  have hrun:(Instr.makeSlice t (.int k1 (l:Int)) (.int k2 (c:Int))).run P w=.ok (.slice (some ⟨w.heap.size,0,none⟩) l c) (w.alloc (.cells ((Array.range (c * u.cells.size)).map (fun i=>u.cells[i % u.cells.size]!)) el)):=by
   by_cases h0:c * i.size=0
   ·simp only[Instr.makeSlice,Sem.run_bind,run_underlying e1,Result.andThen_ok,Go.asInt,asIntOf,Sem.run_pure,typeInfo,run_program,e2,w1,w2,t5,Bool.false_eq_true,if_false,run_askRoom,Int.toNat_natCast,run_size e2,h0,
     if_true,newRow,run_newObj,hus,show Array.range 0=#[] from rfl,Array.map_empty]
    rfl
   ·simp only[Instr.makeSlice,Sem.run_bind,run_underlying e1,Result.andThen_ok,Go.asInt,asIntOf,Sem.run_pure,typeInfo,run_program,e2,w1,w2,t5,Bool.false_eq_true,if_false,run_askRoom,Int.toNat_natCast,run_size e2,h0,
     run_zero e2 e3,newRow,run_newObj,hus]
    rfl
  simp only[execOp,ho,ex,ey,Sem.run_bind,hrun,Result.andThen_ok,Sem.run_pure]
 ·have:=hzs.length
  simp only[Array.length_toList] at this
  show (repN z.cells c).length+0 * i.size≤_
  omega
theorem makeSlice_ok (ht:TmOk r n tm a) (hg:Glob P r) (g:Gam (getB hp) r w) (hf:Fresh nx r) {t:TypeId} {x y:Operand} (ho:o.op=.makeSlice t x y) :
  ResOk P o a r w (newR (bnd (elemZero P t) fun e=>bnd (bnd (opnd P x tm) asNat) fun l=>bnd (bnd (opnd P y tm) asNat) fun c =>
   sel (and (Nat.ble l c) (Nat.ble c 100000)) (some (.slice nx 0 l c true,.cells (repN e.2 c) e.1 true [])) none) hp nx):=by
 refine newR_ok g hf fun v k h=>?_
 obtain⟨e,h1,h2⟩:=bnd_some h
 obtain⟨l,h3,h4⟩:=bnd_some h2
 obtain⟨c,h5,h6⟩:=bnd_some h4
 obtain⟨h7,h8⟩:=sel_none h6
 simp only[Option.some.injEq,Prod.mk.injEq] at h8
 obtain⟨rfl,rfl⟩:=h8
 obtain⟨c',el,q1,q2,q3⟩:=makeSlice_run ht hg ho h1 h3 h5 h7 w
 have hle:r.le (r.put nx ⟨w.heap.size,0,0,false⟩):=Rho.put_le _ (hf nx (Nat.le_refl _))
 exact⟨.cells c' el,0,_,q1,rel_slice.2 ⟨_,_,Rho.put_same _ _ _,rfl,fun _=>rfl⟩,bok_new (q2.mono hle _ _) _ _ _ _ q3⟩
theorem makeMap_ok (g:Gam (getB hp) r w) (hf:Fresh nx r) {t:TypeId} {x:Option Operand} (ho:o.op=.makeMap t x) :
  ResOk P o a r w (newR (sel x.isNone (some (.map nx,.map [] true)) none) hp nx):=by
 refine newR_ok g hf fun v k h=>?_
 cases x with
 | some _=>exact absurd (show none=some (v,k) from h) (by simp)
 | none =>
  have h:some (AV.map nx,Blk.map [] true)=some (v,k):=h
  simp only[Option.some.injEq,Prod.mk.injEq] at h
  obtain⟨rfl,rfl⟩:=h
  refine⟨.map #[] 0,0,.map (some w.heap.size),?_,rel_map.2 ⟨_,Rho.put_same _ _ _,rfl⟩,⟨#[],0,heap_alloc_new _ _,⟨rfl,fun i e he=>absurd he (by simp)⟩,fun _=>rfl⟩⟩
  simp only[execOp,ho,Instr.makeMap,Option.map_none,Sem.run_bind,Sem.run_pure,Result.andThen_ok,run_newObj];rfl
theorem range_ok (ht:TmOk r n tm a) (hg:Glob P r) (g:Gam (getB hp) r w) (hf:Fresh nx r) {t:TypeId} {x:Operand} (ho:o.op=.range t x) :
  ResOk P o a r w (newR (sel (isString P t) (bnd (bnd (opnd P x tm) asStr) fun s=>some (.ptr nx 0,.iter s 0)) none) hp nx):=by
 refine newR_ok g hf fun v k h=>?_
 obtain⟨h1,h2⟩:=sel_none h
 obtain⟨s,h3,h4⟩:=bnd_some h2
 simp only[Option.some.injEq,Prod.mk.injEq] at h4
 obtain⟨rfl,rfl⟩:=h4
 obtain⟨b,h5,h6⟩:=bnd_some h3
 have:=asStr_some h6;subst this
 obtain⟨y,e1,e2⟩:=rel_str.1 (opnd_ok ht hg h5)
 have hu:P.underlying t=some .string:=by
  unfold isString at h1
  split at h1
  ·rename_i hu;exact hu
  ·exact absurd h1 (by decide)
 refine⟨.stringIter y 0,0,.pointer (some ⟨w.heap.size,0,none⟩),?_,rel_ptr.2 ⟨_,Rho.put_same _ _ _,rfl⟩,⟨y,heap_alloc_new _ _,e2,rfl,rfl⟩⟩
 simp only[execOp,ho,e1,Instr.range,Sem.run_bind,run_underlying hu,Result.andThen_ok,Sem.run_pure,run_newObj];rfl
end
end Go.Proofs.YtbdbhdcbdfbnnaaGreatDoor.Ev
set_option linter.unusedVariables false
set_option linter.unusedSimpArgs false
namespace Go.Proofs.YtbdbhdcbdfbnnaaGreatDoor.Ev
section
variable {P : Program} {r : Rho} {n : Nat} {tm : Tr AV} {a : Act} {w : World} {o : Oper} {hp : Hp} {nx : Nat}
theorem killAll_get (l:List Nat):∀ (hp:Hp) (b:Nat),getB (killAll l hp) b=if b∈l then none else getB hp b:=by
 induction l with
 | nil=>intro hp b;simp[killAll]
 | cons c l ih =>
  intro hp b
  show getB (killAll l (setB none c hp)) b=_
  rw[ih,getB_setB]
  by_cases h1:b∈l
  ·simp[h1]
  ·by_cases h2:b=c <;> simp[h1,h2]
theorem lone_ok {b:AV} (h:lone b=true) {u:Value} (hr:Rel r b u):u.oneCell'=true:=by
 cases b with
 | agg _=>exact absurd (show false=true from h) (by decide)
 | tuple _=>exact absurd (show false=true from h) (by decide)
 | bool _=>have:=rel_bool.1 hr;subst this;rfl
 | int _ _=>have:=rel_int.1 hr;subst this;rfl
 | str _=>obtain⟨x,rfl,_⟩:=rel_str.1 hr;rfl
 | ptr _ _=>obtain⟨x,_,rfl⟩:=rel_ptr.1 hr;rfl
 | nilPtr=>have:=rel_nilPtr.1 hr;subst this;rfl
 | slice _ _ _ _ _=>obtain⟨x,y,_,rfl,_⟩:=rel_slice.1 hr;rfl
 | nilSlice=>have:=rel_nilSlice.1 hr;subst this;rfl
 | map _=>obtain⟨x,_,rfl⟩:=rel_map.1 hr;rfl
 | nilMap=>have:=rel_nilMap.1 hr;subst this;rfl
 | func _ _ _=>obtain⟨x,y,rfl,_⟩:=rel_func.1 hr;rfl
 | nilFunc=>have:=rel_nilFunc.1 hr;subst this;rfl
 | iface _ _=>obtain⟨x,rfl,_⟩:=rel_iface.1 hr;rfl
 | nilIface=>have:=rel_nilIface.1 hr;subst this;rfl
theorem lones_ok:∀ {l:List AV},lones l=true→∀ {u:List Value},Rels r l u→∀ v∈u,v.oneCell'=true:=by
 intro l
 induction l with
 | nil=>intro h u hr v hv;rw[Rels_nil.1 hr] at hv;exact absurd hv (by simp)
 | cons b l ih =>
  intro h u hr v hv
  obtain⟨x,xs,rfl,h1,h2⟩:=Rels_cons.1 hr
  have h':sel (lone b) (lones l) false=true:=h
  cases hb:lone b with
  | false=>rw[hb] at h';exact absurd (show false=true from h') (by decide)
  | true =>
   rw[hb] at h'
   rcases List.mem_cons.1 hv with rfl | hv
   ·exact lone_ok hb h1
   ·exact ih h' h2 v hv
theorem storeB_ok (g:Gam (getB hp) r w) {b off:Nat} {vs:List AV} {hp':Hp} (h:storeB hp b off vs=some hp') {us:List Value} (hu:Rels r vs us) :
  ∃ x,r b=some x∧(∀ (P:Program),(storeCells ⟨x.blk,x.sh+off,none⟩ us).run P w=.ok () (w.setCells x.blk (x.sh+off) us)) ∧
   Gam (getB hp') r (w.setCells x.blk (x.sh+off) us)∧Fr r w (w.setCells x.blk (x.sh+off) us):=by
 obtain⟨q,h1,h2⟩:=bnd_some h
 obtain⟨cs',h3,h4⟩:=bnd_some h2
 obtain⟨h5,h6⟩:=sel_none h4
 injection h6 with h6;subst h6
 obtain⟨k,h7,h8⟩:=bnd_some h1
 have hk:k=.cells q.1 q.2.1 true q.2.2:=by
  cases k with
  | cells cs sz own sh=>cases own with
   | false=>exact absurd h8 (by simp[ownB])
   | true=>injection h8 with h8;subst h8;rfl
  | map _ _=>exact absurd h8 (by simp[ownB])
  | iter _ _=>exact absurd h8 (by simp[ownB])
  | dfr=>exact absurd h8 (by simp[ownB])
 subst hk
 obtain⟨x,h9,c,e,f,h10,h11,h12,h13⟩:=g.blk b _ h7
 obtain⟨hro,hfz⟩:=h13 rfl
 obtain⟨h14,_⟩:=setAt_some _ h3
 have hul:=hu.length
 have hsz:x.sh+off+us.length≤c.size:=by
  have h11':x.sh+q.1.length+x.xt * q.2.1≤c.size:=h11
  have:off+us.length≤q.1.length:=by omega
  have h0:0≤x.xt * q.2.1:=Nat.zero_le _
  omega
 obtain⟨⟨c',w1,w2,w3⟩,w4,w5,w6,w7,w8⟩:=heap_setCells x.blk us (x.sh+off) w c e f h10 hsz
 refine⟨x,h9,fun P=>?_,?_,Fr.turn h9 hro w6 w7 w8 w4 (by rw[w5];exact Nat.le_refl _)⟩
 ·have:=run_storeCells_cells (P:=P) x.blk (x.sh+off) us 0 w (fun j hj=>by
    rw[cell_of_heap h10];simp;omega) (fun j hj=>by
    have:=hfz (x.sh+off+0+j) (by omega);exact this) (lones_ok h5 hu)
  simpa using this
 ·refine g.turn (n:=b) h7 rfl h9 (k':=.cells cs' q.2.1 true []) (by rw[getB_setB,if_pos rfl]) (fun b' j hb hj=>?_) ?_ w4 (by rw[w5];exact Nat.le_refl _)
  ·rw[getB_setB,if_neg hb,killAll_get] at hj
   split at hj
   ·exact absurd hj (by simp)
   ·rename_i hn;exact⟨hj,hn⟩
  ·refine⟨c',e,f,w1,?_,fun i d hd=>?_,fun _=>⟨hro,fun i hi=>?_⟩⟩
   ·rw[w2,setAt_length h3];exact h11
   ·rw[setAt_get h3] at hd
    rw[w3]
    by_cases hi:off≤i∧i<off+vs.length
    ·rw[if_pos hi] at hd
     obtain⟨u,e1,e2⟩:=hu.get hd
     refine⟨u,?_,e2⟩
     rw[if_pos (by omega),← e1];congr 1;omega
    ·rw[if_neg hi] at hd
     obtain⟨u,e1,e2⟩:=h12 i d hd
     exact⟨u,by rw[if_neg (by omega)];exact e1,e2⟩
   ·have:=hfz i (by rw[w2] at hi;exact hi)
    simp only[World.frozen?,h10] at this
    simp only[World.frozen?,w1]
    exact this
theorem okR_ok {v:AV} {e:Option Hp} (hf:Fresh nx r) (h:∀ hp',e=some hp'→∃ x w',((execOp a.eval o).run P w=.ok (.value x) w'∨((execOp a.eval o).run P w=.ok .skip w'∧x=undef))∧Rel r v x∧Fr r w w'∧Gam (getB hp') r w') :
  ResOk P o a r w (okR v nx e):=by
 cases e with
 | none=>exact trivial
 | some hp' =>
  obtain⟨x,w',h1,h2,h3,h4⟩:=h hp' rfl
  exact⟨x,w',r,h1,h2,Ext.refl _ _,h3,h4,hf⟩
theorem store_ok (ht:TmOk r n tm a) (hg:Glob P r) (g:Gam (getB hp) r w) (hf:Fresh nx r) {t:TypeId} {x v:Operand} (ho:o.op=.store t x v) :
  ResOk P o a r w (okR (.tuple []) nx (bnd (sizeOf? P t) fun s=>bnd (bnd (opnd P x tm) asPtr) fun p=>bnd (opnd P v tm) fun v=>sel (Nat.beq (lenL v.cells) s) (storeB hp p.1 p.2 v.cells) none)):=by
 refine okR_ok hf fun hp' h=>?_
 obtain⟨s,h1,h2⟩:=bnd_some h
 obtain⟨p,h3,h4⟩:=bnd_some h2
 obtain⟨q,h5,h6⟩:=bnd_some h4
 obtain⟨h7,h8⟩:=sel_none h6
 obtain⟨b,h9,h10⟩:=bnd_some h3
 have:=asPtr_some h10;subst this
 obtain⟨y,e1,e2⟩:=rel_ptr.1 (opnd_ok ht hg h9)
 have hq:=opnd_ok ht hg h5
 obtain⟨i,i1,i2⟩:=sizeOf_ok h1
 obtain⟨y',f1,f2,f3,f4⟩:=storeB_ok g h8 (cells_ok hq)
 rw[e1] at f1;injection f1 with f1;subst f1
 have hl:=beq_eq h7
 rw[lenL_eq] at hl
 have hsz:(a.eval v).cells.size=i.size:=by
  have:=(cells_ok hq).length;simp at this;omega
 refine⟨undef,_,.inr ⟨?_,rfl⟩,rel_undef,f4,f3⟩
 simp[execOp,ho,e2,Instr.storeAt,Instr.sureAddr,storeVar,run_size i1,hsz,f2 P]
theorem run_setObj_map {b:Nat} {m:Array MapEntry} {k:Nat} (h:w.heap[b]?=some (.map m k)) (o:Obj):(setObj b o).run P w=.ok () (setObjW w b o):=by
 simp[setObj,Sem.run,h,setObjW]
theorem find_at {kk:KK} {d:TypeDesc} (hd:match kk with | .int=>∃ j,d=.int j | .str=>d=.string | .bool=>d=.bool) {k v:AV} {u:Value} (hk:Rel r k u) :
  ∀ {es es':List (AV×AV)} {l:List MapEntry} (i:Nat),Ents r es l→updK kk k v es=some es' →
   (Instr.findNow d u l i=some none∧es'=es++[(k,v)])∨∃ p x m,l[p]?=some m∧Instr.findNow d u l i=some (some (i+p,x))∧es'=es.set p (k,v)∧Instr.sameNow d u m.key=some true:=by
 intro es
 induction es with
 | nil =>
  intro es' l i he h
  injection (show some [(k,v)]=some es' from h) with h;subst h
  have:l=[]:=List.eq_nil_of_length_eq_zero he.1
  subst this;exact .inl ⟨rfl,rfl⟩
 | cons e es ih =>
  intro es' l i he h
  obtain⟨m,ms,rfl,h1,h2,h3⟩:=Ents_cons he
  obtain⟨t,h4,h5⟩:=bnd_some (show bnd (keyEq kk k e.1) (fun t=>sel t (some ((k,v) :: es)) (bnd (updK kk k v es) fun l=>some (e :: l)))=some es' from h)
  have h6:=keyEq_ok hd h4 hk h1
  cases t with
  | true =>
   injection (show some ((k,v) :: es)=some es' from h5) with h5;subst h5
   exact .inr ⟨0,m.val,m,rfl,by unfold Instr.findNow;rw[h6];rfl,rfl,h6⟩
  | false =>
   obtain⟨l',h7,h8⟩:=bnd_some (show bnd (updK kk k v es) (fun l=>some (e :: l))=some es' from h5)
   injection h8 with h8;subst h8
   rcases ih (i+1) h3 h7 with ⟨g1,g2⟩ | ⟨p,x,m',g0,g1,g2,g3⟩
   ·exact .inl ⟨by unfold Instr.findNow;rw[h6];exact g1,by rw[g2];rfl⟩
   ·exact .inr ⟨p+1,x,m',by simpa using g0,by unfold Instr.findNow;rw[h6,show i+(p+1)=i+1+p by omega];exact g1,by rw[g2];rfl,g3⟩
theorem sameNow_same {kk:KK} {d:TypeDesc} (hd:match kk with | .int=>∃ j,d=.int j | .str=>d=.string | .bool=>d=.bool) {u z:Value} (h:Instr.sameNow d u z=some true):u=z:=by
 cases kk with
 | int =>
  obtain⟨j,rfl⟩:=hd
  cases u <;> cases z <;> simp[Instr.sameNow] at h
  obtain⟨rfl,rfl⟩:=h;rfl
 | str =>
  subst hd
  cases u <;> cases z <;> simp only[Instr.sameNow] at h <;> first | (cases h;done) | skip
  rename_i x y
  injection h with h
  rw[beq_toListBytes,ba_toList,ba_toList] at h
  have:=eq_of_beq h
  obtain⟨⟨x⟩⟩:=x;obtain⟨⟨y⟩⟩:=y
  simp only at this
  rw[this]
 | bool =>
  subst hd
  cases u <;> cases z <;> simp[Instr.sameNow] at h
  subst h;rfl
theorem keyThatStays_same {kk:KK} {d:TypeDesc} (hd:match kk with | .int=>∃ j,d=.int j | .str=>d=.string | .bool=>d=.bool) {u z:Value} (h:Instr.sameNow d u z=some true) (w:World):(Instr.keyThatStays z u).run P w=.ok u w:=by
 have:=sameNow_same hd h;subst this
 have hs:Instr.sameBits 10000 u u=true:=by
  cases kk with
  | int=>obtain⟨j,rfl⟩:=hd;cases u <;> simp[Instr.sameNow] at h;simp[Instr.sameBits]
  | str=>subst hd;cases u <;> simp[Instr.sameNow] at h;simpa [Instr.sameBits] using h
  | bool=>subst hd;cases u <;> simp[Instr.sameNow] at h;simp[Instr.sameBits]
 simp[Instr.keyThatStays,hs]
theorem ownMap_ok {h:H} (g:Gam h r w) {b:Nat} {es:List (AV×AV)} (hb:bnd (h b) ownMap=some es):∃ x m k,h b=some (.map es true)∧r b=some x∧w.heap[x.blk]?=some (.map m k)∧Ents r es m.toList∧x.ro=false:=by
 obtain⟨k,h1,h2⟩:=bnd_some hb
 cases k with
 | cells _ _ _ _=>exact absurd h2 (by simp[ownMap])
 | map es' own =>
  cases own with
  | false=>exact absurd h2 (by simp[ownMap])
  | true =>
   injection h2 with h2;subst h2
   obtain⟨x,h3,m,k,h4,h5,h6⟩:=g.blk b _ h1
   exact⟨x,m,k,h1,h3,h4,h5,h6 rfl⟩
 | iter _ _=>exact absurd h2 (by simp[ownMap])
 | dfr=>exact absurd h2 (by simp[ownMap])
theorem map_turn (g:Gam (getB hp) r w) {b:Nat} {es es':List (AV×AV)} {x:BI} (h1:getB hp b=some (.map es true)) (h2:r b=some x) (h3:x.ro=false) (m:Array MapEntry) (k:Nat) (h4:Ents r es' m.toList) :
  Gam (getB (setB (some (.map es' true)) b hp)) r (setObjW w x.blk (.map m k))∧Fr r w (setObjW w x.blk (.map m k)):=by
 have hlt:=g.real _ _ h2
 refine⟨g.turn (n:=b) h1 rfl h2 (k':=.map es' true) (by rw[getB_setB,if_pos rfl]) (fun b' j hb hj=>?_) ?_ (fun i hi=>heap_setObj_other _ _ hi) (by simp[setObjW]),
  Fr.turn h2 h3 rfl rfl rfl (fun i hi=>heap_setObj_other _ _ hi) (by simp[setObjW])⟩
 ·rw[getB_setB,if_neg hb] at hj;exact⟨hj,by simp[Blk.shares]⟩
 ·exact⟨m,k,heap_setObj_same _ hlt,h4,fun _=>h3⟩
theorem update_ok (ht:TmOk r n tm a) (hg:Glob P r) (g:Gam (getB hp) r w) (hf:Fresh nx r) {t:TypeId} {m k v:Operand} (ho:o.op=.mapUpdate t m k v∨o.op=.insert t m k v) :
  ResOk P o a r w (okR (.tuple []) nx (bnd (mapKind P t) fun z=>bnd (bnd (opnd P m tm) asMap) fun b=>bnd (opnd P k tm) fun k=>bnd (opnd P v tm) fun v=>bnd (bnd (getB hp b) ownMap) fun es =>
   bnd (keyEq z.1 k k) fun _=>bnd (updK z.1 k v es) fun es=>some (setB (some (.map es true)) b hp))):=by
 refine okR_ok hf fun hp' h=>?_
 obtain⟨z,h1,h2⟩:=bnd_some h
 obtain⟨b,h3,h4⟩:=bnd_some h2
 obtain⟨kk,h5,h6⟩:=bnd_some h4
 obtain⟨vv,h7,h8⟩:=bnd_some h6
 obtain⟨es,h9,h10⟩:=bnd_some h8
 obtain⟨q,h11,h12⟩:=bnd_some h10
 obtain⟨es',h13,h14⟩:=bnd_some h12
 injection h14 with h14;subst h14
 obtain⟨M⟩:=mapKind_ok h1
 obtain⟨b',h15,h16⟩:=bnd_some h3
 have:=asMap_some h16;subst this
 obtain⟨y,e1,e2⟩:=rel_map.1 (opnd_ok ht hg h15)
 have hk:=opnd_ok ht hg h5
 have hv:=opnd_ok ht hg h7
 obtain⟨x,mm,c,f0,f1,f2,f3,f4⟩:=ownMap_ok g h9
 rw[e1] at f1;injection f1 with f1;subst f1
 have hexec:∀ {w'},(Instr.mapUpdate t (.map (some y.blk)) (a.eval k) (a.eval v)).run P w=.ok () w'→(execOp a.eval o).run P w=.ok .skip w':=by
  intro w' hr
  rcases ho with ho | ho <;> simp[execOp,ho,e2,hr]
 rcases find_at M.hd hk 0 f3 h13 with ⟨g1,g2⟩ | ⟨p,u,m',g0,g1,g2,g3⟩
 ·obtain⟨k1,k2⟩:=map_turn g (es':=es') f0 e1 f4 (mm.push { key:=a.eval k,val:=a.eval v,born:=c }) (c+1) (by
   rw[g2,Array.toList_push]
   refine⟨by simp[f3.1],fun i e he=>?_⟩
   by_cases hi:i<es.length
   ·rw[List.getElem?_append_left hi] at he
    rw[List.getElem?_append_left (by rw[f3.1];exact hi)]
    exact f3.2 i e he
   ·rw[List.getElem?_append_right (by omega)] at he
    have hi0:i - es.length=0:=by
     have:=(List.getElem?_eq_some_iff.1 he).1;simp at this;omega
    rw[hi0] at he
    simp at he;subst he
    exact⟨_,by rw[List.getElem?_append_right (by rw[f3.1];omega),f3.1,hi0];rfl,hk,hv⟩)
  refine⟨undef,_,.inr ⟨hexec ?_,rfl⟩,rel_undef,k2,k1⟩
  simp only[Instr.mapUpdate,Sem.run_bind,run_underlying M.hu,Result.andThen_ok,run_getObj_map f2,run_checkKey M.hd M.hk _ 9999,Instr.findKey,run_underlying M.hk,g1,Sem.run_pure,run_setObj_map f2]
 ·simp only[Nat.zero_add] at g1
  have hp1:mm[p]?=some m':=by rw[← g0];simp
  have hpl:p<mm.toList.length:=(List.getElem?_eq_some_iff.1 g0).1
  obtain⟨k1,k2⟩:=map_turn g (es':=es') f0 e1 f4 (mm.modify p fun e=>{ e with key:=a.eval k,val:=a.eval v }) c (by
   rw[g2]
   refine⟨by simp[f3.1],fun i e he=>?_⟩
   rw[Array.getElem?_toList,Array.getElem?_modify]
   by_cases hi:p=i
   ·subst hi
    rw[List.getElem?_set_self (by rw[← f3.1];exact hpl)] at he
    injection he with he;subst he
    rw[if_pos rfl,hp1]
    exact⟨_,rfl,hk,hv⟩
   ·rw[List.getElem?_set_ne hi] at he
    rw[if_neg hi]
    obtain⟨q',q1,q2⟩:=f3.2 i e he
    exact⟨q',by simpa using q1,q2⟩)
  refine⟨undef,_,.inr ⟨hexec ?_,rfl⟩,rel_undef,k2,k1⟩
  simp only[Instr.mapUpdate,Sem.run_bind,run_underlying M.hu,Result.andThen_ok,run_getObj_map f2,run_checkKey M.hd M.hk _ 9999,Instr.findKey,run_underlying M.hk,g1,Sem.run_pure,hp1,Option.map_some,Option.getD_some,
   keyThatStays_same M.hd g3,run_setObj_map f2]
end
end Go.Proofs.YtbdbhdcbdfbnnaaGreatDoor.Ev
set_option linter.unusedVariables false
set_option linter.unusedSimpArgs false
namespace Go.Proofs.YtbdbhdcbdfbnnaaGreatDoor.Ev
section
variable {P : Program} {r : Rho} {n : Nat} {tm : Tr AV} {a : Act} {w : World} {o : Oper} {hp : Hp} {nx : Nat}
theorem runR_ok {α:Type} {e:Option α} {f:α→R} (h:∀ x,e=some x→ResOk P o a r w (f x)):ResOk P o a r w (runR e f):=by
 cases e with
 | none=>exact trivial
 | some x=>exact h x rfl
theorem sel_R {c:Bool} {x y:R} (h1:c=true→ResOk P o a r w x) (h2:c=false→ResOk P o a r w y):ResOk P o a r w (sel c x y):=by
 cases c with
 | true=>exact h1 rfl
 | false=>exact h2 rfl
theorem iterB_ok {h:H} (g:Gam h r w) {b:Nat} {q:List Nat×Nat} (hb:bnd (h b) iterB=some q):∃ x s,h b=some (.iter q.1 q.2)∧r b=some x∧w.heap[x.blk]?=some (.stringIter s q.2)∧s.data.toList.map UInt8.toNat=q.1∧x.ro=false∧x.sh=0:=by
 obtain⟨k,h1,h2⟩:=bnd_some hb
 cases k with
 | cells _ _ _ _=>exact absurd h2 (by simp[iterB])
 | map _ _=>exact absurd h2 (by simp[iterB])
 | dfr=>exact absurd h2 (by simp[iterB])
 | iter s p =>
  injection h2 with h2;subst h2
  obtain⟨x,h3,s,h4,h5,h6,h7⟩:=g.blk b _ h1
  exact⟨x,s,h1,h3,h4,h5,h6,h7⟩
theorem next_ok (ht:TmOk r n tm a) (hg:Glob P r) (g:Gam (getB hp) r w) (hf:Fresh nx r) {x:Operand} {is:Bool} (ho:o.op=.next x is) :
  ResOk P o a r w (runR (bnd (opnd P x tm) asPtr) fun p=>runR (bnd (getB hp p.1) iterB) fun q=>sel (and is (Nat.beq p.2 0)) (nextB hp nx p.1 q.1 q.2) .no):=by
 refine runR_ok fun p h1=>runR_ok fun q h2=>sel_R (fun h3=>?_) fun _=>trivial
 obtain⟨b,h4,h5⟩:=bnd_some h1
 have:=asPtr_some h5;subst this
 obtain⟨his,h6⟩:=and2 h3
 have h0:=beq_eq h6
 obtain⟨y,s,g0,g1,g2,g3,g4,g5⟩:=iterB_ok g h2
 obtain⟨y',e1,e2⟩:=rel_ptr.1 (opnd_ok ht hg h4)
 rw[g1] at e1;injection e1 with e1;subst e1
 subst his
 rw[g5,h0] at e2
 have hobj:(getObj y.blk).run P w=.ok (.stringIter s q.2) w:=by simp[getObj,Sem.run,g2]
 unfold nextB
 rw[nth_eq,← g3,List.getElem?_map]
 cases hc:s.data.toList[q.2]? with
 | none =>
  refine⟨.tuple #[.bool false],w,r,.inl ?_,rel_tuple.2 ⟨_,rfl,Rels_cons.2 ⟨_,_,rfl,rel_bool.2 rfl,Rels_nil.2 rfl⟩⟩,Ext.refl _ _,Fr.refl _ _,g,hf⟩
  have hlt:¬ q.2<s.size:=by
   have:=List.getElem?_eq_none_iff.1 hc
   rw[Array.length_toList] at this
   show ¬ q.2<s.data.size
   omega
  have:(Instr.next (.pointer (some ⟨y.blk,0,none⟩)) true o.type).run P w=.ok (.tuple #[.bool false]) w:=by
   simp only[Instr.next,Sem.run_bind,hobj,Result.andThen_ok,if_neg hlt];rfl
  simp[execOp,ho,e2,this]
 | some c =>
  simp only[Option.map_some]
  refine sel_R (fun h7=>?_) fun _=>trivial
  have h7:=blt_lt h7
  have hlt:q.2<s.size:=by
   have:=(List.getElem?_eq_some_iff.1 hc).1
   rw[Array.length_toList] at this
   exact this
  have hcc : s[q.2]'hlt = c := by
   have:=(List.getElem?_eq_some_iff.1 hc).2
   rw[← this]
   simp only[Array.getElem_toList]
   rfl
  have hdec:=decode_ascii s q.2 hlt (by rw[hcc];exact h7)
  rw[hcc] at hdec
  have hrun:(Instr.next (.pointer (some ⟨y.blk,0,none⟩)) true o.type).run P w=.ok (.tuple #[.bool true,.int .i64 (q.2:Int),.int .i32 (c.toNat:Int)]) (setObjW w y.blk (.stringIter s (q.2+1))):=by
   have hset:(setObj y.blk (.stringIter s (q.2+1))).run P w=.ok () (setObjW w y.blk (.stringIter s (q.2+1))):=by simp[setObj,Sem.run,g2,setObjW]
   simp only[Instr.next,Sem.run_bind,hobj,Result.andThen_ok,if_pos hlt,hdec,hset];rfl
  refine⟨.tuple #[.bool true,.int .i64 (q.2:Int),.int .i32 (c.toNat:Int)],setObjW w y.blk (.stringIter s (q.2+1)),r,.inl (by simp[execOp,ho,e2,hrun]),rel_tuple.2 ⟨_,rfl,Rels_cons.2 ⟨_,_,rfl,rel_bool.2 rfl,Rels_cons.2 ⟨_,_,rfl,rel_int.2 rfl,Rels_cons.2 ⟨_,_,rfl,rel_int.2 rfl,Rels_nil.2 rfl⟩⟩⟩⟩,
   Ext.refl _ _,Fr.turn g1 g4 rfl rfl rfl (fun i hi=>heap_setObj_other _ _ hi) (by simp[setObjW]),?_,hf⟩
  refine g.turn (n:=p.1) g0 rfl g1 (k':=.iter (s.data.toList.map UInt8.toNat) (Nat.succ q.2)) (by rw[getB_setB,if_pos rfl]) (fun b' j hb hj=>?_) ?_ (fun i hi=>heap_setObj_other _ _ hi) (by simp[setObjW])
  ·rw[getB_setB,if_neg hb] at hj;exact⟨hj,by simp[Blk.shares]⟩
  ·exact⟨s,heap_setObj_same _ (g.real _ _ g1),rfl,g4,g5⟩
theorem exec_builtin {b:Builtin} {xs:Array Operand} {ts:Array TypeId} (ho:o.op=.call ⟨.builtin b,xs,ts⟩) :
  (execOp a.eval o).run P w=(builtin b ts o.type (xs.map fun | .const _=>true | _=>false) (xs.map a.eval)).run P w:=by
 simp only[execOp,ho,resolve,Sem.run_bind,Sem.run_pure,Result.andThen_ok,invoke]
 rfl
theorem headT_ok {ts:Array TypeId} {t:TypeId} (h:headT ts=some t):ts[0]?=some t:=by
 unfold headT at h
 split at h
 ·injection h with h;subst h;rfl
 ·exact absurd h (by simp)
theorem args2 (ht:TmOk r n tm a) (hg:Glob P r) {xs:Array Operand} {u v:AV} (h:opnds P tm xs.toList=some [u,v]):∃ x y,xs.map a.eval=#[x,y]∧Rel r u x∧Rel r v y:=by
 have:=opnds_ok ht hg h
 obtain⟨x,l,e1,e2,e3⟩:=Rels_cons.1 this
 obtain⟨y,l',e4,e5,e6⟩:=Rels_cons.1 e3
 have:=Rels_nil.1 e6
 subst this;subst e4
 refine⟨x,y,?_,e2,e5⟩
 rw[← Array.toList_inj,Array.toList_map,e1]
theorem args1 (ht:TmOk r n tm a) (hg:Glob P r) {xs:Array Operand} {u:AV} (h:opnds P tm xs.toList=some [u]):∃ x,xs.map a.eval=#[x]∧Rel r u x:=by
 have:=opnds_ok ht hg h
 obtain⟨x,l,e1,e2,e3⟩:=Rels_cons.1 this
 have:=Rels_nil.1 e3
 subst this
 refine⟨x,?_,e2⟩
 rw[← Array.toList_inj,Array.toList_map,e1]
theorem arg2_ok {f:AV→AV→R} {vs:List AV} (h:∀ x y,vs=[x,y]→ResOk P o a r w (f x y)):ResOk P o a r w (arg2 f vs):=by
 unfold arg2;split
 ·exact h _ _ rfl
 ·exact trivial
theorem arg1_ok {f:AV→R} {vs:List AV} (h:∀ x,vs=[x]→ResOk P o a r w (f x)):ResOk P o a r w (arg1 f vs):=by
 unfold arg1;split
 ·exact h _ rfl
 ·exact trivial
theorem lenOf_ok {v:AV} {m:Nat} (h:lenOf v=some m) {u:Value} (hu:Rel r v u):∃ A c,u=.slice A m c∧(A=none→m=0∧c=0):=by
 cases v with
 | slice b off len cap ex=>injection (show some len=some m from h) with h;subst h;obtain⟨x,p,_,e,_⟩:=rel_slice.1 hu;exact⟨_,_,e,fun h=>absurd h (by simp)⟩
 | nilSlice=>injection (show some 0=some m from h) with h;subst h;exact⟨none,0,rel_nilSlice.1 hu,fun _=>⟨rfl,rfl⟩⟩
 | _=>exact absurd h (by simp[lenOf])
theorem len_ok (ht:TmOk r n tm a) (hg:Glob P r) (g:Gam (getB hp) r w) {xs:Array Operand} {ts:Array TypeId} (ho:o.op=.call ⟨.builtin .len,xs,ts⟩) {k:LK} (hk:lenKind P ts=some k)
  {x v:AV} (hx:opnds P tm xs.toList=some [x]) (h:bnd (lenP k x hp) (fun m=>some (.int .i64 (Int.ofNat m)))=some v):Owes P o a r w v:=by
 obtain⟨m,h1,h2⟩:=bnd_some h
 injection h2 with h2;subst h2
 obtain⟨u,e1,e2⟩:=args1 ht hg hx
 obtain⟨t,h3,h4⟩:=bnd_some hk
 have ht0:=headT_ok h3
 refine⟨.int .i64 (m:Int),?_,rel_int.2 rfl⟩
 rw[exec_builtin ho,e1]
 have key:(Builtin.len_ ts o.type #[u]).run P w=.ok (.int .i64 (m:Int)) w→(builtin .len ts o.type (xs.map fun | .const _=>true | _=>false) #[u]).run P w=.ok (.value (.int .i64 (m:Int))) w:=fun h=>by
  simp only[builtin,Sem.run_bind,h,Result.andThen_ok,Sem.run_pure]
 refine key ?_
 split at h4
 ·rename_i hu;injection h4 with h4;subst h4
  obtain⟨s,h5,h6⟩:=bnd_some (show bnd (asStr x) _=some m from h1)
  injection h6 with h6;subst h6
  have:=asStr_some h5;subst this
  obtain⟨y,e3,e4⟩:=rel_str.1 e2
  subst e4;subst e3
  have:lenL (y.data.toList.map UInt8.toNat)=y.size:=by rw[lenL_eq,List.length_map,Array.length_toList];rfl
  simp[Builtin.len_,ht0,run_underlying hu,goInt,this]
 ·rename_i e hu;injection h4 with h4;subst h4
  obtain⟨A,c,e3,_⟩:=lenOf_ok (show lenOf x=some m from h1) e2
  subst e3
  simp[Builtin.len_,ht0,run_underlying hu,goInt]
 ·rename_i k e hu;injection h4 with h4;subst h4
  obtain⟨es,h5,h6⟩:=bnd_some (show bnd (entries hp x) _=some m from h1)
  injection h6 with h6;subst h6
  rcases entries_ok g h5 e2 with ⟨e3,e4⟩ | ⟨y,mm,c,e3,e4,e5⟩
  ·subst e3;subst e4;simp[Builtin.len_,ht0,run_underlying hu,goInt,lenL]
  ·subst e3
   have:lenL es=mm.size:=by rw[lenL_eq,← e5.1];simp
   simp[Builtin.len_,ht0,run_underlying hu,goInt,run_getObj_map e4,this]
 ·exact absurd h4 (by simp)
theorem cap_ok (ht:TmOk r n tm a) (hg:Glob P r) {xs:Array Operand} {ts:Array TypeId} (ho:o.op=.call ⟨.builtin .cap,xs,ts⟩) {e:Nat×List AV} (hk:bnd (headT ts) (elemZero P)=some e)
  {x v:AV} (hx:opnds P tm xs.toList=some [x]) (h:bnd (capP x) (fun m=>some (.int .i64 (Int.ofNat m)))=some v):Owes P o a r w v:=by
 obtain⟨m,h1,h2⟩:=bnd_some h
 injection h2 with h2;subst h2
 obtain⟨u,e1,e2⟩:=args1 ht hg hx
 obtain⟨t,h3,h4⟩:=bnd_some hk
 have ht0:=headT_ok h3
 obtain⟨el,i,_,_,hu,_⟩:=elemZero_ok h4
 refine⟨.int .i64 (m:Int),?_,rel_int.2 rfl⟩
 rw[exec_builtin ho,e1]
 have:(Builtin.cap_ ts o.type #[u]).run P w=.ok (.int .i64 (m:Int)) w:=by
  cases x with
  | nilSlice=>injection (show some 0=some m from h1) with h1;subst h1;have:=rel_nilSlice.1 e2;subst this;simp[Builtin.cap_,ht0,run_underlying hu,goInt]
  | slice b off len cap ex =>
   cases ex with
   | false=>exact absurd h1 (by simp[capP])
   | true =>
    injection (show some cap=some m from h1) with h1;subst h1
    obtain⟨y,p,_,e3,_⟩:=rel_slice.1 e2
    subst e3
    simp[Builtin.cap_,ht0,run_underlying hu,goInt]
  | _=>exact absurd h1 (by simp[capP])
 simp only[builtin,Sem.run_bind,this,Result.andThen_ok,Sem.run_pure]
theorem max_ok (ht:TmOk r n tm a) (hg:Glob P r) {xs:Array Operand} {ts:Array TypeId} (ho:o.op=.call ⟨.builtin .max,xs,ts⟩) {x y v:AV} (hx:opnds P tm xs.toList=some [x,y]) (h:maxP x y=some v):Owes P o a r w v:=by
 obtain⟨p,h1,h2⟩:=bnd_some h
 obtain⟨q,h3,h4⟩:=bnd_some h2
 injection h4 with h4;subst h4
 obtain⟨u,z,e1,e2,e3⟩:=args2 ht hg hx
 have:=asInt_some h1;subst this
 have:=asInt_some h3;subst this
 have e4:=rel_int.1 e2;have e5:=rel_int.1 e3
 subst e4;subst e5
 refine⟨.int p.1 (if p.2<q.2 then q.2 else p.2),?_,rel_int.2 ?_⟩
 ·rw[exec_builtin ho,e1]
  simp[builtin,Builtin.max_,Builtin.max2]
 ·rw[iLe_eq]
  by_cases hlt:p.2<q.2
  ·rw[if_pos hlt,show decide (q.2≤p.2)=false by simp;omega];rfl
  ·rw[if_neg hlt,show decide (q.2≤p.2)=true by simp;omega];rfl
theorem min_ok (ht:TmOk r n tm a) (hg:Glob P r) {xs:Array Operand} {ts:Array TypeId} (ho:o.op=.call ⟨.builtin .min,xs,ts⟩) {x y v:AV} (hx:opnds P tm xs.toList=some [x,y]) (h:minP x y=some v):Owes P o a r w v:=by
 obtain⟨p,h1,h2⟩:=bnd_some h
 obtain⟨q,h3,h4⟩:=bnd_some h2
 injection h4 with h4;subst h4
 obtain⟨u,z,e1,e2,e3⟩:=args2 ht hg hx
 have:=asInt_some h1;subst this
 have:=asInt_some h3;subst this
 have e4:=rel_int.1 e2;have e5:=rel_int.1 e3
 subst e4;subst e5
 refine⟨.int p.1 (if q.2<p.2 then q.2 else p.2),?_,rel_int.2 ?_⟩
 ·rw[exec_builtin ho,e1]
  simp[builtin,Builtin.min_,Builtin.min2]
 ·rw[iLe_eq]
  by_cases hlt:q.2<p.2
  ·rw[if_pos hlt,show decide (p.2≤q.2)=false by simp;omega];rfl
  ·rw[if_neg hlt,show decide (p.2≤q.2)=true by simp;omega];rfl
theorem del_at {kk:KK} {d:TypeDesc} (hd:match kk with | .int=>∃ j,d=.int j | .str=>d=.string | .bool=>d=.bool) {k:AV} {u:Value} (hk:Rel r k u) :
  ∀ {es es':List (AV×AV)} {l:List MapEntry} (i:Nat),Ents r es l→delK kk k es=some es' →
   (Instr.findNow d u l i=some none∧es'=es)∨∃ p x,p<l.length∧Instr.findNow d u l i=some (some (i+p,x))∧es'=es.eraseIdx p:=by
 intro es
 induction es with
 | nil =>
  intro es' l i he h
  injection (show some []=some es' from h) with h;subst h
  have:l=[]:=List.eq_nil_of_length_eq_zero he.1
  subst this;exact .inl ⟨rfl,rfl⟩
 | cons e es ih =>
  intro es' l i he h
  obtain⟨m,ms,rfl,h1,h2,h3⟩:=Ents_cons he
  obtain⟨t,h4,h5⟩:=bnd_some (show bnd (keyEq kk k e.1) (fun t=>sel t (some es) (bnd (delK kk k es) fun l=>some (e :: l)))=some es' from h)
  have h6:=keyEq_ok hd h4 hk h1
  cases t with
  | true =>
   injection (show some es=some es' from h5) with h5;subst h5
   exact .inr ⟨0,m.val,by simp,by unfold Instr.findNow;rw[h6];rfl,rfl⟩
  | false =>
   obtain⟨l',h7,h8⟩:=bnd_some (show bnd (delK kk k es) (fun l=>some (e :: l))=some es' from h5)
   injection h8 with h8;subst h8
   rcases ih (i+1) h3 h7 with ⟨g1,g2⟩ | ⟨p,x,g0,g1,g2⟩
   ·exact .inl ⟨by unfold Instr.findNow;rw[h6];exact g1,by rw[g2]⟩
   ·exact .inr ⟨p+1,x,by simpa using g0,by unfold Instr.findNow;rw[h6,show i+(p+1)=i+1+p by omega];exact g1,by rw[g2];rfl⟩
theorem delete_ok (ht:TmOk r n tm a) (hg:Glob P r) (g:Gam (getB hp) r w) (hf:Fresh nx r) {xs:Array Operand} {ts:Array TypeId} (ho:o.op=.call ⟨.builtin .delete,xs,ts⟩) {vs:List AV} (hx:opnds P tm xs.toList=some vs) :
  ResOk P o a r w (xbDelete P ts vs hp nx):=by
 refine runR_ok fun z h1=>arg2_ok fun m k hv=>runR_ok fun b h2=>runR_ok fun es h3=>runR_ok fun q h4=>runR_ok fun es' h5=>?_
 subst hv
 obtain⟨t,h6,h7⟩:=bnd_some h1
 have ht0:=headT_ok h6
 obtain⟨M⟩:=mapKind_ok h7
 obtain⟨u,uk,e1,e2,e3⟩:=args2 ht hg hx
 have:=asMap_some h2;subst this
 obtain⟨y,f1,f2⟩:=rel_map.1 e2
 obtain⟨x,mm,c,d0,d1,d2,d3,d4⟩:=ownMap_ok g h3
 rw[f1] at d1;injection d1 with d1;subst d1
 subst f2
 have key:∀ {w'},(Builtin.delete_ ts o.type #[.map (some y.blk),uk]).run P w=.ok (.tuple #[]) w'→(execOp a.eval o).run P w=.ok (.value (.tuple #[])) w':=fun h=>by
  rw[exec_builtin ho,e1]
  simp only[builtin,Sem.run_bind,h,Result.andThen_ok,Sem.run_pure]
 rcases del_at M.hd e3 0 d3 h5 with ⟨g1,g2⟩ | ⟨p,uu,g0,g1,g2⟩
 ·subst g2
  obtain⟨k1,k2⟩:=map_turn g (es':=es') d0 f1 d4 mm c d3
  refine⟨_,_,r,.inl (key ?_),rel_undef,Ext.refl _ _,k2,k1,hf⟩
  simp only[Builtin.delete_,ht0,List.getElem?_toArray,List.getElem?_cons_zero,List.getElem?_cons_succ,Sem.run_bind,run_underlying M.hu,Result.andThen_ok,run_getObj_map d2,run_checkKey M.hd M.hk _ 9999,Instr.findKey,
   run_underlying M.hk,g1,Sem.run_pure,run_setObj_map d2]
 ·simp only[Nat.zero_add] at g1
  obtain⟨k1,k2⟩:=map_turn g (es':=es') d0 f1 d4 (mm.eraseIdxIfInBounds p) c (by
   have hps:p<mm.size:=by simpa using g0
   have hel:(mm.eraseIdxIfInBounds p).toList=mm.toList.eraseIdx p:=by
    simp[Array.eraseIdxIfInBounds,hps]
   rw[g2,hel]
   refine⟨by rw[List.length_eraseIdx,List.length_eraseIdx,d3.1],fun i e he=>?_⟩
   rw[List.getElem?_eraseIdx] at he ⊢
   split at he
   ·rename_i hi;rw[if_pos hi];exact d3.2 _ _ he
   ·rename_i hi;rw[if_neg hi];exact d3.2 _ _ he)
  refine⟨_,_,r,.inl (key ?_),rel_undef,Ext.refl _ _,k2,k1,hf⟩
  simp only[Builtin.delete_,ht0,List.getElem?_toArray,List.getElem?_cons_zero,List.getElem?_cons_succ,Sem.run_bind,run_underlying M.hu,Result.andThen_ok,run_getObj_map d2,run_checkKey M.hd M.hk _ 9999,Instr.findKey,
   run_underlying M.hk,g1,Sem.run_pure,run_setObj_map d2]
end
end Go.Proofs.YtbdbhdcbdfbnnaaGreatDoor.Ev
set_option linter.unusedVariables false
set_option linter.unusedSimpArgs false
namespace Go.Proofs.YtbdbhdcbdfbnnaaGreatDoor.Ev
structure News (P:Program) (w:World) (ts:Array TypeId) (t el:TypeId) (i:TypeInfo) (zu:Value) (x:Value) (m:Nat) (news:Array Value):Prop where
 t0:ts[0]?=some t
 hu:P.underlying t=some (.slice el)
 hi:P.info? el=some i
 hz:i.zero=some zu
 by_:i.bytes≤4096
 sz:0<i.size
 what:(∃ u k k',ts[1]?=some u∧P.underlying u=some (.int k)∧x=.int k' (m:Int)∧m≤100000∧news=(if m * i.size=0 then #[] else Builtin.zeroCells zu.cells m)) ∨
  (∃ u e A c,ts[1]?=some u∧P.underlying u=some (.slice e)∧x=.slice A m c∧∀ w',w'.heap=w.heap→(Builtin.firstCells i.size m x).run P w'=.ok news w')
section
variable {P : Program} {w : World} {ts : Array TypeId} {t el : TypeId} {i : TypeInfo} {zu x : Value} {m : Nat} {news : Array Value}
theorem append_room (h:News P w ts t el i zu x m news) (ty:TypeId) (base:Option Addr) (sLen sCap:Nat) (hle:sLen+m≤sCap) {w':World}
  (hst:(match base with | some A=>storeCells (A.add (sLen * i.size)) news.toList | none=>pure ():Sem Unit).run P w=.ok () w') :
  (Builtin.append_ ts ty #[.slice base sLen sCap,x]).run P w=.ok (.slice base (sLen+m) sCap) w':=by
 rcases h.what with ⟨u,k,k',u1,u2,rfl,u3,u4⟩ | ⟨u,e,A,c,u1,u2,rfl,u3⟩
 ·have hw:=wrap_nat m u3
  have c1:¬ ((m:Int)<0):=by omega
  have c2:¬ ((m:Int) * (i.bytes:Int) > 2 ^ 48):=by
   have h1:m * i.bytes≤100000 * 4096:=Nat.mul_le_mul u3 h.by_
   have:((m * i.bytes:Nat):Int)≤409600000:=by omega
   rw[Int.natCast_mul] at this
   omega
  simp only[Builtin.append_,h.t0,u1,List.getElem?_toArray,List.getElem?_cons_zero,List.getElem?_cons_succ,Sem.run_bind,run_underlying h.hu,Result.andThen_ok,run_size h.hi,run_underlying u2,Sem.run_pure,if_true,Go.asInt,asIntOf,hw,
   typeInfo,run_program,h.hi,Int.toNat_natCast,Sem.run_ite,if_neg c1,if_neg c2,if_pos hle]
  cases base with
  | none =>
   simp only[Sem.run_pure] at hst
   injection hst with _ hst;subst hst
   simp[run_zero h.hi h.hz]
  | some A =>
   simp only[] at hst
   subst u4
   by_cases h0:m * i.size=0
   ·rw[if_pos h0] at hst
    simp[h0,hst]
   ·rw[if_neg h0] at hst
    simp[h0,run_zero h.hi h.hz,hst]
 ·simp only[Builtin.append_,h.t0,u1,List.getElem?_toArray,List.getElem?_cons_zero,List.getElem?_cons_succ,Sem.run_bind,run_underlying h.hu,Result.andThen_ok,run_size h.hi,run_underlying u2,Sem.run_pure,Bool.false_eq_true,if_false,
   Builtin.lenOf,Sem.run_ite,if_pos hle,Bool.not_false,if_true,u3 w rfl]
  cases base with
  | none =>
   simp only[Sem.run_pure] at hst
   injection hst with _ hst;subst hst
   simp[u3 w rfl]
  | some A=>simp only[] at hst;simp[u3 w rfl,hst]
theorem append_grow (h:News P w ts t el i zu x m news) (ty:TypeId) (base:Option Addr) (sLen sCap:Nat) (hlt:sCap<sLen+m) (hb:sLen+m≤1000000) {olds:Array Value}
  (hold:(Builtin.firstCells i.size sLen (.slice base sLen sCap)).run P w.drew=.ok olds w.drew) :
  ∃ C,sLen+m≤C∧(Builtin.append_ ts ty #[.slice base sLen sCap,x]).run P w =
   .ok (.slice (some ⟨w.heap.size,0,none⟩) (sLen+m) C) (w.drew.alloc (.cells (olds++news++Builtin.zeroCells zu.cells (C - (sLen+m))) el)):=by
 have hby:=h.by_
 have hnl:¬ (sLen+m≤sCap):=by omega
 have hmul:(sLen+m) * i.bytes≤140737488355328:=by
  have:=Nat.mul_le_mul hb hby
  omega
 have hfit:=growslice_fits hlt hmul
 have hfit':¬ (Builtin.nextslicecap (sLen+m) sCap * i.bytes > 2 ^ 48):=by omega
 have hmax:¬ (((sLen+m:Nat):Int) > IntKind.i64.max∧(True∨i.bytes=0)):=by
  intro hh
  have h1:((sLen+m:Nat):Int) > 9223372036854775807:=hh.1
  omega
 refine⟨grownCap w (sLen+m) sCap el,grownCap_ge _ _ _ _,?_⟩
 have h63':¬ (9223372036854775807<((sLen:Int)+(m:Int))):=by omega
 have h48':¬ (281474976710656<Builtin.nextslicecap (sLen+m) sCap * i.bytes):=by omega
 have hdr:({ w with drawn:=w.drawn+1 } : World)=w.drew:=rfl
 rcases h.what with ⟨u,k,k',u1,u2,rfl,u3,u4⟩ | ⟨u,e,A,c,u1,u2,rfl,u3⟩
 ·have hw:=wrap_nat m u3
  have c1:¬ ((m:Int)<0):=by omega
  have c2:¬ (281474976710656<(m:Int) * (i.bytes:Int)):=by
   have h1:m * i.bytes≤100000 * 4096:=Nat.mul_le_mul u3 h.by_
   have:((m * i.bytes:Nat):Int)≤409600000:=by omega
   rw[Int.natCast_mul] at this
   omega
  by_cases h0:m * i.size=0
  ·rw[if_pos h0] at u4
   subst u4
   have hm0:m=0:=by
    rcases Nat.mul_eq_zero.1 h0 with h1 | h1
    ·exact h1
    ·have:=h.sz;omega
   subst hm0
   simp only[Nat.add_zero] at hlt hb hnl h63' h48' ⊢
   have h63'':¬ (9223372036854775807<(sLen:Int)):=by omega
   simp[Builtin.append_,h.t0,u1,run_underlying h.hu,run_size h.hi,run_underlying u2,Go.asInt,asIntOf,c2,typeInfo,h.hi,hnl,h63'',h48',Question.forced,hdr,hold,run_zero h.hi h.hz,newRow,grownCap,show IntKind.i64.wrap 0=0 from rfl]
  ·rw[if_neg h0] at u4
   subst u4
   have hm0:m≠0:=fun e=>h0 (by rw[e,Nat.zero_mul])
   have hs0:i.size≠0:=by have:=h.sz;omega
   simp[Builtin.append_,h.t0,u1,run_underlying h.hu,run_size h.hi,run_underlying u2,Go.asInt,asIntOf,hw,c2,typeInfo,h.hi,hnl,h63',h48',Question.forced,hm0,hs0,h0,c1,hdr,hold,run_zero h.hi h.hz,newRow,grownCap]
   try rfl
 ·simp[Builtin.append_,h.t0,u1,run_underlying h.hu,run_size h.hi,run_underlying u2,Builtin.lenOf,typeInfo,h.hi,hnl,h63',h48',Question.forced,hdr,hold,u3 w.drew rfl,run_zero h.hi h.hz,newRow,grownCap]
end
end Go.Proofs.YtbdbhdcbdfbnnaaGreatDoor.Ev
