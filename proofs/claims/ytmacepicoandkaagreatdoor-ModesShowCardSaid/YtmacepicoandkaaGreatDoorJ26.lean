/- The store of diagrams in memory. Walks: half, are. Walks: node. Walks: node whole; ite. -/
import Derived.Test.YtmacepicoandkaaGreatDoorProg
import Derived.BigQuiet
import Derived.Deep.QuietTactic
import Derived.Deep.RegionLaw
import Derived.Deep.AppendLies
import Derived.StillTailTactics
import Derived.Test.YtmacepicoandkaaGreatDoorJ15
set_option linter.unusedVariables false
set_option linter.unusedSimpArgs false
namespace Go.Proofs.YtmacepicoandkaaGreatDoor
open Go.RowKit
theorem fieldsOf_eq {P:Program} {t:TypeId} {fs:Array Field} (h:P.underlying t=some (.struct fs)):P.fieldsOf t=fs:=by unfold Program.fieldsOf;rw[h]
theorem chkNode (b:Bool) (x:Nat×Nat×Nat) (w:World):(Instr.checkKey b 10000 100 (tri x)).run Tryz.prog w=.ok () w:=by kernel_rfl
theorem chkTriple (b:Bool) (x:Nat×Nat×Nat) (w:World):(Instr.checkKey b 10000 142 (tri x)).run Tryz.prog w=.ok () w:=by kernel_rfl
theorem stoodNode:Tryz.prog.stoodInHeld 100=false:=by kernel_rfl
theorem stoodTriple:Tryz.prog.stoodInHeld 142=false:=by kernel_rfl
theorem part0 (z u v:Value) (w:World):(part 3 #[z,u,v] 0).run Tryz.prog w=.ok z w:=by kernel_rfl
theorem part1 (z u v:Value) (w:World):(part 3 #[z,u,v] 1).run Tryz.prog w=.ok u w:=by kernel_rfl
theorem part2 (z u v:Value) (w:World):(part 3 #[z,u,v] 2).run Tryz.prog w=.ok v w:=by kernel_rfl
theorem eqNode (x y:Nat×Nat×Nat) (w:World):(Op.equal 100 (tri x) (tri y)).run Tryz.prog w=.ok (decide (x=y)) w:=by
 obtain⟨a,b,c⟩:=x
 obtain⟨a',b',c'⟩:=y
 have hu:=Tryz.underlying100
 have hf:=fieldsOf_eq Tryz.underlying100
 have hi:∀ (d:Nat) (p q:Int),(Op.equalIn (d+1) 3 (.int .i64 p) (.int .i64 q)).run Tryz.prog w=.ok (p==q) w:=fun d p q=>run_equalIn_int w d _ _ _ p q Tryz.underlying3
 unfold Op.equal Op.maxDepth tri
 rw[run_equalIn_agg w 9999 _ _ _ (by rw[hf];exact hu) stoodNode,hf]
 simp only[Op.eqFields]
 by_cases h1:a=a' <;> by_cases h2:b=b' <;> by_cases h3:c=c' <;> simp[hi,part0,part1,part2,h1,h2,h3,Result.andThen] <;> (intros;omega)
theorem eqTriple (x y:Nat×Nat×Nat) (w:World):(Op.equal 142 (tri x) (tri y)).run Tryz.prog w=.ok (decide (x=y)) w:=by
 obtain⟨a,b,c⟩:=x
 obtain⟨a',b',c'⟩:=y
 have hu:=Tryz.underlying142
 have hf:=fieldsOf_eq Tryz.underlying142
 have hi:∀ (d:Nat) (p q:Int),(Op.equalIn (d+1) 3 (.int .i64 p) (.int .i64 q)).run Tryz.prog w=.ok (p==q) w:=fun d p q=>run_equalIn_int w d _ _ _ p q Tryz.underlying3
 unfold Op.equal Op.maxDepth tri
 rw[run_equalIn_agg w 9999 _ _ _ (by rw[hf];exact hu) stoodTriple,hf]
 simp only[Op.eqFields]
 by_cases h1:a=a' <;> by_cases h2:b=b' <;> by_cases h3:c=c' <;> simp[hi,part0,part1,part2,h1,h2,h3,Result.andThen] <;> (intros;omega)
theorem keyNode:KeyLaw' Tryz.prog 100 tri:=keyLaw_tri Tryz.underlying100 (_i:=default) chkNode eqNode
theorem keyTriple:KeyLaw' Tryz.prog 142 tri:=keyLaw_tri Tryz.underlying142 (_i:=default) chkTriple eqTriple
theorem zeroInt (w:World):(zeroValue 3).run Tryz.prog w=.ok (.int .i64 0) w:=by kernel_rfl
structure St where
 sb:Nat
 nb:Nat
 mb:Nat
 ib:Nat
 vars:Nat
 budget:Nat
 cap:Nat
 ns:List Dd.Nd
 ites:List (Dd.Nd×Nat)
def vInt (n:Nat):Value:=.int .i64 n
def flat:List Dd.Nd→List Value
 | []=>[]
 | x :: r=>.int .i64 x.1 :: .int .i64 x.2.1 :: .int .i64 x.2.2 :: flat r
theorem flat_append:∀ l r:List Dd.Nd,flat (l++r)=flat l++flat r
 | [],_=>rfl
 | x :: l,r=>by simp[flat,flat_append l r]
theorem flat_get:∀ (l:List Dd.Nd) (f:Nat),f<l.length→(flat l)[3 * f]?=some (.int .i64 (l.getD f (0,0,0)).1)∧(flat l)[3 * f+1]?=some (.int .i64 (l.getD f (0,0,0)).2.1)∧(flat l)[3 * f+2]?=some (.int .i64 (l.getD f (0,0,0)).2.2)
 | [],f,h=>by simp at h
 | x :: r,0,_=>by simp[flat]
 | x :: r,f+1,h=>by
  have:=flat_get r f (by simpa using h)
  have e:3 * (f+1)=3 * f+1+1+1:=by omega
  rw[e]
  simpa [flat] using this
def numbering (ns:List Dd.Nd):List (Dd.Nd×Nat):=(ns.drop 2).zipIdx 2
def St.bl (s:St) (k:Nat):Prop:=k=s.sb∨k=s.nb∨k=s.mb∨k=s.ib
structure StoreAt (w:World) (s:St):Prop where
 cells:w.heap[s.sb]?=some (.cells #[.int .i64 s.vars,.int .i64 s.budget,.slice (some ⟨s.nb,0,none⟩) s.ns.length s.cap,.map (some s.mb),.map (some s.ib)] 105 (0,0))
 own:w.ownsRow 0 100 3 (.slice (some ⟨s.nb,0,none⟩) s.ns.length s.cap) s.ns.length (flat s.ns)
 numbers:MapIs tri vInt w s.mb (numbering s.ns)
 ites:MapIs tri vInt w s.ib s.ites
 apart:s.sb≠s.nb∧s.sb≠s.mb∧s.sb≠s.ib∧s.nb≠s.mb∧s.nb≠s.ib∧s.mb≠s.ib
 wf:Dd.WF s.vars s.ns
 small:s.vars≤30
 room:s.ns.length≤s.budget
 most:s.budget≤10000
 memo:∀ x n,(x,n)∈s.ites→x.1<s.ns.length∧x.2.1<s.ns.length∧x.2.2<s.ns.length∧n<s.ns.length∧min (Dd.T s.ns x.1) (min (Dd.T s.ns x.2.1) (Dd.T s.ns x.2.2))≤Dd.T s.ns n ∧
  ∀ env,Dd.den s.ns env n=if Dd.den s.ns env x.1 then Dd.den s.ns env x.2.1 else Dd.den s.ns env x.2.2
section
variable {w : World} {s : St} (h : StoreAt w s)
include h
theorem StoreAt.c0:w.cell? ⟨s.sb,0,none⟩=some (.int .i64 s.vars):=by simp[World.cell?,h.cells]
theorem StoreAt.c1:w.cell? ⟨s.sb,1,none⟩=some (.int .i64 s.budget):=by simp[World.cell?,h.cells]
theorem StoreAt.c2:w.cell? ⟨s.sb,2,none⟩=some (.slice (some ⟨s.nb,0,none⟩) s.ns.length s.cap):=by simp[World.cell?,h.cells]
theorem StoreAt.c3:w.cell? ⟨s.sb,3,none⟩=some (.map (some s.mb)):=by simp[World.cell?,h.cells]
theorem StoreAt.c4:w.cell? ⟨s.sb,4,none⟩=some (.map (some s.ib)):=by simp[World.cell?,h.cells]
theorem StoreAt.f2:w.frozen? ⟨s.sb,2,none⟩=false:=by simp[World.frozen?,h.cells]
theorem StoreAt.n0 {f:Nat} (hf:f<s.ns.length):w.cell? ⟨s.nb,f * 3,none⟩=some (.int .i64 (Dd.T s.ns f)):=by
 rw[World.ownsRow.cellAt h.own _ (by omega),Nat.mul_comm];exact (flat_get _ _ hf).1
theorem StoreAt.n1 {f:Nat} (hf:f<s.ns.length):w.cell? ⟨s.nb,f * 3+1,none⟩=some (.int .i64 (Dd.L s.ns f)):=by
 rw[World.ownsRow.cellAt h.own _ (by omega),Nat.mul_comm];exact (flat_get _ _ hf).2.1
theorem StoreAt.n2 {f:Nat} (hf:f<s.ns.length):w.cell? ⟨s.nb,f * 3+2,none⟩=some (.int .i64 (Dd.H s.ns f)):=by
 rw[World.ownsRow.cellAt h.own _ (by omega),Nat.mul_comm];exact (flat_get _ _ hf).2.2
theorem StoreAt.lt {k:Nat} (hk:s.bl k):k<w.heap.size:=by
 rcases hk with rfl | rfl | rfl | rfl
 ·exact (Array.getElem?_eq_some_iff.1 h.cells).1
 ·exact (h.own.lt _ rfl).2
 ·exact h.numbers.lt
 ·exact h.ites.lt
theorem StoreAt.len:s.ns.length≤10000:=Nat.le_trans h.room h.most
theorem StoreAt.kept {w':World} (hk:∀ k,s.bl k→w'.heap[k]?=w.heap[k]?):StoreAt w' s:=by
 refine⟨(hk _ (Or.inl rfl)).trans h.cells,?_,h.numbers.of_block (hk _ (Or.inr (Or.inr (Or.inl rfl)))),h.ites.of_block (hk _ (Or.inr (Or.inr (Or.inr rfl)))),h.apart,h.wf,h.small,h.room,h.most,h.memo⟩
 obtain⟨h1,h2⟩:=h.own
 refine⟨h1,?_⟩
 rcases h2 with h2 | ⟨g,cap,cur,hv,hg,hh,r⟩
 ·exact Or.inl h2
 ·refine Or.inr ⟨g,cap,cur,hv,hg,?_,r⟩
  have e:g=s.nb:=by simp at hv;exact hv.1.symm
  rw[e] at hh ⊢
  rw[hk _ (Or.inr (Or.inl rfl))];exact hh
theorem StoreAt.below {w':World} (hb:Below w.heap.size w w'):StoreAt w' s:=h.kept fun k hk=>hb.block k (h.lt hk)
theorem StoreAt.fr {S:Nat→Prop} {w':World} (hb:Fr S w w') (hn:∀ k,s.bl k→¬ S k):StoreAt w' s:=h.kept fun k hk=>hb.block k (h.lt hk) (hn k hk)
end
theorem look_zipIdx (x:Dd.Nd):∀ (l:List Dd.Nd) (k f:Nat),look x (l.zipIdx k)=some f→k≤f∧l[f - k]?=some x
 | [],k,f,h=>by simp[look] at h
 | y :: r,k,f,h=>by
  rw[List.zipIdx_cons,look] at h
  split at h
  ·rename_i e;simp at h e;subst e;subst h;simp
  ·have:=look_zipIdx x r (k+1) f h
   refine⟨by omega,?_⟩
   have e:f - k=(f - (k+1))+1:=by omega
   rw[e];simpa using this.2
theorem look_zipIdx_none (x:Dd.Nd):∀ (l:List Dd.Nd) (k:Nat),look x (l.zipIdx k)=none→x ∉ l
 | [],k,h=>by simp
 | y :: r,k,h=>by
  rw[List.zipIdx_cons,look] at h
  split at h
  ·cases h
  ·rename_i e
   have:=look_zipIdx_none x r (k+1) h
   simp at e
   simp;exact⟨fun q=>e q.symm,this⟩
theorem numbering_some {ns:List Dd.Nd} {x:Dd.Nd} {f:Nat} (h:look x (numbering ns)=some f):2≤f∧f<ns.length∧ns.getD f (0,0,0)=x:=by
 obtain⟨h1,h2⟩:=look_zipIdx x _ _ _ h
 rw[List.getElem?_drop] at h2
 have e:2+(f - 2)=f:=by omega
 rw[e] at h2
 exact⟨h1,(List.getElem?_eq_some_iff.1 h2).1,by simp[List.getD,h2]⟩
theorem numbering_none {ns:List Dd.Nd} {x:Dd.Nd} (h:look x (numbering ns)=none):∀ f,2≤f→f<ns.length→ns.getD f (0,0,0)≠x:=by
 intro f h2 hf e
 have:=look_zipIdx_none x _ _ h
 apply this
 rw[List.mem_iff_getElem?]
 refine⟨f - 2,?_⟩
 rw[List.getElem?_drop]
 have e2:2+(f - 2)=f:=by omega
 rw[e2,List.getElem?_eq_getElem hf]
 simp[List.getD,hf] at e
 rw[e]
theorem numbering_push {ns:List Dd.Nd} (h:2≤ns.length) (x:Dd.Nd) (hn:look x (numbering ns)=none):putAt x ns.length (numbering ns)=numbering (ns++[x]):=by
 have hno:x ∉ (numbering ns).map (·.1):=by
  intro hm
  rw[List.mem_map] at hm
  obtain⟨p,hp,rfl⟩:=hm
  have:=look_zipIdx_none p.1 _ _ hn
  exact this ((List.mem_zipIdx hp).2.2 ▸ List.getElem_mem _)
 rw[putAt_none _ _ _ hno]
 unfold numbering
 rw[List.drop_append_of_le_length h,List.zipIdx_append]
 simp;omega
structure More (w:World) (s s':St):Prop where
 sb:s'.sb=s.sb
 mb:s'.mb=s.mb
 ib:s'.ib=s.ib
 nb:s'.nb=s.nb∨w.heap.size≤s'.nb
 vars:s'.vars=s.vars
 budget:s'.budget=s.budget
 ns:∃ xs,s'.ns=s.ns++xs
theorem More.refl (w:World) (s:St):More w s s:=⟨rfl,rfl,rfl,Or.inl rfl,rfl,rfl,[],by simp⟩
theorem More.trans {w w':World} {s s' s'':St} (h:More w s s') (k:More w' s' s'') (hw:w.heap.size≤w'.heap.size):More w s s'':=by
 refine⟨k.sb.trans h.sb,k.mb.trans h.mb,k.ib.trans h.ib,?_,k.vars.trans h.vars,k.budget.trans h.budget,?_⟩
 ·rcases k.nb with e | e
  ·rw[e];exact h.nb
  ·exact Or.inr (by omega)
 ·obtain⟨xs,hx⟩:=h.ns
  obtain⟨ys,hy⟩:=k.ns
  exact⟨xs++ys,by rw[hy,hx,List.append_assoc]⟩
theorem More.bl {w:World} {s s':St} (h:More w s s'):∀ k,k<w.heap.size→s'.bl k→s.bl k:=by
 intro k hk hb
 rcases hb with rfl | rfl | rfl | rfl
 ·rw[h.sb];exact Or.inl rfl
 ·rcases h.nb with e | e
  ·rw[e];exact Or.inr (Or.inl rfl)
  ·omega
 ·rw[h.mb];exact Or.inr (Or.inr (Or.inl rfl))
 ·rw[h.ib];exact Or.inr (Or.inr (Or.inr rfl))
theorem More.len {w:World} {s s':St} (h:More w s s'):s.ns.length≤s'.ns.length:=by
 obtain⟨xs,hx⟩:=h.ns;rw[hx];simp
theorem More.T {w:World} {s s':St} (h:More w s s') {f:Nat} (hf:f<s.ns.length):Dd.T s'.ns f=Dd.T s.ns f:=by
 obtain⟨xs,hx⟩:=h.ns;rw[hx];exact Dd.T_app hf
theorem More.half {w:World} {s s':St} (h:More w s s') {f t:Nat} {b:Bool} (hf:f<s.ns.length):Dd.half s'.ns f t b=Dd.half s.ns f t b:=by
 obtain⟨xs,hx⟩:=h.ns;rw[hx];exact Dd.half_app hf
theorem More.den {w w1 w2:World} {s s':St} (h:More w s s') (h1:StoreAt w1 s) (h2:StoreAt w2 s') (env:Nat→Bool) {f:Nat} (hf:f<s.ns.length):Dd.den s'.ns env f=Dd.den s.ns env f:=by
 obtain⟨xs,hx⟩:=h.ns
 have:=h2.wf
 rw[hx,h.vars] at this
 rw[hx];exact Dd.den_app h1.wf this env f hf
end Go.Proofs.YtmacepicoandkaaGreatDoor
namespace Go.Proofs.YtmacepicoandkaaGreatDoor
open Go.RowKit
set_option maxRecDepth 20000
set_option maxHeartbeats 400000 in
theorem half_any (w:World) (s:St) (h:StoreAt w s) (f t:Nat) (b:Bool) (hf:f<s.ns.length) :
  Calls Tryz.prog 83 #[.pointer (some ⟨s.sb,0,none⟩),.int .i64 f,.int .i64 t,.bool b] w fun e w'=>e=.returned (.int .i64 (Dd.half s.ns f t b))∧Below w.heap.size w w':=by
 have hlen:=h.len
 have c2:=h.c2
 have n0:=h.n0 hf
 have n1:=h.n1 hf
 have n2:=h.n2 hf
 by_cases e:Dd.T s.ns f=t
 ·cases b
  ·go_enter Tryz.func83,Tryz.ntmps83
   go_wp2
   go_ret
   exact⟨by simp[Dd.half,e],(Below.refl _ _).alloc (Nat.le_refl _) _⟩
  ·go_enter Tryz.func83,Tryz.ntmps83
   go_wp2
   go_ret
   exact⟨by simp[Dd.half,e],(Below.refl _ _).alloc (Nat.le_refl _) _⟩
 ·have e':((Dd.T s.ns f:Int)==(t:Int))=false:=by simp;omega
  go_enter Tryz.func83,Tryz.ntmps83
  go_wp2
  go_ret
  exact⟨by simp[Dd.half,e],(Below.refl _ _).alloc (Nat.le_refl _) _⟩
def SlInts (w:World) (v:Value) (l:List Int):Prop :=
 (v=.slice none 0 0∧l=[])∨∃ b o c,v=.slice (some ⟨b,o,none⟩) l.length c∧l.length≤1000∧∀ i,i<l.length→w.cell? ⟨b,o+i,none⟩=some (.int .i64 (l.getD i 0))
def okIn (n:Nat) (l:List Int):Bool:=l.all fun f=>decide (0≤f∧f<n)
theorem okIn_take (n:Nat) (l:List Int) (k:Nat) (hk:k<l.length) (h:okIn n (l.take k)=true):okIn n (l.take (k+1))=decide (0≤l.getD k 0∧l.getD k 0<n):=by
 unfold okIn at *
 rw[List.take_succ_eq_append_getElem hk,List.all_append,h]
 simp[List.getD,hk]
theorem okIn_no (n:Nat) (l:List Int) (k:Nat) (h:okIn n (l.take k)=false):okIn n l=false:=by
 unfold okIn at *
 rw[List.all_eq_false] at *
 obtain⟨x,hx,hn⟩:=h
 exact⟨x,List.mem_of_mem_take hx,hn⟩
set_option maxHeartbeats 400000 in
theorem are_any (w:World) (s:St) (h:StoreAt w s) (v:Value) (l:List Int) (hl:SlInts w v l) :
  Calls Tryz.prog 56 #[.pointer (some ⟨s.sb,0,none⟩),v] w fun e w'=>e=.returned (.bool (okIn s.ns.length l))∧w'=w:=by
 have hlen:=h.len
 have c2:=h.c2
 rcases hl with ⟨rfl,rfl⟩ | ⟨b,o,c,rfl,hm,hc⟩
 ·go_enter Tryz.func56,Tryz.ntmps56
  go_wp2
  go_loop [6,9] (fun _ i=>i=.int .i64 0) (fun _ i=>0)
  case atStart=>rfl
  case round =>
   subst hrel
   go_wp2
   go_ret
   exact⟨rfl,rfl⟩
 ·go_enter Tryz.func56,Tryz.ntmps56
  go_wp2
  go_loop [6,9] (fun _ i=>∃ k:Nat,k≤l.length∧i=.int .i64 k∧okIn s.ns.length (l.take k)=true) (fun _ i=>l.length - (intOf i).toNat)
  case atStart=>exact⟨0,Nat.zero_le _,rfl,rfl⟩
  case round =>
   obtain⟨k,hk,rfl,hok⟩:=hrel
   by_cases hlt:k<l.length
   ·have hck:=hc k hlt
    have hnx:=okIn_take _ l k hlt hok
    have HN:=okIn_no s.ns.length l (k+1)
    obtain⟨x,hx⟩ : ∃ x,x=l.getD k 0:=⟨_,rfl⟩
    rw[← hx] at hck hnx
    have HX:Hid (okIn s.ns.length (l.take (k+1))=decide (0≤x∧x<s.ns.length)):=hnx
    have HNN:Hid (okIn s.ns.length (l.take (k+1))=false→okIn s.ns.length l=false):=HN
    clear hx hnx HN hc hok
    by_cases h0:x<0
    ·go_wp2
     go_ret
     exact⟨by rw[HNN.out (by rw[HX.out];simp;omega)];rfl,rfl⟩
    ·by_cases h1:x<s.ns.length
     ·go_wp2
      go_round
      case rel=>exact⟨k+1,by omega,by go_num,by rw[HX.out];simp;omega⟩
      case measure=>simp[intOf];omega
     ·go_wp2
      go_ret
      exact⟨by rw[HNN.out (by rw[HX.out];simp;omega)];rfl,rfl⟩
   ·have:k=l.length:=by omega
    subst this
    rw[List.take_length] at hok
    have HX:Hid (okIn s.ns.length l=true):=hok
    clear hok
    go_wp2
    go_ret
    exact⟨by rw[HX.out];rfl,rfl⟩
end Go.Proofs.YtmacepicoandkaaGreatDoor
namespace Go.Proofs.YtmacepicoandkaaGreatDoor
open Go.RowKit
set_option maxRecDepth 20000
theorem infoNode:(Tryz.prog.info? 100).map (fun i=>(i.zero,i.size,i.bytes))=some (some (.agg #[.int .i64 0,.int .i64 0,.int .i64 0]),3,24):=by kernel_rfl
structure Mid (w:World) (s:St) (W:World) (x:Dd.Nd) (g cap:Nat):Prop where
 cells:W.heap[s.sb]?=some (.cells #[.int .i64 s.vars,.int .i64 s.budget,.slice (some ⟨g,0,none⟩) (s.ns.length+1) cap,.map (some s.mb),.map (some s.ib)] 105 (0,0))
 own:W.ownsRow 0 100 3 (.slice (some ⟨g,0,none⟩) (s.ns.length+1) cap) (s.ns.length+1) (flat (s.ns++[x]))
 numbers:MapIs tri vInt W s.mb (numbering s.ns)
 ites:MapIs tri vInt W s.ib s.ites
 gat:g=s.nb∨w.heap.size≤g
 fr:Fr s.bl w W
 key:W.heap[w.heap.size]?=some (.cells #[.int .i64 x.1,.int .i64 x.2.1,.int .i64 x.2.2] 100 (0,0))
theorem Mid.mk' {w:World} {s:St} (h:StoreAt w s) {x:Dd.Nd} {o:Obj} {W w1:World} {g cap:Nat}
  (hW:W.heap=((w.alloc (.cells #[.int .i64 x.1,.int .i64 x.2.1,.int .i64 x.2.2] 100)).alloc o).heap) (hWt:W.tape=w.tape) (hWo:W.os=w.os) (hWp:W.output=w.output)
  (hown:w1.ownsRow 0 100 3 (.slice (some ⟨g,0,none⟩) (s.ns.length+1) cap) (s.ns.length+1) (flat s.ns++[.int .i64 x.1,.int .i64 x.2.1,.int .i64 x.2.2]))
  (hgrow:W.grownBy w1 (some s.nb)) (hat:some s.nb=some g∨w.heap.size+1≤g) :
  Mid w s (w1.setCell ⟨s.sb,2,none⟩ (.slice (some ⟨g,0,none⟩) (s.ns.length+1) cap)) x g cap:=by
 have hsize:W.heap.size=w.heap.size+2:=by rw[hW];show ((w.heap.push _).push _).size=_;simp
 obtain⟨a1,a2,a3,a4,a5,a6⟩:=h.apart
 have l1:=h.lt (Or.inl rfl)
 have l2:=h.lt (Or.inr (Or.inl rfl))
 have l3:=h.lt (Or.inr (Or.inr (Or.inl rfl)))
 have l4:=h.lt (Or.inr (Or.inr (Or.inr rfl)))
 have hold:∀ k,k<w.heap.size→W.heap[k]?=w.heap[k]?:=fun k hk=>by
  rw[hW,Below.heap_alloc _ _ _ (by show k<(w.heap.push _).size;simp;omega),Below.heap_alloc _ _ _ hk]
 have hk1:∀ k,k<w.heap.size→k≠s.nb→w1.heap[k]?=w.heap[k]?:=fun k hk hn=>by
  rw[hgrow.block k (by omega) (by simpa using hn),hold k hk]
 have hk2:∀ k,k<w.heap.size→k≠s.nb→k≠s.sb→(w1.setCell ⟨s.sb,2,none⟩ (.slice (some ⟨g,0,none⟩) (s.ns.length+1) cap)).heap[k]?=w.heap[k]?:=fun k hk hn hs=>by
  rw[Below.heap_setCell _ _ _ _ (by simpa using hs),hk1 k hk hn]
 have hgne:g≠s.sb:=by
  rcases hat with e | e
  ·simp at e;omega
  ·omega
 refine⟨?_,?_,h.numbers.of_block (hk2 _ l3 (fun e=>a4 e.symm) (fun e=>a2 e.symm)),h.ites.of_block (hk2 _ l4 (fun e=>a5 e.symm) (fun e=>a3 e.symm)),?_,?_,?_⟩
 ·have:=hk1 s.sb l1 a1
  rw[h.cells] at this
  simp only[World.setCell,Array.getElem?_modify,this,if_true]
  simp
 ·rw[flat_append]
  have:=ownsRow_setCell_other hown (a:=⟨s.sb,2,none⟩) (by simp[Value.ownBlock];exact hgne) (.slice (some ⟨g,0,none⟩) (s.ns.length+1) cap)
  simpa [flat] using this
 ·rcases hat with e | e
  ·simp at e;exact Or.inl e.symm
  ·exact Or.inr (by omega)
 ·refine⟨?_,?_,?_,?_,?_⟩
  ·exact hgrow.os.trans hWo
  ·exact hgrow.tape.trans hWt
  ·exact hgrow.output.trans hWp
  ·have:=hgrow.size;simp[World.setCell];omega
  ·intro k hk hn
   exact hk2 k hk (fun e=>hn (Or.inr (Or.inl e))) (fun e=>hn (Or.inl e))
 ·rw[Below.heap_setCell _ _ _ _ (by simp;omega),hgrow.block _ (by omega) (by simp;omega),hW,Below.heap_alloc _ _ _ (by show _<(w.heap.push _).size;simp)]
  exact heap_alloc_new w _
def St.pushed (s:St) (x:Dd.Nd) (g cap:Nat):St:={ s with nb:=g,cap:=cap,ns:=s.ns++[x] }
theorem Mid.done {w W w3:World} {s:St} {x:Dd.Nd} {g cap:Nat} (h:StoreAt w s) (M:Mid w s W x g cap) (hl:x.2.1<s.ns.length) (hh:x.2.2<s.ns.length) (ht:x.1<s.vars) (htl:x.1<Dd.T s.ns x.2.1) (hth:x.1<Dd.T s.ns x.2.2)
  (e:x.2.1≠x.2.2) (hq:look x (numbering s.ns)=none) (hroom:s.ns.length<s.budget)
  (hm:MapIs tri vInt w3 s.mb (putAt x s.ns.length (numbering s.ns))) (hg:W.grownBy w3 (some s.mb)) :
  StoreAt w3 (s.pushed x g cap)∧More w s (s.pushed x g cap)∧Fr s.bl w w3:=by
 obtain⟨a1,a2,a3,a4,a5,a6⟩:=h.apart
 have l1:=h.lt (Or.inl rfl)
 have l2:=h.lt (Or.inr (Or.inl rfl))
 have l3:=h.lt (Or.inr (Or.inr (Or.inl rfl)))
 have l4:=h.lt (Or.inr (Or.inr (Or.inr rfl)))
 have hsz:=M.fr.size
 have hgm:g≠s.sb∧g≠s.mb∧g≠s.ib:=by
  rcases M.gat with e | e
  ·subst e;exact⟨fun q=>a1 q.symm,a4,a5⟩
  ·omega
 have W':Dd.WF s.vars (s.ns++[x]):=Dd.WF_push h.wf hl hh e ht htl hth (numbering_none hq)
 have hk:∀ k,k<W.heap.size→k≠s.mb→w3.heap[k]?=W.heap[k]?:=fun k hk hn=>hg.block k hk (by simpa using hn)
 refine⟨⟨?_,?_,?_,?_,?_,W',h.small,?_,h.most,?_⟩,⟨rfl,rfl,rfl,M.gat,rfl,rfl,[x],rfl⟩,?_⟩
 ·show w3.heap[s.sb]?=_
  rw[hk _ (by omega) a2,M.cells];simp[St.pushed]
 ·have:=M.own.kept hg (Or.inr (by simp[Value.ownBlock];exact hgm.2.1))
  simpa [St.pushed] using this
 ·show MapIs tri vInt w3 s.mb (numbering (s.ns++[x]))
  rw[← numbering_push h.wf.two x hq];exact hm
 ·exact M.ites.of_block (hk _ M.ites.lt (fun q=>a6 q.symm))
 ·exact⟨fun q=>hgm.1 q.symm,a2,a3,hgm.2.1,hgm.2.2,a6⟩
 ·simp[St.pushed];omega
 ·intro y n hy
  obtain⟨b1,b2,b3,b4,b5,b6⟩:=h.memo y n hy
  simp only[St.pushed,List.length_append,List.length_singleton]
  rw[Dd.T_app b1,Dd.T_app b2,Dd.T_app b3,Dd.T_app b4]
  refine⟨by omega,by omega,by omega,by omega,b5,fun env=>?_⟩
  show Dd.den (s.ns++[x]) env n=if Dd.den (s.ns++[x]) env y.1=true then Dd.den (s.ns++[x]) env y.2.1 else Dd.den (s.ns++[x]) env y.2.2
  rw[Dd.den_app h.wf W' env _ b1,Dd.den_app h.wf W' env _ b2,Dd.den_app h.wf W' env _ b3,Dd.den_app h.wf W' env _ b4]
  exact b6 env
 ·refine M.fr.trans (S':=s.bl) ⟨hg.os,hg.tape,hg.output,hg.size,fun k hk' hn=>hk k hk' (fun q=>hn (Or.inr (Or.inr (Or.inl q))))⟩ (fun _ _ q=>q)
theorem step_push {ops:Array Oper} {o:Oper} {a:Act} {K:Act→World→Prop} {Q:Exit→Act→World→Prop} {E:Prop} {W:World} {s:St} {x:Dd.Nd}
  (hgd:o.guard=none) (p q:Operand) (ho:o.op=.call { callee:=.builtin .append,args:=#[p,q],argTypes:=#[101,101] })
  (hp:a.eval p=.slice (some ⟨s.nb,0,none⟩) s.ns.length s.cap) (hq:a.eval q=.slice (some ⟨W.heap.size,0,none⟩) 1 1)
  (hown:W.ownsRow 0 100 3 (.slice (some ⟨s.nb,0,none⟩) s.ns.length s.cap) s.ns.length (flat s.ns)) (hlen:s.ns.length≤10000)
  (hne:s.sb≠s.nb) (hlt:s.sb<W.heap.size) (hc2:W.cell? ⟨s.sb,2,none⟩=some (.slice (some ⟨s.nb,0,none⟩) s.ns.length s.cap)) (hf2:W.frozen? ⟨s.sb,2,none⟩=false)
  (hK:∀ g cap w1,w1.ownsRow 0 100 3 (.slice (some ⟨g,0,none⟩) (s.ns.length+1) cap) (s.ns.length+1) (flat s.ns++[.int .i64 x.1,.int .i64 x.2.1,.int .i64 x.2.2]) →
   ((W.alloc (.cells #[.int .i64 x.1,.int .i64 x.2.1,.int .i64 x.2.2] 100)).drew).grownBy w1 (some s.nb)→(some s.nb=some g∨g=W.heap.size+1)→w1.cell? ⟨s.sb,2,none⟩=some (.slice (some ⟨s.nb,0,none⟩) s.ns.length s.cap)→w1.frozen? ⟨s.sb,2,none⟩=false→K (a.put o.dst (.slice (some ⟨g,0,none⟩) (s.ns.length+1) cap)) w1) :
  if Region.wanted o (yielded ops a.tmps)=true then Oper.wp Tryz.prog o a ((W.alloc (.cells #[.int .i64 x.1,.int .i64 x.2.1,.int .i64 x.2.2] 100)).drew) K Q else E:=by
 obtain⟨i0,hi,hz0,hz1,hz2⟩:=info_parts infoNode
 refine step_append_lies _ hgd p q 101 ho 0 100 i0 _ 3 24 Tryz.underlying101 hi hz0 hz1 hz2 rfl (by decide) _ _ _ hp ((hown.alloc _).drew) _ 1 1 [.int .i64 x.1,.int .i64 x.2.1,.int .i64 x.2.2] hq rfl
  (World.news_of_block (heap_alloc_new W _)) (by simp[Value.oneCell']) (by omega) (by unfold maxLen;omega) (by omega) (Nat.zero_le _) (W.heap.size+1) (by show (W.heap.push _).size=_;simp) ?_
 intro g cap w1 h1 h2 h3 _
 have hb:w1.heap[s.sb]?=W.heap[s.sb]?:=by
  rw[h2.block s.sb (by show s.sb<(W.heap.push _).size;simp;omega) (by simpa [Value.ownBlock] using hne)]
  exact Below.heap_alloc _ _ _ hlt
 exact hK g cap w1 h1 h2 h3 ((World.cell?_of_block hb).trans hc2) ((World.frozen?_of_block hb).trans hf2)
set_option maxHeartbeats 400000 in
theorem node_push (w:World) (s:St) (h:StoreAt w s) (t l g:Nat) (hl:l<s.ns.length) (hg:g<s.ns.length) (ht:t<s.vars) (htl:t<Dd.T s.ns l) (hth:t<Dd.T s.ns g)
  (e:l≠g) (hq:look (t,l,g) (numbering s.ns)=none) (hroom:s.ns.length<s.budget) :
  Calls Tryz.prog 82 #[.pointer (some ⟨s.sb,0,none⟩),.agg #[.int .i64 t,.int .i64 l,.int .i64 g]] w fun e w' =>
   ∃ g' cap',e=.returned (.tuple #[.int .i64 s.ns.length,.int .i64 0])∧StoreAt w' (s.pushed (t,l,g) g' cap')∧More w s (s.pushed (t,l,g) g' cap')∧Fr s.bl w w':=by
 have hlen:=h.len
 have hmost:=h.most
 have c1:=h.c1
 have c2:=h.c2
 have c3:=h.c3
 have hlt:s.sb<w.heap.size:=h.lt (Or.inl rfl)
 have e':((l:Int)==(g:Int))=false:=by simp;omega
 have hlk:∀ n,(Instr.lookup 102 (.map (some s.mb)) (.agg #[.int .i64 t,.int .i64 l,.int .i64 g]) true).run Tryz.prog ((w.alloc (.cells #[.int .i64 t,.int .i64 l,.int .i64 g] 100)).drewN n)=.ok (.tuple #[.int .i64 0,.bool false]) ((w.alloc (.cells #[.int .i64 t,.int .i64 l,.int .i64 g] 100)).drewN n):=by
  intro n
  have hm:MapIs tri vInt ((w.alloc (.cells #[.int .i64 t,.int .i64 l,.int .i64 g] 100)).drewN n) s.mb (numbering s.ns):=h.numbers.of_block (Below.heap_alloc _ _ _ h.numbers.lt)
  have:=hm.lookup keyNode Tryz.underlying102 zeroInt (t,l,g)
  rw[hq] at this
  exact this
 go_enter Tryz.func82,Tryz.ntmps82
 go_wp2
 go_quiet (fail)
 go_wp2
 go_quiet (fail)
 go_wp2
 obtain⟨i0,hi,hz0,hz1,hz2⟩:=info_parts infoNode
 generalize hW:((w.alloc (Obj.cells #[Value.int IntKind.i64 ↑t,Value.int IntKind.i64 ↑l,Value.int IntKind.i64 ↑g] 100)).drewN _).drewN _=W
 have hown:W.ownsRow 0 100 3 (.slice (some ⟨s.nb,0,none⟩) s.ns.length s.cap) s.ns.length (flat s.ns):=by
  rw[← hW];exact ((h.own.alloc _))
 have hc2:W.cell? ⟨s.sb,2,none⟩=some (.slice (some ⟨s.nb,0,none⟩) s.ns.length s.cap):=by
  rw[← hW];exact (h.below ((Below.refl _ _).alloc (Nat.le_refl _) _)).c2
 have hf2:W.frozen? ⟨s.sb,2,none⟩=false:=by
  rw[← hW];exact (h.below ((Below.refl _ _).alloc (Nat.le_refl _) _)).f2
 have hne:s.sb≠s.nb:=h.apart.1
 have hlt':s.sb<W.heap.size:=by rw[← hW];show s.sb<(w.heap.push _).size;simp;omega
 have hkb:W.heap[w.heap.size]?=some (.cells #[Value.int IntKind.i64 ↑t,Value.int IntKind.i64 ↑l,Value.int IntKind.i64 ↑g] 100 (0,0)):=by rw[← hW];exact heap_alloc_new w _
 have hk0:W.cell? ⟨w.heap.size,0,none⟩=some (.int .i64 t):=by simp[World.cell?,hkb]
 have hk1:W.cell? ⟨w.heap.size,1,none⟩=some (.int .i64 l):=by simp[World.cell?,hkb]
 have hk2:W.cell? ⟨w.heap.size,2,none⟩=some (.int .i64 g):=by simp[World.cell?,hkb]
 have hsz:W.heap.size=w.heap.size+1:=by rw[← hW];show (w.heap.push _).size=_;simp
 have HW:Hid (((w.alloc (Obj.cells #[Value.int IntKind.i64 ↑t,Value.int IntKind.i64 ↑l,Value.int IntKind.i64 ↑g] 100)).drewN _).drewN _=W):=hW
 clear hW c1 c2 c3 hlk
 have HS:Hid (W.heap.size=w.heap.size+1):=hsz
 clear hsz
 go_region_law (refine step_push rfl _ _ rfl (x:=(t,l,g)) rfl rfl hown hlen hne hlt' hc2 hf2 ?_;intro g' cap' w1 hown1 hgrow1 hat1 hc2' hf2')
 all_goals
  have M:=Mid.mk' h (x:=(t,l,g)) (by rw[← HW.out];rfl) (by rw[← HW.out];rfl) (by rw[← HW.out];rfl) (by rw[← HW.out];rfl) hown1 hgrow1 (hat1.imp id (fun q=>by have:=HS.out;omega))
  generalize hW2:w1.setCell _ _=W2 at M ⊢
  have d3:W2.cell? ⟨s.sb,3,none⟩=some (.map (some s.mb)):=by simp[World.cell?,M.cells]
  have d2:W2.cell? ⟨s.sb,2,none⟩=some (.slice (some ⟨g',0,none⟩) (s.ns.length+1) cap'):=by simp[World.cell?,M.cells]
  have k0:W2.cell? ⟨w.heap.size,0,none⟩=some (.int .i64 t):=by simp[World.cell?,M.key]
  have k1:W2.cell? ⟨w.heap.size,1,none⟩=some (.int .i64 l):=by simp[World.cell?,M.key]
  have k2:W2.cell? ⟨w.heap.size,2,none⟩=some (.int .i64 g):=by simp[World.cell?,M.key]
  clear hW2 hown1 hgrow1 hat1 hc2' hf2' hown hc2 hf2 hkb hk0 hk1 hk2 hlt' HW HS
  go_wp2
  go_still_tail 11,(by kernel_rfl)
  refine wpList_update_is rfl _ _ _ _ rfl keyNode Tryz.underlying102 M.numbers rfl (t,l,g) s.ns.length rfl (by simp[Act.eval,vInt];exact IntWalk.i64_in _ (by omega)) ?_
  intro w3 hm3 hg3
  obtain⟨hS,hM,hF⟩:=M.done h hl hg ht htl hth e hq hroom hm3 ⟨hg3.os,hg3.tape,hg3.output,hg3.size,hg3.block⟩
  clear d2 d3 k0 k1 k2
  have d2:w3.cell? ⟨s.sb,2,none⟩=some (.slice (some ⟨g',0,none⟩) (s.ns.length+1) cap'):=by have:=hS.c2;simpa [St.pushed] using this
  go_wp2
  go_ret2
  exact⟨g',cap',by simp,hS,hM,hF⟩
end Go.Proofs.YtmacepicoandkaaGreatDoor
namespace Go.Proofs.YtmacepicoandkaaGreatDoor
open Go.RowKit
set_option maxRecDepth 20000
def NodePost (w:World) (s:St) (t l g:Nat) (e:Ending) (w':World):Prop :=
 ∃ (r er:Nat) (s':St),e=.returned (.tuple #[.int .i64 r,.int .i64 er])∧StoreAt w' s'∧More w s s'∧Fr s.bl w w'∧s'.ns.length≤s.ns.length+1∧r<s'.ns.length ∧
  ((er=0∧t≤Dd.T s'.ns r∧∀ env,Dd.den s'.ns env r=if env t then Dd.den s.ns env g else Dd.den s.ns env l)∨(er=18∧r=0∧s.ns.length=s.budget))
set_option maxHeartbeats 400000 in
theorem node_same (w:World) (s:St) (_h:StoreAt w s) (t l:Nat) :
  Calls Tryz.prog 82 #[.pointer (some ⟨s.sb,0,none⟩),.agg #[.int .i64 t,.int .i64 l,.int .i64 l]] w fun e w'=>e=.returned (.tuple #[.int .i64 l,.int .i64 0])∧Below w.heap.size w w':=by
 go_enter Tryz.func82,Tryz.ntmps82
 go_wp2
 go_ret2
 exact⟨rfl,(Below.refl _ _).alloc (Nat.le_refl _) _⟩
set_option maxHeartbeats 400000 in
theorem node_hit (w:World) (s:St) (h:StoreAt w s) (t l g f:Nat) (e:l≠g) (hq:look (t,l,g) (numbering s.ns)=some f) :
  Calls Tryz.prog 82 #[.pointer (some ⟨s.sb,0,none⟩),.agg #[.int .i64 t,.int .i64 l,.int .i64 g]] w fun e w'=>e=.returned (.tuple #[.int .i64 f,.int .i64 0])∧Below w.heap.size w w':=by
 have c3:=h.c3
 have hlt:s.sb<w.heap.size:=h.lt (Or.inl rfl)
 have e':((l:Int)==(g:Int))=false:=by simp;omega
 have hlk:∀ n,(Instr.lookup 102 (.map (some s.mb)) (.agg #[.int .i64 t,.int .i64 l,.int .i64 g]) true).run Tryz.prog ((w.alloc (.cells #[.int .i64 t,.int .i64 l,.int .i64 g] 100)).drewN n)=.ok (.tuple #[.int .i64 f,.bool true]) ((w.alloc (.cells #[.int .i64 t,.int .i64 l,.int .i64 g] 100)).drewN n):=by
  intro n
  have hm:MapIs tri vInt ((w.alloc (.cells #[.int .i64 t,.int .i64 l,.int .i64 g] 100)).drewN n) s.mb (numbering s.ns):=h.numbers.of_block (Below.heap_alloc _ _ _ h.numbers.lt)
  have:=hm.lookup keyNode Tryz.underlying102 zeroInt (t,l,g)
  rw[hq] at this
  exact this
 go_enter Tryz.func82,Tryz.ntmps82
 go_wp2
 go_quiet (fail)
 go_wp2
 go_ret2
 exact⟨rfl,below_drewN ((Below.refl _ _).alloc (Nat.le_refl _) _) _⟩
set_option maxHeartbeats 400000 in
theorem node_full (w:World) (s:St) (h:StoreAt w s) (t l g:Nat) (e:l≠g) (hq:look (t,l,g) (numbering s.ns)=none) (hroom:s.ns.length=s.budget) :
  Calls Tryz.prog 82 #[.pointer (some ⟨s.sb,0,none⟩),.agg #[.int .i64 t,.int .i64 l,.int .i64 g]] w fun e w'=>e=.returned (.tuple #[.int .i64 0,.int .i64 18])∧Below w.heap.size w w':=by
 have c1:=h.c1
 have c2:=h.c2
 have c3:=h.c3
 have hlt:s.sb<w.heap.size:=h.lt (Or.inl rfl)
 have e':((l:Int)==(g:Int))=false:=by simp;omega
 have e2:((s.ns.length:Int)==(s.budget:Int))=true:=by simp;omega
 have hlk:∀ n,(Instr.lookup 102 (.map (some s.mb)) (.agg #[.int .i64 t,.int .i64 l,.int .i64 g]) true).run Tryz.prog ((w.alloc (.cells #[.int .i64 t,.int .i64 l,.int .i64 g] 100)).drewN n)=.ok (.tuple #[.int .i64 0,.bool false]) ((w.alloc (.cells #[.int .i64 t,.int .i64 l,.int .i64 g] 100)).drewN n):=by
  intro n
  have hm:MapIs tri vInt ((w.alloc (.cells #[.int .i64 t,.int .i64 l,.int .i64 g] 100)).drewN n) s.mb (numbering s.ns):=h.numbers.of_block (Below.heap_alloc _ _ _ h.numbers.lt)
  have:=hm.lookup keyNode Tryz.underlying102 zeroInt (t,l,g)
  rw[hq] at this
  exact this
 clear hroom
 go_enter Tryz.func82,Tryz.ntmps82
 go_wp2
 go_quiet (fail)
 go_wp2
 go_quiet (fail)
 go_wp2
 go_ret2
 exact⟨rfl,below_drewN (below_drewN ((Below.refl _ _).alloc (Nat.le_refl _) _) _) _⟩
theorem T_last (ns:List Dd.Nd) (x:Dd.Nd):Dd.T (ns++[x]) ns.length=x.1∧Dd.L (ns++[x]) ns.length=x.2.1∧Dd.H (ns++[x]) ns.length=x.2.2:=by
 simp[Dd.T,Dd.L,Dd.H,List.getD]
theorem node_any (w:World) (s:St) (h:StoreAt w s) (t l g:Nat) (hl:l<s.ns.length) (hg:g<s.ns.length) (ht:t<s.vars) (htl:t<Dd.T s.ns l) (hth:t<Dd.T s.ns g) :
  Calls Tryz.prog 82 #[.pointer (some ⟨s.sb,0,none⟩),.agg #[.int .i64 t,.int .i64 l,.int .i64 g]] w (NodePost w s t l g):=by
 by_cases e:l=g
 ·subst e
  refine (node_same w s h t l).mono ?_
  rintro _ w' ⟨rfl,hb⟩
  exact⟨l,0,s,rfl,h.below hb,More.refl _ _,Fr.of_below hb _,by omega,hl,Or.inl ⟨rfl,by omega,fun env=>by simp⟩⟩
 ·rcases hq:look (t,l,g) (numbering s.ns) with _ | f
  ·by_cases hroom:s.ns.length=s.budget
   ·refine (node_full w s h t l g e hq hroom).mono ?_
    rintro _ w' ⟨rfl,hb⟩
    exact⟨0,18,s,rfl,h.below hb,More.refl _ _,Fr.of_below hb _,by omega,by omega,Or.inr ⟨rfl,rfl,hroom⟩⟩
   ·refine (node_push w s h t l g hl hg ht htl hth e hq (by have:=h.room;omega)).mono ?_
    rintro _ w' ⟨g',cap',rfl,hS,hM,hF⟩
    have hW:=hS.wf
    have e1:=T_last s.ns (t,l,g)
    refine⟨s.ns.length,0,_,rfl,hS,hM,hF,by simp[St.pushed],by simp[St.pushed],Or.inl ⟨rfl,?_,fun env=>?_⟩⟩
    ·show t≤Dd.T (s.ns++[(t,l,g)]) s.ns.length
     rw[e1.1];exact Nat.le_refl _
    ·rw[Dd.den_step hW env h.wf.two (by simp[St.pushed])]
     rw[← hM.den h hS env hl,← hM.den h hS env hg]
     show (if env (Dd.T (s.ns++[(t,l,g)]) s.ns.length) then _ else _)=_
     rw[e1.1]
     show (if env t then Dd.den _ env (Dd.H (s.ns++[(t,l,g)]) s.ns.length) else Dd.den _ env (Dd.L (s.ns++[(t,l,g)]) s.ns.length))=_
     rw[e1.2.1,e1.2.2]
  ·obtain⟨h2,hf,hgd⟩:=numbering_some hq
   refine (node_hit w s h t l g f e hq).mono ?_
   rintro _ w' ⟨rfl,hb⟩
   have eT:Dd.T s.ns f=t:=by unfold Dd.T;rw[hgd]
   have eL:Dd.L s.ns f=l:=by unfold Dd.L;rw[hgd]
   have eH:Dd.H s.ns f=g:=by unfold Dd.H;rw[hgd]
   exact⟨f,0,s,rfl,h.below hb,More.refl _ _,Fr.of_below hb _,by omega,hf,Or.inl ⟨rfl,by omega,fun env=>by rw[Dd.den_step h.wf env h2 hf,eT,eL,eH]⟩⟩
end Go.Proofs.YtmacepicoandkaaGreatDoor
