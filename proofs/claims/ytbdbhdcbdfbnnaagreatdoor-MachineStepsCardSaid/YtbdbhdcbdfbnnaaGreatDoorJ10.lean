/- Machine: plain mathematics: what operators make of numbers; code that may be; a step. What lies in memory: slices apart from the blocks that turn; rows of numbers that are written. Machine: numbers: the walks. slices.Clone of numbers: the walk. (Printed.) -/
import Derived.Laws.OwnMore
import Derived.Lib.SliceRun
import Derived.Lib.Hide
import Derived.Lib.Walk
import Derived.Test.YtbdbhdcbdfbnnaaGreatDoorJ9
set_option linter.unusedVariables false
set_option linter.unusedSimpArgs false
namespace Go.Proofs.YtbdbhdcbdfbnnaaGreatDoor
open Go.RowKit
namespace Cx
def fits (n:Int):Bool:=decide (-2147483648≤n∧n≤2147483647)
def opsN (op:Int):Int:=if op=4∨op=5 then 1 else if 6≤op∧op≤18 then 2 else if op=26 then 3 else -1
def trI (b:Bool):Int:=if b then 1 else 0
def ovr (n:Int):Int×Int:=if fits n then (n,0) else (0,2)
def doV (op a b c:Int):Int×Int :=
 if op=4 then (trI (a==0),0) else if op=5 then ovr (-a) else if op=6 then (trI (a != 0&&b != 0),0) else if op=7 then (trI (a != 0 || b != 0),0)
 else if op=8 then (trI ((a != 0) != (b != 0)),0) else if op=9 then (trI (a==0 || b != 0),0) else if op=10 then (trI (a==b),0) else if op=11 then (trI (a != b),0)
 else if op=12 then (trI (decide (a<b)),0) else if op=13 then (trI (decide (a≤b)),0) else if op=14 then ovr (a+b) else if op=15 then ovr (a - b) else if op=16 then ovr (a * b)
 else if op=17 then (if b=0 then (0,3) else ovr (a.tdiv b)) else if op=18 then (if b=0 then (0,3) else (a.tmod b,0)) else if op=26 then (if a=0 then c else b,0) else (0,1)
def doS (op a b c:Int):Int×Int :=
 if fits a=true∧(opsN op > 1→fits b=true)∧(opsN op > 2→fits c=true) then doV op a b c else (0,1)
structure In where
 op:Int
 d:Int
 a:Int
 b:Int
 c:Int
 n:Int
structure Co where
 ins:List In
 regs:Int
 slots:Int
 outs:List Int
 inputs:List Int
def inL (x:In):List Value:=[.int .i64 x.op,.int .i64 x.d,.int .i64 x.a,.int .i64 x.b,.int .i64 x.c,.int .i64 x.n]
theorem inL_len (x:In):(inL x).length=6:=rfl
def readsN (op:Int):Int:=if op=3∨op=1∨op=2∨op=21 then 0 else if op=30 then 1 else if op=19 then 2 else opsN op
theorem opsN_cases (op:Int):(opsN op=1∧(op=4∨op=5))∨(opsN op=2∧6≤op∧op≤18)∨(opsN op=3∧op=26)∨opsN op = -1:=by
 unfold opsN
 split
 ·left;exact⟨rfl,by assumption⟩
 ·split
  ·right;left;exact⟨rfl,by assumption⟩
  ·split
   ·right;right;left;exact⟨rfl,by assumption⟩
   ·right;right;right;rfl
theorem readsN_le (op:Int) : -1≤readsN op∧readsN op≤3:=by
 unfold readsN
 have:=opsN_cases op
 repeat' split
 all_goals omega
def rds (x:In):List Int:=[x.a,x.b,x.c].take (readsN x.op).toNat
def restS (x:In):Bool:=decide (readsN x.op<1→x.a=0)&&decide (readsN x.op<2→x.b=0)&&decide (readsN x.op<3→x.c=0)&&decide (x.op=30→x.d=0)
def numS (slots:Int) (ins:Nat) (x:In):Bool :=
 if x.op=3 then decide (0≤x.n∧x.n<(ins:Int)) else if x.op=1 then fits x.n else if x.op=2 then decide (0≤x.n∧x.n≤1) else if x.op=21∨x.op=30 then decide (0≤x.n∧x.n<slots) else decide (x.n=0)
def plainS (slots:Int) (ins:Nat) (x:In):Bool:=decide (0≤readsN x.op)&&restS x&&numS slots ins x
def chk1 (regs slots:Int) (ins:Nat) (x:In) (s:List Int×List Int):Option (List Int×List Int) :=
 if plainS slots ins x=false then none else if (rds x).all (fun r=>decide (r∈s.1))=false then none
 else if x.op=30 then (if x.n∈s.2 then none else some (s.1,x.n :: s.2))
 else if x.d<0∨regs≤x.d∨(x.op=21∧s.2≠[]) then none else some (x.d :: s.1,s.2)
def chkL (regs slots:Int) (ins:Nat):List In→List Int×List Int→Option (List Int×List Int)
 | [],s=>some s
 | x :: r,s=>match chk1 regs slots ins x s with | some t=>chkL regs slots ins r t | none=>none
def sizeS (c:Co):Bool:=decide (0≤c.regs∧c.regs≤100000∧0≤c.slots∧c.slots≤100000∧c.ins.length≤200000)
def okS (c:Co):Bool:=sizeS c&&match chkL c.regs c.slots c.inputs.length c.ins ([],[]) with | some (w,_)=>c.outs.all fun r=>decide (r∈w) | none=>false
def frameS (inputs inp:List Int):Bool:=decide (inp.length=inputs.length)&&(List.range inp.length).all fun i=>fits (inp.getD i 0)&&(!(inputs.getD i 0==1) || inp.getD i 0==0 || inp.getD i 0==1)
def madeS (x:In) (inp r sl:List Int) (first:Bool):Int×Int :=
 if x.op=3 then (inp.getD x.n.toNat 0,0) else if x.op=1∨x.op=2 then (x.n,0) else if x.op=21 then (sl.getD x.n.toNat 0,0)
 else if x.op=19 then (if first then r.getD x.a.toNat 0 else r.getD x.b.toNat 0,0)
 else doS x.op (r.getD x.a.toNat 0) (if readsN x.op ≥ 2 then r.getD x.b.toNat 0 else 0) (if readsN x.op ≥ 3 then r.getD x.c.toNat 0 else 0)
def least (f e:Int):Int:=if e≠0∧(f=0∨e<f) then e else f
structure Rs where
 r:List Int
 nx:List Int
 f:Int
def run1 (inp sl:List Int) (first:Bool) (s:Rs) (x:In):Rs :=
 if x.op=30 then { s with nx:=s.nx.set x.n.toNat (s.r.getD x.a.toNat 0) }
 else { s with r:=s.r.set x.d.toNat (madeS x inp s.r sl first).1,f:=least s.f (madeS x inp s.r sl first).2 }
def runS (inp sl:List Int) (first:Bool) (s:Rs) (l:List In):Rs:=l.foldl (run1 inp sl first) s
structure Ms where
 sl:List Int
 steps:Int
 f:Int
def beginS (c:Co):Ms:=⟨List.replicate c.slots.toNat 0,0,0⟩
def stepS (c:Co) (m:Ms) (inp:List Int):List Int×Ms :=
 if m.f≠0 then ([],m) else if frameS c.inputs inp=false then ([],{ m with f:=17 })
 else
  let q:=runS inp m.sl (m.steps==0) ⟨List.replicate c.regs.toNat 0,m.sl,0⟩ c.ins
  if q.f≠0 then ([],{ m with f:=q.f }) else (c.outs.map fun r=>q.r.getD r.toNat 0,⟨q.nx,m.steps+1,0⟩)
structure InOk (regs slots:Int) (ins:Nat) (x:In):Prop where
 reads:0≤readsN x.op
 var:x.op=3→0≤x.n∧x.n<(ins:Int)
 slot:x.op=21∨x.op=30→0≤x.n∧x.n<slots
 a:1≤readsN x.op→0≤x.a∧x.a<regs
 b:2≤readsN x.op→0≤x.b∧x.b<regs
 c:3≤readsN x.op→0≤x.c∧x.c<regs
 d:x.op≠30→0≤x.d∧x.d<regs
theorem plainS_parts {slots:Int} {ins:Nat} {x:In} (h:plainS slots ins x=true):0≤readsN x.op∧restS x=true∧numS slots ins x=true:=by
 unfold plainS at h
 simp only[Bool.and_eq_true,decide_eq_true_eq] at h
 exact⟨h.1.1,h.1.2,h.2⟩
theorem rds_mem {x:In} : (1≤readsN x.op→x.a∈rds x)∧(2≤readsN x.op→x.b∈rds x)∧(3≤readsN x.op→x.c∈rds x):=by
 have:=readsN_le x.op
 unfold rds
 generalize readsN x.op=k at *
 have:k = -1∨k=0∨k=1∨k=2∨k=3:=by omega
 rcases this with rfl | rfl | rfl | rfl | rfl <;> simp
theorem chk1_ok {regs slots:Int} {ins:Nat} {x:In} {s t:List Int×List Int} (hs:∀ r∈s.1,0≤r∧r<regs) (h:chk1 regs slots ins x s=some t):InOk regs slots ins x∧(∀ r∈t.1,0≤r∧r<regs)∧(∀ r∈s.1,r∈t.1):=by
 unfold chk1 at h
 split at h
 ·cases h
 rename_i hp
 split at h
 ·cases h
 rename_i hr
 have hp':plainS slots ins x=true:=by cases e:plainS slots ins x <;> simp_all
 have hr':(rds x).all (fun r=>decide (r∈s.1))=true:=by cases e:(rds x).all (fun r=>decide (r∈s.1)) <;> simp_all
 obtain⟨p1,p2,p3⟩:=plainS_parts hp'
 have hm:∀ r∈rds x,0≤r∧r<regs:=fun r hr2=>hs r (by simpa using List.all_eq_true.1 hr' r hr2)
 obtain⟨m1,m2,m3⟩:=@rds_mem x
 have hb:∀ (hd:x.op≠30→0≤x.d∧x.d<regs),InOk regs slots ins x:=fun hd=>by
  refine⟨p1,fun e=>?_,fun e=>?_,fun e=>hm _ (m1 e),fun e=>hm _ (m2 e),fun e=>hm _ (m3 e),hd⟩
  ·unfold numS at p3;rw[if_pos e] at p3;simpa using p3
  ·unfold numS at p3;rw[if_neg (by omega),if_neg (by omega),if_neg (by omega),if_pos e] at p3;simpa using p3
 split at h
 ·rename_i e
  split at h
  ·cases h
  ·cases h;exact⟨hb (fun q=>absurd e q),hs,fun r hr2=>hr2⟩
 ·rename_i e
  split at h
  ·cases h
  ·rename_i q
   cases h
   refine⟨hb (fun _=>by omega),fun r hr2=>?_,fun r hr2=>List.mem_cons_of_mem _ hr2⟩
   rcases List.mem_cons.1 hr2 with rfl | hr2
   ·omega
   ·exact hs r hr2
theorem chkL_ok {regs slots:Int} {ins:Nat} : ∀ {l:List In} {s t:List Int×List Int},(∀ r∈s.1,0≤r∧r<regs)→chkL regs slots ins l s=some t→(∀ x∈l,InOk regs slots ins x)∧∀ r∈t.1,0≤r∧r<regs
 | [],s,t,hs,h=>by cases h;exact⟨fun x hx=>by simp at hx,hs⟩
 | x :: r,s,t,hs,h=>by
  unfold chkL at h
  split at h
  ·rename_i u hu
   obtain⟨h1,h2,_⟩:=chk1_ok hs hu
   obtain⟨h3,h4⟩:=chkL_ok h2 h
   exact⟨fun y hy=>by
    rcases List.mem_cons.1 hy with rfl | hy
    ·exact h1
    ·exact h3 y hy,h4⟩
  ·cases h
structure CoOk (c:Co):Prop where
 size:0≤c.regs∧c.regs≤100000∧0≤c.slots∧c.slots≤100000∧c.ins.length≤200000
 ins:∀ x∈c.ins,InOk c.regs c.slots c.inputs.length x
 outs:∀ r∈c.outs,0≤r∧r<c.regs
theorem okS_ok {c:Co} (h:okS c=true):CoOk c:=by
 unfold okS at h
 rw[Bool.and_eq_true] at h
 obtain⟨h1,h2⟩:=h
 unfold sizeS at h1
 simp only[decide_eq_true_eq] at h1
 split at h2
 ·rename_i w s hw
  obtain⟨h3,h4⟩:=chkL_ok (fun r hr=>by simp at hr) hw
  exact⟨h1,h3,fun r hr=>h4 r (by simpa using List.all_eq_true.1 h2 r hr)⟩
 ·cases h2
theorem run1_len (inp sl:List Int) (first:Bool) (s:Rs) (x:In):(run1 inp sl first s x).r.length=s.r.length∧(run1 inp sl first s x).nx.length=s.nx.length:=by
 unfold run1;split <;> simp
theorem runS_snoc (inp sl:List Int) (first:Bool) (l:List In) (s:Rs) (x:In):runS inp sl first s (l++[x])=run1 inp sl first (runS inp sl first s l) x:=by simp[runS]
theorem least_le {f e:Int} (hf:0≤f) (he:0≤e):0≤least f e:=by unfold least;split <;> omega
end Cx
end Go.Proofs.YtbdbhdcbdfbnnaaGreatDoor
namespace Go.Proofs.YtbdbhdcbdfbnnaaGreatDoor
open Go.RowKit
structure FrS (S:List Nat) (w w':World):Prop where
 os:w'.os=w.os
 tape:w'.tape=w.tape
 output:w'.output=w.output
 size:w.heap.size≤w'.heap.size
 block:∀ k,k<w.heap.size→k ∉ S→w'.heap[k]?=w.heap[k]?
theorem FrS.refl (S:List Nat) (w:World):FrS S w w:=⟨rfl,rfl,rfl,Nat.le_refl _,fun _ _ _=>rfl⟩
theorem FrS.of_below {w w':World} (h:Below w.heap.size w w') (S:List Nat):FrS S w w':=⟨h.os,h.tape,h.output,h.size,fun k hk _=>h.block k hk⟩
theorem FrS.trans {S S':List Nat} {a b c:World} (h:FrS S a b) (k:FrS S' b c) (hs:∀ i∈S',i<a.heap.size→i∈S):FrS S a c :=
 ⟨k.os.trans h.os,k.tape.trans h.tape,k.output.trans h.output,Nat.le_trans h.size k.size,fun i hi hn=>(k.block i (Nat.lt_of_lt_of_le hi h.size) (fun q=>hn (hs i q hi))).trans (h.block i hi hn)⟩
theorem FrS.next {S:List Nat} {a b c:World} (h:FrS S a b) (k:Below b.heap.size b c):FrS S a c:=h.trans (FrS.of_below k []) (fun i hi=>by cases hi)
theorem FrS.mono {S S':List Nat} {a b:World} (h:FrS S a b) (hs:∀ i∈S,i<a.heap.size→i∈S'):FrS S' a b:=⟨h.os,h.tape,h.output,h.size,fun i hi hn=>h.block i hi fun q=>hn (hs i q hi)⟩
theorem FrS.below {S:List Nat} {a w w':World} {B:Nat} (h:Below B a w) (k:FrS S w w') (hB:B≤w.heap.size) (hs:∀ i∈S,B≤i):Below B a w' :=
 ⟨k.os.trans h.os,k.tape.trans h.tape,k.output.trans h.output,Nat.le_trans h.size k.size,fun i hi=>(k.block i (by omega) (fun q=>by have:=hs i q;omega)).trans (h.block i hi)⟩
theorem FrS.setCell {S:List Nat} {a w:World} (h:FrS S a w) {p i:Nat} (hp:p∈S∨a.heap.size≤p) (y:Value):FrS S a (w.setCell ⟨p,i,none⟩ y) :=
 ⟨h.os,h.tape,h.output,by simpa using h.size,fun k hk hn=>by
  have:k≠p:=fun e=>by subst e;rcases hp with hp | hp;exact hn hp;omega
  rw[Below.heap_setCell _ _ _ _ this];exact h.block k hk hn⟩
theorem FrS.grown {S:List Nat} {a w w':World} {row:Option Nat} (h:FrS S a w) (hg:w.grownBy w' row) (hr:∀ q,row=some q→a.heap.size≤q):FrS S a w' :=
 ⟨hg.os.trans h.os,hg.tape.trans h.tape,hg.output.trans h.output,Nat.le_trans h.size hg.size,fun k hk hn=>(hg.block k (Nat.lt_of_lt_of_le hk h.size) (fun e=>by have:=hr k e.symm;omega)).trans (h.block k hk hn)⟩
theorem FrS.alloc {S:List Nat} {a w:World} (h:FrS S a w) (o:Obj):FrS S a (w.alloc o) :=
 ⟨h.os,h.tape,h.output,by have:=h.size;simp;omega,fun k hk hn=>(Below.heap_alloc _ _ _ (Nat.lt_of_lt_of_le hk h.size)).trans (h.block k hk hn)⟩
theorem FrS.drew {S:List Nat} {a w:World} (h:FrS S a w):FrS S a w.drew:=⟨h.os,h.tape,h.output,h.size,h.block⟩
theorem FrS.blk {S:List Nat} {w w':World} (h:FrS S w w') {b T:Nat} {cs:Array Value} (hb:Blk w b cs T) (hn:b ∉ S):Blk w' b cs T:=(h.block b hb.lt hn).trans hb
theorem FrS.drawn {S:List Nat} {a w:World} (h:FrS S a w) (n:Nat):FrS S a (w.drewN n):=⟨h.os,h.tape,h.output,h.size,h.block⟩
theorem Blk.puti {W:World} {b T:Nat} {cs:Array Value} (h:Blk W b cs T) (i:Nat) (y:Value):Blk (W.setCell ⟨b,i,none⟩ y) b (cs.setIfInBounds i y) T:=heap_setCell_same W b i cs T y h
def SlN {α:Type} (enc:α→List Value) (k:Nat) (M:List Nat) (w:World) (v:Value) (l:List α):Prop :=
 (l=[]∧∃ a c,v=.slice a 0 c)∨∃ b o c,v=.slice (some ⟨b,o,none⟩) l.length c∧l.length≤c∧b<w.heap.size∧b ∉ M∧∀ i x,l[i]?=some x→∀ j u,(enc x)[j]?=some u→w.cell? ⟨b,o+i * k+j,none⟩=some u
section
variable {α : Type} {enc : α → List Value} {k : Nat} {w w' : World} {v : Value} {l : List α} {M M' S : List Nat}
theorem SlN.sl (h:SlN enc k M w v l):Sl enc k w v l:=by
 rcases h with h | ⟨b,o,c,h1,h2,h3,_,h4⟩
 ·exact Or.inl h
 ·exact Or.inr ⟨b,o,c,h1,h2,h3,h4⟩
theorem SlN.fr (h:SlN enc k M w v l) (hf:FrS S w w') (hS:∀ i∈S,i∈M):SlN enc k M w' v l:=by
 rcases h with h | ⟨b,o,c,h1,h2,h3,hm,h4⟩
 ·exact Or.inl h
 ·exact Or.inr ⟨b,o,c,h1,h2,Nat.lt_of_lt_of_le h3 hf.size,hm,fun i x hi j u hu=>(World.cell?_of_block (w:=w) (a:=⟨b,o+i * k+j,none⟩) (hf.block b h3 fun q=>hm (hS b q))).trans (h4 i x hi j u hu)⟩
theorem SlN.below (h:SlN enc k M w v l) (hb:Below w.heap.size w w'):SlN enc k M w' v l:=h.fr (FrS.of_below hb []) (fun i hi=>by cases hi)
theorem SlN.more (h:SlN enc k M w v l) (hM:∀ i∈M',i∈M∨w.heap.size≤i):SlN enc k M' w v l:=by
 rcases h with h | ⟨b,o,c,h1,h2,h3,hm,h4⟩
 ·exact Or.inl h
 ·exact Or.inr ⟨b,o,c,h1,h2,h3,fun q=>by rcases hM b q with q | q;exact hm q;omega,h4⟩
theorem Sl.apart (h:Sl enc k w v l) (hM:∀ i∈M,w.heap.size≤i):SlN enc k M w v l:=by
 rcases h with h | ⟨b,o,c,h1,h2,h3,h4⟩
 ·exact Or.inl h
 ·exact Or.inr ⟨b,o,c,h1,h2,h3,fun q=>by have:=hM b q;omega,h4⟩
theorem SlN.form (h:SlN enc k M w v l):∃ a c,v=.slice a l.length c∧l.length≤c∧∀ W S,FrS S w W→(∀ i∈S,i∈M∨w.heap.size≤i)→∀ i x,l[i]?=some x→∃ b o,a=some ⟨b,o,none⟩∧b<w.heap.size∧b ∉ M∧∀ j u,(enc x)[j]?=some u→W.cell? ⟨b,o+i * k+j,none⟩=some u:=by
 rcases h with ⟨rfl,a,c,rfl⟩ | ⟨b,o,c,rfl,hc,hlt,hm,hx⟩
 ·exact⟨a,c,rfl,Nat.zero_le _,fun W S _ _ i x hi=>by simp at hi⟩
 ·exact⟨_,c,rfl,hc,fun W S hW hS i x hi=>⟨b,o,rfl,hlt,hm,fun j u hu=>(World.cell?_of_block (w:=w) (a:=⟨b,o+i * k+j,none⟩) (hW.block b hlt fun q=>by rcases hS b q with q | q;exact hm q;omega)).trans (hx i x hi j u hu)⟩⟩
end
theorem ownsRow_apart {α:Type} {enc:α→List Value} {k:Nat} (hk:∀ x,(enc x).length=k) {w:World} {v:Value} {l:List α} {base e n:Nat} {M:List Nat} (h:w.ownsRow base e k v n (l.flatMap enc)) (hn:l.length=n) (hM:∀ i∈M,i<base):SlN enc k M w v l:=by
 subst hn
 rcases h.2 with ⟨rfl,h0⟩ | ⟨g,cap,cur,rfl,hg0,hg,hcap,_,hsz,htake⟩
 ·exact Or.inl ⟨List.eq_nil_of_length_eq_zero h0,none,0,rfl⟩
 ·refine Or.inr ⟨g,0,cap,rfl,hcap,(Array.getElem?_eq_some_iff.1 hg).1,fun q=>by have:=hM g q;omega,fun i x hi j u hu=>?_⟩
  have hc:=flatMap_cell hk l i x hi j u hu
  rw[cell_of_row w g (0+i * k+j) cur e (0,0) hg,Nat.zero_add]
  rw[← htake,List.getElem?_take] at hc
  split at hc
  ·simpa using hc
  ·cases hc
def RegsL (w:World) (rb o:Nat) (v:Value) (l:List Int):Prop :=
 (l=[]∧∃ a c,v=.slice a 0 c)∨∃ c,v=.slice (some ⟨rb,o,none⟩) l.length c∧l.length≤c∧rb<w.heap.size∧∀ i x,l[i]?=some x→w.cell? ⟨rb,o+i,none⟩=some (.int .i64 x)∧w.frozen? ⟨rb,o+i,none⟩=false
section
variable {w w' : World} {rb o : Nat} {v : Value} {l : List Int}
theorem RegsL.form (h:RegsL w rb o v l):∃ a c,v=.slice a l.length c∧l.length≤c∧(l≠[]→a=some ⟨rb,o,none⟩∧rb<w.heap.size)∧∀ i x,l[i]?=some x→w.cell? ⟨rb,o+i,none⟩=some (.int .i64 x)∧w.frozen? ⟨rb,o+i,none⟩=false:=by
 rcases h with ⟨rfl,a,c,rfl⟩ | ⟨c,rfl,hc,hb,hx⟩
 ·exact⟨a,c,rfl,Nat.zero_le _,fun q=>absurd rfl q,fun i x hi=>by simp at hi⟩
 ·exact⟨_,c,rfl,hc,fun _=>⟨rfl,hb⟩,hx⟩
theorem RegsL.of_block (h:RegsL w rb o v l) (hb:l≠[]→w'.heap[rb]?=w.heap[rb]?):RegsL w' rb o v l:=by
 rcases h with h | ⟨c,h1,hc,h2,h3⟩
 ·exact Or.inl h
 ·by_cases e:l=[]
  ·exact Or.inl ⟨e,some ⟨rb,o,none⟩,c,by rw[h1,e];rfl⟩
  ·refine Or.inr ⟨c,h1,hc,?_,fun i x hi=>?_⟩
   ·have h4:=hb e
    rw[Array.getElem?_eq_getElem h2] at h4
    exact (Array.getElem?_eq_some_iff.1 h4).1
   ·rw[World.cell?_of_block (w:=w) (a:=⟨rb,o+i,none⟩) (hb e),World.frozen?_of_block (w:=w) (a:=⟨rb,o+i,none⟩) (hb e)]
    exact h3 i x hi
theorem RegsL.lt (h:RegsL w rb o v l) (hl:l≠[]):rb<w.heap.size:=by obtain⟨_,_,_,_,h,_⟩:=h.form;exact (h hl).2
theorem RegsL.fr {S:List Nat} (h:RegsL w rb o v l) (hf:FrS S w w') (hn:l≠[]→rb ∉ S):RegsL w' rb o v l:=h.of_block fun e=>hf.block rb (h.lt e) (hn e)
theorem RegsL.below (h:RegsL w rb o v l) (hb:Below w.heap.size w w'):RegsL w' rb o v l:=h.of_block fun e=>hb.block rb (h.lt e)
theorem RegsL.drawn (h:RegsL w rb o v l) (n:Nat):RegsL (w.drewN n) rb o v l:=h
theorem RegsL.set (h:RegsL w rb o v l) (i:Nat) (y:Int):RegsL (w.setCell ⟨rb,o+i,none⟩ (.int .i64 y)) rb o v (l.set i y):=by
 rcases h with ⟨rfl,h⟩ | ⟨c,h1,hc,h2,h3⟩
 ·exact Or.inl ⟨rfl,h⟩
 ·refine Or.inr ⟨c,by rw[List.length_set];exact h1,by rw[List.length_set];exact hc,by simpa using h2,fun j x hj=>?_⟩
  rw[List.getElem?_set] at hj
  split at hj
  ·rename_i e;subst e
   split at hj
   ·rename_i hi
    cases hj
    obtain⟨q1,q2⟩:=h3 i l[i] (List.getElem?_eq_getElem hi)
    exact⟨World.cell?_setCell_same _ _ _ q1,by simpa using q2⟩
   ·cases hj
  ·rename_i e
   obtain⟨q1,q2⟩:=h3 j x hj
   refine⟨?_,by simpa using q2⟩
   have hne:(⟨rb,o+i,none⟩ : Addr)≠⟨rb,o+j,none⟩:=fun q=>e (by injection q with _ q2 _;omega)
   exact (World.cell?_setCell_other _ _ _ _ hne).trans q1
theorem RegsL.other (h:RegsL w rb o v l) {p:Nat} (hp:l≠[]→rb≠p) (i:Nat) (y:Value):RegsL (w.setCell ⟨p,i,none⟩ y) rb o v l:=h.of_block fun e=>Below.heap_setCell _ _ _ _ (hp e)
theorem RegsL.sln {M:List Nat} (h:RegsL w rb o v l) (hn:l≠[]→rb ∉ M):SlN intC 1 M w v l:=by
 by_cases e:l=[]
 ·subst e
  rcases h with ⟨_,h⟩ | ⟨c,h1,_⟩
  ·exact Or.inl ⟨rfl,h⟩
  ·exact Or.inl ⟨rfl,some ⟨rb,o,none⟩,c,h1⟩
 ·rcases h with ⟨h,_⟩ | ⟨c,h1,hc,h2,h3⟩
  ·exact absurd h e
  ·refine Or.inr ⟨rb,o,c,h1,hc,h2,hn e,fun i x hi j u hu=>?_⟩
   cases j with
   | succ j=>simp[intC] at hu
   | zero =>
    simp[intC] at hu;subst hu
    rw[Nat.mul_one,Nat.add_zero]
    exact (h3 i x hi).1
theorem RegsL.own {base n:Nat} (h:w.ownsRow base 3 1 v n (l.flatMap intC)) (hn:l.length=n):∃ rb,(l≠[]→base≤rb)∧RegsL w rb 0 v l:=by
 subst hn
 rcases h.2 with ⟨rfl,h0⟩ | ⟨g,cap,cur,rfl,hg0,hg,hcap,_,hsz,htake⟩
 ·exact⟨0,fun e=>absurd (List.eq_nil_of_length_eq_zero h0) e,Or.inl ⟨List.eq_nil_of_length_eq_zero h0,none,0,rfl⟩⟩
 ·refine⟨g,fun _=>hg0,Or.inr ⟨cap,rfl,hcap,(Array.getElem?_eq_some_iff.1 hg).1,fun i x hi=>?_⟩⟩
  have hc:=flatMap_cell (k:=1) intC_len l i x hi 0 (.int .i64 x) rfl
  rw[Nat.mul_one,Nat.add_zero,← htake,List.getElem?_take] at hc
  rw[Nat.zero_add]
  split at hc
  ·rw[cell_of_row w g i cur 3 (0,0) hg]
   exact⟨by simpa using hc,frozen_of_row w g i cur 3 hg⟩
  ·cases hc
end
end Go.Proofs.YtbdbhdcbdfbnnaaGreatDoor
namespace Go.Proofs.YtbdbhdcbdfbnnaaGreatDoor
open Go.RowKit
theorem wrap_fitsC {n:Int} (h : -9223372036854775808≤n∧n≤9223372036854775807):(wrap64 (RowKit.wrap32 n)==n)=Cx.fits n:=by
 unfold Cx.fits wrap64 RowKit.wrap32
 rw[Bool.eq_iff_iff]
 simp only[beq_iff_eq,decide_eq_true_eq]
 omega
theorem pFits_any (n:Int) (h : -9223372036854775808≤n∧n≤9223372036854775807) (w:World):Calls Tryz.prog 55 #[.int .i64 n] w fun e w'=>e=.returned (.bool (Cx.fits n))∧w'=w:=by
 go_enter Tryz.func55,Tryz.ntmps55
 go_wp2_with fail
 go_ret
 exact⟨ret_bool (wrap_fitsC h),rfl⟩
theorem rFitsC_any (n:Int) (w:World):Calls Tryz.prog 54 #[.int .i64 n] w fun e w'=>e=.returned (.bool (Cx.fits n))∧w'=w:=by
 go_enter Tryz.func54,Tryz.ntmps54
 go_wp2_with fail
 all_goals
  go_ret
  refine⟨ret_bool ?_,rfl⟩
  unfold Cx.fits
  simp_all <;> omega
theorem pOperands_any (op:Int) (w:World):Calls Tryz.prog 56 #[.int .i64 op] w fun e w'=>e=.returned (.int .i64 (Cx.opsN op))∧w'=w:=by
 go_enter Tryz.func56,Tryz.ntmps56
 go_wp2_with fail
 all_goals
  go_ret
  refine⟨?_,rfl⟩
  congr 2
  unfold Cx.opsN
  repeat' split
  all_goals simp_all
  all_goals omega
theorem rOperands_any (op:Int) (w:World):Calls Tryz.prog 53 #[.int .i64 op] w fun e w'=>e=.returned (.int .i64 (Cx.opsN op))∧w'=w:=by
 go_enter Tryz.func53,Tryz.ntmps53
 go_wp2_with fail
 all_goals
  go_ret
  refine⟨?_,rfl⟩
  congr 2
  unfold Cx.opsN
  repeat' split
  all_goals simp_all
  all_goals omega
theorem pTruth_any (b:Bool) (w:World):Calls Tryz.prog 98 #[.bool b] w fun e w'=>e=.returned (.tuple #[.int .i64 (Cx.trI b),.int .i64 0])∧w'=w:=by
 cases b
 all_goals
  go_enter Tryz.func98,Tryz.ntmps98
  go_wp2_with fail
  go_ret2
  exact⟨rfl,rfl⟩
theorem rTruthC_any (b:Bool) (w:World):Calls Tryz.prog 100 #[.bool b] w fun e w'=>e=.returned (.int .i64 (Cx.trI b))∧w'=w:=by
 cases b
 all_goals
  go_enter Tryz.func100,Tryz.ntmps100
  go_wp2_with fail
  go_ret
  exact⟨rfl,rfl⟩
theorem pFit_any (n:Int) (h : -9223372036854775808≤n∧n≤9223372036854775807) (w:World):Calls Tryz.prog 99 #[.int .i64 n] w fun e w'=>e=.returned (.tuple #[.int .i64 (Cx.ovr n).1,.int .i64 (Cx.ovr n).2])∧w'=w:=by
 have hf:=pFits_any n h w
 unfold Cx.ovr
 cases hb:Cx.fits n
 all_goals
  rw[hb] at hf
  have HB:=Lib.hid hb
  clear hb
  go_enter Tryz.func99,Tryz.ntmps99
  go_wp2_with fail
  refine hf.mono ?_
  rintro e w1 ⟨rfl,rfl⟩
  go_wp2_with fail
  go_ret2
  exact⟨rfl,rfl⟩
theorem rOver_any (n:Int) (w:World):Calls Tryz.prog 101 #[.int .i64 n] w fun e w'=>e=.returned (.tuple #[.int .i64 (Cx.ovr n).1,.int .i64 (Cx.ovr n).2])∧w'=w:=by
 have hf:=rFitsC_any n w
 unfold Cx.ovr
 cases hb:Cx.fits n
 all_goals
  rw[hb] at hf
  have HB:=Lib.hid hb
  clear hb
  go_enter Tryz.func101,Tryz.ntmps101
  go_wp2_with fail
  refine hf.mono ?_
  rintro e w1 ⟨rfl,rfl⟩
  go_wp2_with fail
  go_ret2
  exact⟨rfl,rfl⟩
end Go.Proofs.YtbdbhdcbdfbnnaaGreatDoor
namespace Go.Proofs.YtbdbhdcbdfbnnaaGreatDoor
open Go.RowKit
theorem flat_at {α:Type} {enc:α→List Value} {k:Nat} (hk:∀ x,(enc x).length=k) (h0:0<k):∀ (l:List α) (j:Nat) (u:Value),(l.flatMap enc)[j]?=some u→∃ i q x,l[i]?=some x∧(enc x)[q]?=some u∧i * k+q=j
 | [],j,u,h=>by simp at h
 | y :: r,j,u,h=>by
  rw[List.flatMap_cons] at h
  by_cases hj:j<k
  ·rw[List.getElem?_append_left (by rw[hk];exact hj)] at h
   exact⟨0,j,y,rfl,h,by omega⟩
  ·rw[List.getElem?_append_right (by rw[hk];omega),hk] at h
   obtain⟨i,q,x,h1,h2,h3⟩:=flat_at hk h0 r (j - k) u h
   exact⟨i+1,q,x,by simpa using h1,h2,by rw[Nat.add_mul];omega⟩
theorem rowIM:RowTy Tryz.prog 23 3 1 8:=RowTy.mk' (z:=.int .i64 0) Tryz.underlying23 (by kernel_rfl) rfl (by omega)
set_option maxRecDepth 100000 in
theorem cloneI_any (l:List Int) (v:Value) (w:World) (hv:Sl intC 1 w v l) (hl:l.length≤1000000) :
  Calls Tryz.prog 22 #[v] w fun e w'=>∃ u,e=.returned u∧w'.ownsRow w.heap.size 3 1 u l.length (l.flatMap intC)∧Below w.heap.size w w':=by
 obtain⟨a,c,rfl,hc,hx⟩:=hv.form
 have hq:∀ (w:World) (a:Option Addr) (n c n' c':Nat),(binOp .eql 23 (.slice a n c) (.slice none n' c')).run Tryz.prog w=.ok (.bool a.isNone) w:=fun w a n c n' c'=>Lib.run_eql_slice_nil w _ _ a n c n' c' Tryz.underlying23
 have H1:Hid (∀ (w':World),Below w.heap.size w w'→∀ j u,(l.flatMap intC)[j]?=some u→∃ ad,a=some ad∧w'.cell? (ad.add j)=some u):=by
  intro w' hw' j u hu
  obtain⟨i,q,x,hi,hq1,hj⟩:=flat_at (k:=1) intC_len (by decide) l j u hu
  obtain⟨b,o,e,h2⟩:=hx w' hw' i x hi
  exact⟨_,e,by rw[← hj,Addr.add_lit,← Nat.add_assoc];exact h2 q u hq1⟩
 have H2:Hid (a=none→l=[]):=fun e=>by
  show _=_
  cases l with
  | nil=>rfl
  | cons x r=>obtain⟨b,o,e2,_⟩:=hx w (Below.refl _ _) 0 x rfl;rw[e] at e2;cases e2
 have H3:Hid ((l.flatMap intC).length=l.length * 1):=flatMap_len intC_len l
 have H4:Hid (∀ u∈l.flatMap intC,u.oneCell'=true):=by
  intro u hu
  obtain⟨x,_,hx⟩:=List.mem_flatMap.1 hu
  simp[intC] at hx
  simp_all [Value.oneCell']
 obtain⟨n,hn⟩ : ∃ n,n=l.length:=⟨_,rfl⟩
 rw[← hn] at hc hl H3 ⊢
 clear hx hv
 cases a with
 | none =>
  have hl0:=H2.out rfl
  have hn0:n=0:=by rw[hn,hl0];rfl
  subst hn0
  have HL:=Lib.hid hl0
  clear hn hl0
  go_enter Tryz.func22,Tryz.ntmps22
  go_wp2_with fail
  go_ret
  refine⟨_,rfl,?_,Below.refl _ _⟩
  rw[HL.out]
  exact World.ownsRow_nil _ _ _ _
 | some ad =>
  have HN:=Lib.hid hn
  clear hn
  obtain⟨i0,z,hi,hz,hs1,hby,hzs⟩:=rowIM.ex
  go_enter Tryz.func22,Tryz.ntmps22
  go_wp2_with (at_builtin;refine wpList_append_own _ rfl _ _ 23 rfl w.heap.size 3 i0 z 1 8 Tryz.underlying23 hi hz hs1 hby hzs (by decide) _ _ _ rfl (World.ownsRow_made w #[] 0 (Nat.le_refl _) (Nat.zero_le _) (by simp)) ad n c (l.flatMap intC) rfl ?qc1 ?qc2 ?qc3 ?qc4 ?qc5 ?qc6 ?_)
  case qc1=>exact H3.out
  case qc2 =>
   intro j u hj
   obtain⟨ad',e,h⟩:=H1.out w (Below.refl _ _) j u hj
   cases e
   exact Lib.cell?_alloc_some _ h
  case qc3=>exact H4.out
  case qc4=>simp[maxLen];omega
  case qc5=>omega
  case qc6=>simp
  intro v' w1 hown hgrow hnil
  go_wp2_with fail
  go_ret
  refine⟨v',rfl,by simpa using hown,?_⟩
  exact ((Below.refl _ w).alloc (Nat.le_refl _) _).grown hgrow (by simp) (by intro k hk;simp[Value.ownBlock] at hk;omega)
end Go.Proofs.YtbdbhdcbdfbnnaaGreatDoor
