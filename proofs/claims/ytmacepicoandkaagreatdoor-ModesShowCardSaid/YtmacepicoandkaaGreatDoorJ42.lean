/- The look at a contract's modes: what it answers. The look at a contract's modes: what is told. How many nodes assumptions and modes have: the walk. -/
import Derived.Test.YtmacepicoandkaaGreatDoorJ38
import Derived.Test.YtmacepicoandkaaGreatDoorJ40
import Derived.Test.YtmacepicoandkaaGreatDoorJ41
set_option linter.unusedVariables false
set_option linter.unusedSimpArgs false
namespace Go.Proofs.YtmacepicoandkaaGreatDoor
open Go.RowKit Go.Shelf Tx
theorem cut_nodes (F:Fo):∀ (A:List (List Nd)) (b:Nat),∀ x∈(Ux.cutF F A).1.flat b,(Ux.isLogic x.op=true∧x.s=ByteArray.empty)∨(x.op=3∧∃ k,k<(Ux.cutF F A).2.length∧x.s=Ux.atomName k):=by
 induction F with
 | no=>intro A b x hx;simp[Ux.cutF,Fo.flat] at hx
 | tr op n s ks r ihk ih =>
  intro A b x hx
  simp only[Ux.cutF] at hx ⊢
  split at hx
  ·rename_i hl
   rw[if_pos hl]
   simp only[Fo.flat,List.mem_append,List.mem_cons] at hx ⊢
   have hmore:(Ux.cutF ks A).2.length≤(Ux.cutF r (Ux.cutF ks A).2).2.length:=by
    obtain⟨C,hC⟩:=Ux.cut_more r (Ux.cutF ks A).2
    rw[hC,List.length_append];omega
   rcases hx with hx | rfl | hx
   ·rcases ihk A _ x hx with h | ⟨h1,k,h2,h3⟩
    ·exact Or.inl h
    ·exact Or.inr ⟨h1,k,by omega,h3⟩
   ·left
    have h1:=aim_op (leaf op n ByteArray.empty) ((Ux.cutF ks A).1.ends b)
    exact⟨by rw[h1.1];exact hl,by rw[h1.2.2];rfl⟩
   ·exact ih _ _ x hx
  ·rename_i hl
   rw[if_neg hl]
   obtain⟨X,hX⟩ : ∃ X,X=(Fo.tr op n s ks .no).flat 0:=⟨_,rfl⟩
   rw[← hX] at hx ⊢
   simp only[Fo.flat,List.nil_append,List.mem_cons] at hx ⊢
   rcases hx with rfl | hx
   ·right
    have h1:=aim_op (leaf 3 0 (Ux.atomName (A.idxOf X))) (Fo.ends b Fo.no)
    refine⟨by rw[h1.1];rfl,A.idxOf X,?_,by rw[h1.2.2];rfl⟩
    obtain⟨C,hC⟩:=Ux.cut_more r (if X∈A then A else A++[X])
    simp only[hC,List.length_append]
    split
    ·rename_i hm;have:=List.idxOf_lt_length_iff.2 hm;omega
    ·rename_i hm;rw[List.idxOf_eq_length hm];simp;omega
   ·exact ih _ _ x hx
theorem outs_may {l:List (List Nd)} (hM:∀ e∈l,e.length≤200) (h:(splitR l).2.2=0):∀ o∈(splitR l).2.1,Ux.mayA o (splitR l).1.length=true∧o.length≤5000∧smallS o:=by
 intro o ho
 have hF:=putF_of hM h
 obtain⟨k,hk⟩:=List.mem_iff_getElem?.1 ho
 have hkl:=(List.getElem?_eq_some_iff.1 hk).1
 obtain⟨e,he⟩ : ∃ e,l[k]?=some e:=⟨_,List.getElem?_eq_getElem (by rw[← hF.outs];exact hkl)⟩
 obtain⟨h1,h2,_⟩:=hF.each k o e hk he
 obtain⟨g1,g2,g3⟩:=splitR_ok h
 have hlen:=hF.len
 have hnodes:∀ x∈o,(Ux.isLogic x.op=true∧x.s=ByteArray.empty)∨(x.op=3∧∃ k,k<(splitR l).1.length∧x.s=Ux.atomName k):=by
  rw[g3] at hk ⊢
  simp only at hk ⊢
  rw[List.getElem?_map,splitT_out l k e he] at hk
  simp only[Option.map_some,Option.some.injEq] at hk
  subst hk
  intro x hx
  rcases cut_nodes _ _ _ x hx with h | ⟨q1,j,q2,q3⟩
  ·exact Or.inl h
  ·refine Or.inr ⟨q1,j,?_,q3⟩
   obtain⟨C,hC⟩:=splitT_grow l (k+1)
   rw[splitT_next he] at hC
   simp only at hC
   rw[hC,List.length_append];omega
 refine⟨?_,by omega,fun x hx=>?_⟩
 ·unfold Ux.mayA
  rw[h1,Bool.true_and,List.all_eq_true]
  intro x hx
  unfold Ux.nodeA
  rcases hnodes x hx with ⟨h,_⟩ | ⟨q1,j,q2,q3⟩
  ·rw[h];rfl
  ·rw[q3,(Ux.numOf_some (k:=j)).2 ⟨q2,rfl⟩,q1];rfl
 ·rcases hnodes x hx with ⟨_,h⟩ | ⟨q1,j,q2,q3⟩
  ·rw[h];decide
  ·rw[q3]
   have h5:=(Fx.dec_is j).2.2.2.2 9 (by omega)
   rw[← list_size]
   simp only[Ux.atomName,List.length_cons]
   omega
end Go.Proofs.YtmacepicoandkaaGreatDoor
namespace Go.Proofs.YtmacepicoandkaaGreatDoor
open Go.RowKit Go.Shelf Tx
def OwnF (v:Value) (n:Nat):Prop:=(v=.slice none 0 0∧n=0)∨∃ g c,v=.slice (some ⟨g,0,none⟩) n c∧n≤c
theorem ownF_row {w:World} {base T n:Nat} {v:Value} {xs:List Value} (h:w.ownsRow base T 1 v n xs):OwnF v n:=by
 rcases h.2 with ⟨rfl,h0⟩ | ⟨g,cap,cur,rfl,_,_,hc,_⟩
 ·exact Or.inl ⟨rfl,h0⟩
 ·exact Or.inr ⟨g,cap,rfl,hc⟩
def everyL (l:List It):List (List Nd):=asmL l++reqL l
theorem every_len {l:List It} {M:Nat} (h:∀ x∈l,x.e.length≤M):∀ e∈everyL l,e.length≤M:=by
 intro e he
 unfold everyL asmL reqL at he
 rcases List.mem_append.1 he with h1 | h1
 ·obtain⟨x,hx,rfl⟩:=List.mem_map.1 h1
  exact h x (List.mem_filter.1 hx).1
 ·obtain⟨x,hx,rfl⟩:=List.mem_map.1 h1
  exact h x (List.mem_filter.1 hx).1
def badL (l:List It) (bud:Int):Prop:=(everyL l).any (fun e=>!mayB e)=true∨bud<2∨10000<bud
def knownL (l:List It):Bool:=(splitR (everyL l)).2.2==0
def overL (l:List It):List (List Nd):=if knownL l=true then (splitR (everyL l)).2.1 else everyL l
def pairE (l:List It) (p:Nat×Nat):List (List Nd):=(overL l).take (asmL l).length++[(overL l).getD ((asmL l).length+p.1) [],(overL l).getD ((asmL l).length+p.2) []]
def RepIs (l:List It) (bud:Nat) (base:Nat) (rep:Array Value) (W:World):Prop :=
 ∃ (am mo ga pa:Value) (ex:Int),rep=#[am,mo,.int .i64 ex,ga,pa]∧Sg 1 IsL W am (splitR (everyL l)).1∧Sl strC 1 W mo (nmsL l) ∧
  VerdQ (knownL l) (splitR (everyL l)).1.length bud ((overL l).take (asmL l).length) ((overL l).drop (asmL l).length) ex ga W ∧
  PRow 45 (fun p vd v W=>VerdQ (knownL l) (splitR (everyL l)).1.length bud (pairE l p) [] vd v W) base W pa (prs (reqL l).length)
def CheckPost (l : List It) (bud : Int) (w : World) (r : Ending) (w' : World) : Prop :=
  Below w.heap.size w w' ∧ ∃ (er : Int) (rep : Array Value), r = .returned (.tuple #[.agg rep, .int .i64 er]) ∧
    ((er = 1 ∧ badL l bud ∧ rep = #[.slice none 0 0, .slice none 0 0, .int .i64 0, .slice none 0 0, .slice none 0 0]) ∨
     (er = 0 ∧ ¬ badL l bud ∧ ∃ b : Nat, bud = (b : Int) ∧ RepIs l b w.heap.size rep w'))
def PAt (TR TP:Nat) (rb:Nat) (head:Array Value) (Q:Nat×Nat→Int→Value→World→Prop) (Wx:World) (L:List (Nat×Nat)) (W:World):Prop :=
 ∃ pa,Fr (fun k=>k=rb) Wx W∧Blk W rb (head.push pa) TR∧PRow TP Q Wx.heap.size W pa L
theorem PAt.start (TR TP:Nat) (rb:Nat) (head:Array Value) (Q:Nat×Nat→Int→Value→World→Prop) (Wx:World) {m:Nat} (h:Blk Wx rb (head.push (.slice none 0 0)) TR):PAt TR TP rb head Q Wx (prsAt m 0 1) Wx :=
 ⟨_,Fr.refl _ _,h,by rw[prsAt_zero];exact PRow.nil_⟩
theorem five_cells {W:World} {b T:Nat} {c0 c1 c2 c3 c4:Value} (h:Blk W b #[c0,c1,c2,c3,c4] T):W.cell? ⟨b,0,none⟩=some c0∧W.cell? ⟨b,1,none⟩=some c1∧W.cell? ⟨b,2,none⟩=some c2∧W.cell? ⟨b,3,none⟩=some c3∧W.cell? ⟨b,4,none⟩=some c4:=by
 unfold Blk at h;simp[World.cell?,h]
theorem Blk.free {W:World} {b T:Nat} {cs:Array Value} (h:Blk W b cs T) (j:Nat):W.frozen? ⟨b,j,none⟩=false:=by unfold Blk at h;simp[World.frozen?,h]
theorem Blk.set2 {W:World} {b T:Nat} {c0 c1 c2 c3 c4:Value} (h:Blk W b #[c0,c1,c2,c3,c4] T) (y:Value):Blk (W.setCell ⟨b,2,none⟩ y) b #[c0,c1,y,c3,c4] T:=by
 unfold Blk at h ⊢;simp[World.setCell,Array.getElem?_modify,h]
theorem Blk.set3 {W:World} {b T:Nat} {c0 c1 c2 c3 c4:Value} (h:Blk W b #[c0,c1,c2,c3,c4] T) (y:Value):Blk (W.setCell ⟨b,3,none⟩ y) b #[c0,c1,c2,y,c4] T:=by
 unfold Blk at h ⊢;simp[World.setCell,Array.getElem?_modify,h]
theorem Blk.belowB {w w':World} {b T B:Nat} {cs:Array Value} (h:Blk w b cs T) (hb:Below B w w') (hlt:b<B):Blk w' b cs T:=(hb.block b hlt).trans h
theorem Fr.belowB {w w':World} {B:Nat} (h:Fr (fun k=>k=B) w w') (hB:B≤w.heap.size):Below B w w':=⟨h.os,h.tape,h.output,h.size,fun k hk=>h.block k (by omega) (by omega)⟩
theorem five_set (W:World) (b:Nat) (x0 x1 x2 x3 x4:Value) (k:Nat) (hk:k≠b):(((((W.setCell ⟨b,0,none⟩ x0).setCell ⟨b,1,none⟩ x1).setCell ⟨b,2,none⟩ x2).setCell ⟨b,3,none⟩ x3).setCell ⟨b,4,none⟩ x4).heap[k]?=W.heap[k]?:=by
 rw[Below.heap_setCell _ _ _ _ hk,Below.heap_setCell _ _ _ _ hk,Below.heap_setCell _ _ _ _ hk,Below.heap_setCell _ _ _ _ hk,Below.heap_setCell _ _ _ _ hk]
theorem flat_strs (L:List ByteArray):L.flatMap strC=L.map Value.string:=by
 induction L with
 | nil=>rfl
 | cons a r ih=>rw[List.map_cons,List.flatMap_cons,ih];rfl
theorem names_sl {W:World} {base:Nat} {v:Value} {L:List ByteArray} (h:W.ownsRow base 9 1 v L.length (L.map Value.string)):Sl strC 1 W v L:=by
 refine Sl.own (base:=base) (e:=9) (n:=L.length) strC_len ?_ rfl
 rw[flat_strs];exact h
theorem PRow.mono {T:Nat} {Q:Nat×Nat→Int→Value→World→Prop} {base b2:Nat} {W:World} {v:Value} {L:List (Nat×Nat)} (h:PRow T Q base W v L) (hb:b2≤base):PRow T Q b2 W v L:=by
 obtain⟨cs,h1,h2,h3,h4⟩:=h
 refine⟨cs,World.ownsRow.mono h1 hb,h2,h3,fun i c p hc hp=>?_⟩
 obtain⟨vd,a,n,k,e,hq,ha⟩:=h4 i c p hc hp
 exact⟨vd,a,n,k,e,hq,fun ad had=>⟨by have:=(ha ad had).1;omega,(ha ad had).2⟩⟩
theorem rowPair:RowTy Tryz.prog 28 45 4 48:=RowTy.mk' (z:=.agg #[.int .i64 0,.int .i64 0,.int .i64 0,.slice none 0 0]) Tryz.underlying28 (by kernel_rfl) rfl (by omega)
theorem four_cells {W:World} {b T:Nat} {c0 c1 c2 c3:Value} (h:Blk W b #[c0,c1,c2,c3] T):W.cell? ⟨b,0,none⟩=some c0∧W.cell? ⟨b,1,none⟩=some c1∧W.cell? ⟨b,2,none⟩=some c2∧W.cell? ⟨b,3,none⟩=some c3:=by
 unfold Blk at h;simp[World.cell?,h]
theorem Blk.seti {W:World} {b T:Nat} {cs:Array Value} (h:Blk W b cs T) (i:Nat) (y:Value):Blk (W.setCell ⟨b,i,none⟩ y) b (cs.setIfInBounds i y) T:=by
 unfold Blk at h ⊢;simp[World.setCell,Array.getElem?_modify,h]
theorem flat_len_le {α β:Type} (f:α→List β) (M:Nat):∀ l:List α,(∀ a∈l,(f a).length≤M)→(l.flatMap f).length≤l.length * M
 | [],_=>by simp
 | a :: l,h=>by
  have h1:=h a (by simp)
  have h2:=flat_len_le f M l fun b hb=>h b (by simp[hb])
  rw[List.flatMap_cons,List.length_append,List.length_cons,Nat.add_mul];omega
theorem prsAt_len {m i j:Nat} (hm:m≤30) (hi:i≤30) (hj:j≤30):(prsAt m i j).length≤1000:=by
 unfold prsAt
 have h:=flat_len_le (fun a=>(List.range' (a+1) (m - (a+1))).map fun b=>(a,b)) 30 (List.range i) (fun a _=>by simp;omega)
 rw[List.length_range] at h
 have h2:i * 30≤30 * 30:=Nat.mul_le_mul_right _ hi
 simp only[List.length_append,List.length_map,List.length_range']
 omega
theorem pairE_at {l:List It} {n i j:Nat} {xe ye:List Nd} (hn:n=(asmL l).length) (hx:(overL l)[n+i]?=some xe) (hy:(overL l)[n+j]?=some ye):pairE l (i,j)=(overL l).take n++[xe,ye]:=by
 unfold pairE
 simp only[← hn]
 rw[List.getD_eq_getElem?_getD,List.getD_eq_getElem?_getD,hx,hy];rfl
theorem w64_add {a b c:Nat} (hc:c=a+b) (h:a+b≤1000):wrap64 ((a:Int)+(b:Int))=(c:Int)∧IntKind.i64.wrap ((a:Int)+(b:Int))=(c:Int):=by
 subst hc
 have h1:((a+b:Nat):Int)=(a:Int)+(b:Int):=by omega
 rw[h1]
 exact⟨IntWalk.wrap64_in _ (by omega),IntWalk.i64_in _ (by omega)⟩
theorem news_at (W:World) (cs:Array Value) (T:Nat) (j:Nat) (u:Value) (h:cs.toList[j]?=some u):((W.alloc (.cells cs T)).drew).cell? ((⟨W.heap.size,0,none⟩ : Addr).add j)=some u :=
 World.news_of_block (cs:=cs) (t:=T) (fr:=(0,0)) (heap_alloc_new W _) j u h
theorem set_far {W:World} {b i g j:Nat} {y:Value} (h:g≠b):(W.setCell ⟨b,i,none⟩ y).cell? ⟨g,j,none⟩=W.cell? ⟨g,j,none⟩:=World.cell?_of_block (a:=⟨g,j,none⟩) (Below.heap_setCell _ _ _ _ h)
end Go.Proofs.YtmacepicoandkaaGreatDoor
namespace Go.Proofs.YtmacepicoandkaaGreatDoor
open Go.RowKit Go.Shelf Tx
def lenS (L:List (List Nd)):Nat:=(L.map List.length).sum
end Go.Proofs.YtmacepicoandkaaGreatDoor
