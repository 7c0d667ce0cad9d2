/- From what the rows list to what is known of the program's variables; the frame of a tied row, its strings weighed. Items that came in, opened. -/
import Derived.Test.YtmacepicoandkaaGreatDoorTie
import Derived.Lib.LaidU8
import Derived.Lib.LaidTab
import Derived.LaidLaws
import Derived.HandedShaped
import Derived.ProofKit
import Derived.OpenShut
import Derived.Lay
import Derived.SevenTiedAt
import Derived.Test.YtmacepicoandkaaGreatDoorJ25
import Derived.Test.YtmacepicoandkaaGreatDoorJ31
import Derived.Test.YtmacepicoandkaaGreatDoorJ38
set_option linter.unusedVariables false
set_option linter.unusedSimpArgs false
namespace Go.Proofs.YtmacepicoandkaaGreatDoor
open Go.ChangeShapes Go.WideShapes Go.ChangeAt Go.RowKit Go.Deep
theorem handed_sized_and {H:Type} {enc:TypeId×Value→H} {a:Assume} {C:Checked} {os:Os} {f:FuncId} {fn:Func} {s:ChangeSpec} {conds:List PathCond} {apart fresh handsOn again:Bool} {X:World→Array Value→Prop}
  (hX:∀ (w w':World) (args:Array Value),w.heap=w'.heap→X w args→X w' args)
  (own:ownKnob C.prog.godebug=none) (started:os.Started) (noInit:C.prog.inits.idxOf? f=none) (hfn:C.prog.funcs[f]?=some fn)
  (witness:∃ (w:World) (tape:Tape) (i:Input),w.os=os∧(w.forCall tape i).Shaped C.prog∧i.vars=[]∧Input.okWide C.prog (w.forCall tape i) .any w.heap.size f i ∧
   ((s.pre enc C.prog fn conds apart (w.forCall tape i).memory i.args∧X (w.forCall tape i).memory i.args)∧sizedMet enc C.prog fn (OpenSpec.ofChange s) apart (w.forCall tape i).memory i.args)∧a.holds C.prog (lone (Frame.enter C.prog f i.args .normal) [] (w.forCall tape i)))
  (contract:∀ (W:World) (base:Nat) (args:Array Value) (ds gs:List (DataW H)) (before:List MemPlace),
   (∀ (j:Nat) t v,fn.params[j]?=some t→args[j]?=some v→Value.okWide C.prog W .any base t v) →
   DataW.Whole enc C.prog fn.params.toList s.vars apart W args.toList ds gs before→X W args→W.ShapedOpen C.prog→(DataW.weightsEach C.prog (fn.params.toList++s.plain.varTypes C.prog) (ds++gs)).all (·≤reachBytes)=true →
   Calls C.prog f args W fun e W'=>∃ v,e=.returned v∧s.post enc C.prog fn apart fresh handsOn again W args v W') :
  ReturnsInHanded a C os f .any (fun w args=>(s.pre enc C.prog fn conds apart w args∧X w args)∧sizedMet enc C.prog fn (OpenSpec.ofChange s) apart w args) (s.post enc C.prog fn apart fresh handsOn again):=by
 refine returnsInHanded_of_calls own started noInit witness ?_
 intro w tape i _ hsh _ hok hpre _
 obtain⟨_,_,_,fn',hfn',_,_,_,_,hval⟩:=hok
 obtain rfl:fn'=fn:=Option.some.inj (hfn'.symm.trans hfn)
 obtain⟨⟨⟨ds,gs,before,hw,_⟩,hx⟩,hz⟩:=hpre
 have hzw:=hz.weights hw
 have hw':=DataW.Whole.of_heap (w':=w.forCall tape i) (by rfl) hw
 refine (contract (w.forCall tape i) w.heap.size i.args ds gs before hval hw' (hX _ _ _ (by rfl) hx) hsh hzw).mono fun e W' h=>?_
 obtain⟨v,he,hp⟩:=h
 subst he
 exact ChangeSpec.post_blind hp
noncomputable def rowLaid:List (String×DataW Unit):=Rows.modesChecksRow.laid
theorem laid_pow:(Rows.laid_internal_strconv_uint64pow10:DataW Unit)=Lib.tabData .u64 Lib.pow10Tab:=by kernel_rfl
theorem tab_of_reads {W : World} (h : Lib.VarReads Tryz.prog W "internal/strconv.uint64pow10" (Lib.tabData .u64 Lib.pow10Tab)) : Lib.TabIs Tryz.prog W "internal/strconv.uint64pow10" .u64 Lib.pow10Tab := by
 obtain⟨g',t',cs,fuel,p,hg',ht',hvar,hd⟩:=h
 obtain rfl := Option.some.inj ((show Tryz.prog.globalNamed "internal/strconv.uint64pow10" = some 2 by kernel_rfl).symm.trans hg')
 obtain rfl:=Option.some.inj ((show (Tryz.prog.globals[2]?).map (·.type)=some 187 by kernel_rfl).symm.trans ht')
 unfold Lib.TabIs
 have:=Lib.cells_of_tab Tryz.underlying187 Tryz.underlying176 (by kernel_rfl) (by kernel_rfl) hd
 rw[hvar,← this]
theorem err_of_reads {W:World} {n:String} {g:Nat} {nm:String} {d:DataW Unit} (hg:Tryz.prog.globalNamed n=some g) (ht:(Tryz.prog.globals[g]?).map (·.type)=some 137) (h:Lib.VarReads Tryz.prog W n (.iface nm d)):∃ tp p,W.var? Tryz.prog n=some #[.iface tp p]:=by
 obtain⟨g',t',cs,fuel,p,hg',ht',hvar,hd⟩:=h
 obtain rfl:=Option.some.inj (hg.symm.trans hg')
 obtain rfl:=Option.some.inj (ht.symm.trans ht')
 obtain⟨f1,u,v,hcs,_⟩:=iface_of_trod Tryz.underlying137 hd
 refine⟨u,v,?_⟩
 rw[hvar]
 congr 1
 rw[← Array.toList_inj];exact hcs
theorem gl_of {W:World} (hL:laidMetH Tryz.prog rowLaid W) (hs:W.ShapedOpen Tryz.prog):Gl W:=by
 rw[MakeChecks.laidMetH_plain _ _ _ (by kernel_rfl)] at hL
 have r1 : Lib.VarReads Tryz.prog W "internal/strconv.uint64pow10" Rows.laid_internal_strconv_uint64pow10 := Lib.laidMet.reads hL (by unfold rowLaid Rows.modesChecksRow; simp)
 have r2 : Lib.VarReads Tryz.prog W "strconv.ErrSyntax" Rows.laid_strconv_ErrSyntax := Lib.laidMet.reads hL (by unfold rowLaid Rows.modesChecksRow; simp)
 have r3 : Lib.VarReads Tryz.prog W "strconv.ErrRange" Rows.laid_strconv_ErrRange := Lib.laidMet.reads hL (by unfold rowLaid Rows.modesChecksRow; simp)
 rw[laid_pow] at r1
 unfold Rows.laid_strconv_ErrSyntax at r2
 unfold Rows.laid_strconv_ErrRange at r3
 exact⟨tab_of_reads r1,err_of_reads (g:=0) (by kernel_rfl) (by kernel_rfl) r2,err_of_reads (g:=1) (by kernel_rfl) (by kernel_rfl) r3,hs⟩
theorem own:ownKnob Tryz.prog.godebug=none:=by kernel_rfl
theorem laidOut:laidOutB Tryz.prog=true:=by kernel_rfl
end Go.Proofs.YtmacepicoandkaaGreatDoor
namespace Go.Proofs.YtmacepicoandkaaGreatDoor
open Go.ChangeShapes Go.WideShapes Go.ChangeAt Go.RowKit Go.Deep Go.Joins Tx
theorem cellsItem:Tryz.prog.cellsOf 56=6:=by kernel_rfl
theorem cellsExprs:Tryz.prog.cellsOf 25=1:=by kernel_rfl
section
variable {H : Type} {enc : TypeId × Value → H} {W : World} {base : Nat} {held : Bool} {fuel : Nat}
theorem slice_form {t e:TypeId} (ht:Tryz.prog.underlying t=some (.slice e)) {c:Value} {x:DataW H×List MemPlace} (h:DataW.trod enc Tryz.prog W base (fun _=>true) held fuel t [c]=some x):∃ a n k,c=.slice a n k:=by
 rcases open_slice ht h with ⟨hcs,_⟩ | ⟨a,len,cap,m,n,D,Pl,hcs,_⟩
 ·simp at hcs;exact⟨none,0,0,hcs⟩
 ·simp at hcs;exact⟨some a,len,cap,hcs⟩
set_option maxRecDepth 100000 in
theorem it_in {cs:List Value} {x:DataW H×List MemPlace} (h:DataW.trod enc Tryz.prog W base (fun _=>true) held fuel 56 cs=some x) :
  ∃ y:It,IsIt W cs y∧cs.length=6∧y.e.length≤maxLen∧∀ m∈sizesE y.e,m∈x.1.weights Tryz.prog 56:=by
 obtain⟨xs,n,_,rfl,hl,hxs,hx⟩:=DataW.trod_struct Tryz.underlying56 h
 rw[cellsItem] at hl
 have hxs6:xs.length=6:=hxs
 match cs,hl with
 | [c0,c1,c2,c3,c4,c5],_ =>
  match xs,hxs6 with
  | [x0,x1,x2,x3,x4,x5],_ =>
   have i0:DataW.trod enc Tryz.prog W base (fun _=>true) held n 3 (List.take (Tryz.prog.cellsOf 3) [c0,c1,c2,c3,c4,c5])=some x0:=hx 0 _ rfl
   have i1:DataW.trod enc Tryz.prog W base (fun _=>true) held n 9 (List.take (Tryz.prog.cellsOf 9) [c1,c2,c3,c4,c5])=some x1:=hx 1 _ rfl
   have i2:DataW.trod enc Tryz.prog W base (fun _=>true) held n 3 (List.take (Tryz.prog.cellsOf 3) [c2,c3,c4,c5])=some x2:=hx 2 _ rfl
   have i3:DataW.trod enc Tryz.prog W base (fun _=>true) held n 54 (List.take (Tryz.prog.cellsOf 54) [c3,c4,c5])=some x3:=hx 3 _ rfl
   have i4:DataW.trod enc Tryz.prog W base (fun _=>true) held n 54 (List.take (Tryz.prog.cellsOf 54) [c4,c5])=some x4:=hx 4 _ rfl
   have i5:DataW.trod enc Tryz.prog W base (fun _=>true) held n 25 (List.take (Tryz.prog.cellsOf 25) [c5])=some x5:=hx 5 _ rfl
   rw[cellsInt] at i0 i2
   rw[cellsStr] at i1
   rw[cellsExpr] at i3 i4
   rw[cellsExprs] at i5
   obtain⟨n0,q0,_,w0⟩:=DataW.trod_int Tryz.underlying3 i0
   obtain⟨s,q1,hs,w1⟩:=DataW.trod_string Tryz.underlying9 i1
   obtain⟨n2,q2,_,w2⟩:=DataW.trod_int Tryz.underlying3 i2
   obtain⟨e,he⟩:=expr_in i3
   obtain⟨fa,fn,fc,q4⟩:=slice_form Tryz.underlying54 i4
   obtain⟨ga,gn,gc,q5⟩:=slice_form Tryz.underlying25 i5
   obtain⟨ea,ec,q3,_,_⟩:=he.isE.form
   simp at q0 q1 q2
   subst q0 q1 q2 q3 q4 q5
   refine⟨⟨n0,s,n2,e⟩,⟨ea,fa,ga,ec,fn,fc,gn,gc,rfl,he.isE⟩,rfl,he.len,fun m hm=>?_⟩
   have h3:=he.wts m hm
   simp only[DataW.weights,Tryz.underlying56,List.map_cons,List.map_nil,DataW.weightsEach,List.mem_append]
   exact Or.inr (Or.inr (Or.inr (Or.inl h3)))
theorem items_in {v:Value} {x:DataW H×List MemPlace} (h:DataW.trod enc Tryz.prog W base (fun _=>true) held fuel 22 [v]=some x) :
  ∃ l:List It,Sg 6 IsIt W v l∧l.length≤maxLen∧(∀ y∈l,y.e.length≤maxLen)∧∀ y∈l,∀ m∈sizesE y.e,m∈x.1.weights Tryz.prog 22:=by
 obtain⟨L,⟨cs,g1,g2,g3⟩,h2,h3⟩:=slice_in (β:={ y:It // y.e.length≤maxLen }) Tryz.underlying22 cellsItem (by omega) (fun c y=>IsIt W c y.1) (fun y=>sizesE y.1.e) h (fun n cs y hy=>by
  obtain⟨z,k1,k2,k3,k4⟩:=it_in hy
  exact⟨⟨z,k3⟩,k1,k2,k4⟩)
 refine⟨L.map (·.1),⟨cs,g1,by simpa using g2,fun i c x hc hx=>?_⟩,by simpa using h2,fun e he=>?_,fun e he m hm=>?_⟩
 ·rw[List.getElem?_map] at hx
  obtain⟨y,hy,rfl⟩:=Option.map_eq_some_iff.1 hx
  exact g3 i c y hc hy
 ·obtain⟨y,hy,rfl⟩:=List.mem_map.1 he
  exact y.2
 ·obtain⟨y,hy,rfl⟩:=List.mem_map.1 he
  exact h3 y hy m hm
end
end Go.Proofs.YtmacepicoandkaaGreatDoor
