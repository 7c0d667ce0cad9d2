/- Of the rows of law 18: from what they list to what is known; the frame. Code that came in. The law MachineSteps, whatever its arguments: its statement. -/
import Derived.Test.YtbdbhdcbdfbnnaaGreatDoorTie
import Derived.Lib.LaidU8
import Derived.SliceStrings
import Derived.LaidLaws
import Derived.HandedShaped
import Derived.Lay
import Derived.SevenTiedAt
import Derived.Test.YtbdbhdcbdfbnnaaGreatDoorCards
import Derived.ChangeMaps5
import Derived.Test.YtbdbhdcbdfbnnaaGreatDoorJ31
import Derived.Test.YtbdbhdcbdfbnnaaGreatDoorJ45
import Derived.Test.YtbdbhdcbdfbnnaaGreatDoorJ48
set_option linter.unusedVariables false
set_option linter.unusedSimpArgs false
namespace Go.Proofs.YtbdbhdcbdfbnnaaGreatDoor
open Go.ChangeShapes Go.WideShapes Go.ChangeAt Go.RowKit Go.Deep Go.Joins
theorem handed_shaped_and {H:Type} {enc:TypeId×Value→H} {a:Assume} {C:Checked} {os:Os} {f:FuncId} {fn:Func} {s:ChangeSpec} {conds:List PathCond} {apart fresh handsOn again:Bool} {X:World→Array Value→Prop}
  (hX:∀ (w w':World) (args:Array Value),w.heap=w'.heap→X w args→X w' args)
  (own:ownKnob C.prog.godebug=none) (started:os.Started) (noInit:C.prog.inits.idxOf? f=none) (hfn:C.prog.funcs[f]?=some fn)
  (witness:∃ (w:World) (tape:Tape) (i:Input),w.os=os∧(w.forCall tape i).Shaped C.prog∧i.vars=[]∧Input.okWide C.prog (w.forCall tape i) .any w.heap.size f i ∧
   ((s.pre enc C.prog fn conds apart (w.forCall tape i).memory i.args∧X (w.forCall tape i).memory i.args)∧sizedMet enc C.prog fn (OpenSpec.ofChange s) apart (w.forCall tape i).memory i.args)∧a.holds C.prog (lone (Frame.enter C.prog f i.args .normal) [] (w.forCall tape i)))
  (contract:∀ (W:World) (base:Nat) (args:Array Value) (ds gs:List (DataW H)) (before:List MemPlace),
   (∀ (j:Nat) t v,fn.params[j]?=some t→args[j]?=some v→Value.okWide C.prog W .any base t v) →
   DataW.Whole enc C.prog fn.params.toList s.vars apart W args.toList ds gs before→X W args→W.ShapedOpen C.prog →
   Calls C.prog f args W fun e W'=>∃ v,e=.returned v∧s.post enc C.prog fn apart fresh handsOn again W args v W') :
  ReturnsInHanded a C os f .any (fun w args=>(s.pre enc C.prog fn conds apart w args∧X w args)∧sizedMet enc C.prog fn (OpenSpec.ofChange s) apart w args) (s.post enc C.prog fn apart fresh handsOn again):=by
 refine returnsInHanded_of_calls own started noInit witness ?_
 intro w tape i _ hsh _ hok hpre _
 obtain⟨_,_,_,fn',hfn',_,_,_,_,hval⟩:=hok
 obtain rfl:fn'=fn:=Option.some.inj (hfn'.symm.trans hfn)
 obtain⟨⟨⟨ds,gs,before,hw,_⟩,hx⟩,_⟩:=hpre
 refine (contract (w.forCall tape i) w.heap.size i.args ds gs before hval (DataW.Whole.of_heap (w':=w.forCall tape i) (by rfl) hw) (hX _ _ _ (by rfl) hx) hsh).mono fun e W' h=>?_
 obtain⟨v,he,hp⟩:=h
 subst he
 exact ChangeSpec.post_blind hp
theorem strs_map {H:Type} : ∀ {a:List ByteArray} {l:List (List UInt8)},(strs a:List (DataW H))=l.map (fun x=>.lit (.string x))→a.map (fun b=>b.data.toList)=l
 | [],[],_=>rfl
 | [],_ :: _,h=>by simp[strs] at h
 | _ :: _,[],h=>by simp[strs] at h
 | b :: a,x :: l,h=>by
  simp[strs] at h
  simp only[List.map_cons,h.1]
  rw[strs_map (H:=H) (a:=a) (l:=l) (by simp[strs];exact h.2)]
theorem spot_of_cellS {w:World} {a:Addr} {v:Value} (h:w.cell? a=some v):a.spot=none:=(spot_of_cellD h).1
theorem strings_var {W:World} {n:String} {g t:Nat} {l:List (List UInt8)} (hr:Lib.VarReads Tryz.prog W n (.slice (l.map fun x=>.lit (.string x)) [])) (hg:Tryz.prog.globalNamed n=some g) (ht:(Tryz.prog.globals[g]?).map (·.type)=some t) (hu:Tryz.prog.underlying t=some (.slice 9)) (hl:l≠[]) :
  ∃ b o,W.cell? ⟨g,0,none⟩=some (.slice (some ⟨b,o,none⟩) l.length l.length)∧∀ j,j<l.length→W.cell? ⟨b,o+j,none⟩=some (.string ⟨(l.getD j []).toArray⟩):=by
 obtain⟨g',t',cs,fuel,p,hg',ht',hv,hd⟩:=hr
 obtain rfl:=Option.some.inj (hg.symm.trans hg')
 obtain rfl:=Option.some.inj (ht.symm.trans ht')
 rcases open_strings hu Tryz.underlying9 (by kernel_rfl) hd with ⟨_,h⟩ | ⟨a,len,cap,ss,hcs,_,hlc,_,hss,hx,hcell,_⟩
 ·cases h
 ·have hx1:=congrArg Prod.fst hx
  simp only[DataW.slice.injEq] at hx1
  obtain⟨h1,h2⟩:=hx1
  have h3:=strs_map h1.symm
  have h4:ss.drop len=[]:=by
   cases hq:ss.drop len with
   | nil=>rfl
   | cons x r=>rw[hq] at h2;simp[strs] at h2
  have h5:ss.take len=ss:=by
   rw[List.drop_eq_nil_iff] at h4;exact List.take_of_length_le h4
  rw[h5] at h3
  have hlen:len=l.length:=by
   have h6:ss.length≤len:=by rw[List.drop_eq_nil_iff] at h4;exact h4
   have h7:ss.length=l.length:=by rw[← h3];simp
   simp at hss;omega
  subst hlen
  have hgv:W.cell? ⟨g,0,none⟩=some (.slice (some a) l.length cap):=by
   rw[World.var?_cell hg hv 0]
   have:cs.toList[0]?=some (.slice (some a) l.length cap):=by rw[hcs];rfl
   simpa using this
  have hl0:0<l.length:=List.length_pos_iff.2 hl
  have hsl:ss.length=l.length:=by rw[← h3];simp
  have hs:=spot_of_cellS (hcell 0 (by omega))
  have hs0:a.spot=none:=by simpa [Addr.add] using hs
  have ha:a=⟨a.block,a.off,none⟩:=by cases a;simp_all
  have hcap:cap=l.length:=by simp at hss;omega
  subst hcap
  refine⟨a.block,a.off,by rw[← ha];exact hgv,fun j hj=>?_⟩
  have:=hcell j (by omega)
  rw[add_of_spotD hs0] at this
  have h8:(ss.map (fun b=>b.data.toList))[j]?=l[j]?:=by rw[h3]
  rw[List.getElem?_map] at h8
  have e1:ss[j]?=some (ss.getD j ByteArray.empty):=by rw[List.getD_eq_getElem?_getD,List.getElem?_eq_getElem (by omega)];rfl
  have e2:l[j]?=some (l.getD j []):=by rw[List.getD_eq_getElem?_getD,List.getElem?_eq_getElem hj];rfl
  rw[e1,e2] at h8
  have h9:(ss.getD j ByteArray.empty).data.toList=l.getD j []:=Option.some.inj h8
  have h10:ss.getD j ByteArray.empty=⟨(l.getD j []).toArray⟩:=bytes_ext h9
  rw[this,h10]
theorem glob_words : Tryz.prog.globalNamed "bailment/lex.words" = some 0 := by kernel_rfl
theorem laid_words:(Rows.laid_bailment_lex_words:DataW Unit)=.slice (Lx.words.map fun x=>.lit (.string x)) []:=by kernel_rfl
theorem words_row:Ev.wordsRow=Lx.words.map fun x=>Ev.AV.str (x.map UInt8.toNat):=by kernel_rfl
theorem size_of_reads {W:World} {n:String} {g:Nat} {d:DataW Unit} (hg:Tryz.prog.globalNamed n=some g) (h:Lib.VarReads Tryz.prog W n d):g<W.heap.size:=by
 obtain⟨g',t',cs,fuel,p,hg',ht',hvar,hd⟩:=h
 obtain rfl:=Option.some.inj (hg.symm.trans hg')
 unfold World.var? at hvar
 rw[hg] at hvar
 simp only[Option.bind_some] at hvar
 rcases Nat.lt_or_ge g W.heap.size with h' | h'
 ·exact h'
 ·rw[Array.getElem?_eq_none h'] at hvar;cases hvar
theorem glm_of {W:World} (hL:laidMetH Tryz.prog Rows.machineStepsRow.laid W):GlM W:=by
 rw[MakeChecks.laidMetH_plain _ _ _ (by kernel_rfl)] at hL
 have r4 : Lib.VarReads Tryz.prog W "strconv.ErrRange" Rows.laid_strconv_ErrRange := Lib.laidMet.reads hL (by unfold Rows.machineStepsRow; simp)
 have h4:10≤W.heap.size:=size_of_reads (g:=9) (by kernel_rfl) r4
 have r1 : Lib.VarReads Tryz.prog W "bailment/lex.words" Rows.laid_bailment_lex_words := Lib.laidMet.reads hL (by unfold Rows.machineStepsRow; simp)
 rw[laid_words] at r1
 obtain⟨b,o,h1,h2⟩:=strings_var r1 glob_words (by kernel_rfl) Tryz.underlying66 (by decide)
 refine⟨⟨b,o,h1,fun j v hj=>?_⟩,h4⟩
 rw[words_row,List.getElem?_map] at hj
 obtain⟨x,hx,rfl⟩:=Option.map_eq_some_iff.1 hj
 have hlt:=(List.getElem?_eq_some_iff.1 hx).1
 refine⟨_,h2 j hlt,fun r=>?_⟩
 rw[List.getD_eq_getElem?_getD,hx]
 exact Ev.rel_str.2 ⟨_,rfl,by simp⟩
theorem own:ownKnob Tryz.prog.godebug=none:=by kernel_rfl
theorem laidOut:laidOutB Tryz.prog=true:=by kernel_rfl
end Go.Proofs.YtbdbhdcbdfbnnaaGreatDoor
namespace Go.Proofs.YtbdbhdcbdfbnnaaGreatDoor
open Go.ChangeShapes Go.WideShapes Go.ChangeAt Go.RowKit Go.Deep Go.Joins
theorem cellsInsD:Tryz.prog.cellsOf 74=6:=by kernel_rfl
theorem cellsCodeD:Tryz.prog.cellsOf 25=5:=by kernel_rfl
theorem cellsInssD:Tryz.prog.cellsOf 22=1:=by kernel_rfl
section
variable {H : Type} {enc : TypeId × Value → H} {W : World} {base : Nat} {held : Bool} {fuel : Nat}
set_option maxRecDepth 100000 in
theorem ins_in {cs:List Value} {x:DataW H×List MemPlace} (h:DataW.trod enc Tryz.prog W base (fun _=>true) held fuel 74 cs=some x):∃ y:Cx.In,cs=Cx.inL y∧R64 y.n∧cs.length=6:=by
 obtain⟨xs,n,_,rfl,hl,hxs,hx⟩:=DataW.trod_struct Tryz.underlying74 h
 rw[cellsInsD] at hl
 have hxs6:xs.length=6:=hxs
 match cs,hl with
 | [c0,c1,c2,c3,c4,c5],_ =>
  match xs,hxs6 with
  | [x0,x1,x2,x3,x4,x5],_ =>
   have i0:DataW.trod enc Tryz.prog W base (fun _=>true) held n 3 (List.take (Tryz.prog.cellsOf 3) [c0,c1,c2,c3,c4,c5])=some x0:=hx 0 _ rfl
   have i1:DataW.trod enc Tryz.prog W base (fun _=>true) held n 3 (List.take (Tryz.prog.cellsOf 3) [c1,c2,c3,c4,c5])=some x1:=hx 1 _ rfl
   have i2:DataW.trod enc Tryz.prog W base (fun _=>true) held n 3 (List.take (Tryz.prog.cellsOf 3) [c2,c3,c4,c5])=some x2:=hx 2 _ rfl
   have i3:DataW.trod enc Tryz.prog W base (fun _=>true) held n 3 (List.take (Tryz.prog.cellsOf 3) [c3,c4,c5])=some x3:=hx 3 _ rfl
   have i4:DataW.trod enc Tryz.prog W base (fun _=>true) held n 3 (List.take (Tryz.prog.cellsOf 3) [c4,c5])=some x4:=hx 4 _ rfl
   have i5:DataW.trod enc Tryz.prog W base (fun _=>true) held n 3 (List.take (Tryz.prog.cellsOf 3) [c5])=some x5:=hx 5 _ rfl
   rw[cellsIntD] at i0 i1 i2 i3 i4 i5
   obtain⟨n0,q0,_,_⟩:=DataW.trod_int Tryz.underlying3 i0
   obtain⟨n1,q1,_,_⟩:=DataW.trod_int Tryz.underlying3 i1
   obtain⟨n2,q2,_,_⟩:=DataW.trod_int Tryz.underlying3 i2
   obtain⟨n3,q3,_,_⟩:=DataW.trod_int Tryz.underlying3 i3
   obtain⟨n4,q4,_,_⟩:=DataW.trod_int Tryz.underlying3 i4
   obtain⟨n5,q5,_,w5⟩:=DataW.trod_int Tryz.underlying3 i5
   simp at q0 q1 q2 q3 q4 q5
   subst q0 q1 q2 q3 q4 q5
   exact⟨⟨n0,n1,n2,n3,n4,n5⟩,rfl,wf_r64 w5,rfl⟩
set_option maxRecDepth 100000 in
theorem code_in {cs:List Value} {x:DataW H×List MemPlace} (h:DataW.trod enc Tryz.prog W base (fun _=>true) held fuel 25 cs=some x):∃ (c:Cx.Co) (vi vo vn:Value),cs=[vi,.int .i64 c.regs,.int .i64 c.slots,vo,vn]∧CodeIn W c vi vo vn:=by
 obtain⟨xs,n,_,rfl,hl,hxs,hx⟩:=DataW.trod_struct Tryz.underlying25 h
 rw[cellsCodeD] at hl
 have hxs5:xs.length=5:=hxs
 match cs,hl with
 | [c0,c1,c2,c3,c4],_ =>
  match xs,hxs5 with
  | [x0,x1,x2,x3,x4],_ =>
   have i0:DataW.trod enc Tryz.prog W base (fun _=>true) held n 22 (List.take (Tryz.prog.cellsOf 22) [c0,c1,c2,c3,c4])=some x0:=hx 0 _ rfl
   have i1:DataW.trod enc Tryz.prog W base (fun _=>true) held n 3 (List.take (Tryz.prog.cellsOf 3) [c1,c2,c3,c4])=some x1:=hx 1 _ rfl
   have i2:DataW.trod enc Tryz.prog W base (fun _=>true) held n 3 (List.take (Tryz.prog.cellsOf 3) [c2,c3,c4])=some x2:=hx 2 _ rfl
   have i3:DataW.trod enc Tryz.prog W base (fun _=>true) held n 23 (List.take (Tryz.prog.cellsOf 23) [c3,c4])=some x3:=hx 3 _ rfl
   have i4:DataW.trod enc Tryz.prog W base (fun _=>true) held n 23 (List.take (Tryz.prog.cellsOf 23) [c4])=some x4:=hx 4 _ rfl
   rw[cellsInssD] at i0
   rw[cellsIntD] at i1 i2
   rw[cellsIntsD] at i3 i4
   obtain⟨n1,q1,_,_⟩:=DataW.trod_int Tryz.underlying3 i1
   obtain⟨n2,q2,_,_⟩:=DataW.trod_int Tryz.underlying3 i2
   simp at q1 q2
   subst q1 q2
   obtain⟨l0,s0,_,r0⟩:=slice_inP Tryz.underlying22 cellsInsD (by omega) Cx.inL (fun y=>R64 y.n) i0 (fun n cs y hy=>ins_in hy)
   obtain⟨l3,s3,_,_⟩:=ints_inD i3
   obtain⟨l4,s4,_,_⟩:=ints_inD i4
   exact⟨⟨l0,n1,n2,l3,l4⟩,c0,c3,c4,rfl,s0,s3,s4,fun y hy=>r0 y hy⟩
end
theorem struct_agg {P:Program} {w:World} {r:Reach} {base:Nat} {t:TypeId} {v:Value} {fs:Array Field} (hu:P.underlying t=some (.struct fs)) (h:Value.okWide P w r base t v):∃ cs,v=.agg cs:=by
 unfold Value.okWide at h
 rw[hu] at h
 obtain⟨cs,h,_⟩:=h
 exact⟨cs,h⟩
set_option maxRecDepth 100000 in
theorem codeV_in {H:Type} {enc:TypeId×Value→H} {W:World} {base base':Nat} {held:Bool} {v:Value} {d:DataW H} {p:List MemPlace} (hv:Value.okWide Tryz.prog W .any base' 25 v) (h:DataW.Trod enc Tryz.prog W base (fun _=>true) held 25 v d p) :
  ∃ (c:Cx.Co) (vi vo vn:Value),v=.agg #[vi,.int .i64 c.regs,.int .i64 c.slots,vo,vn]∧CodeIn W c vi vo vn:=by
 obtain⟨cs,rfl⟩:=struct_agg Tryz.underlying25 hv
 obtain⟨fuel,h⟩:=h
 obtain⟨c,vi,vo,vn,h1,h2⟩:=code_in h
 refine⟨c,vi,vo,vn,?_,h2⟩
 have h3:cs.toList=[vi,.int .i64 c.regs,.int .i64 c.slots,vo,vn]:=h1
 rw[← Array.toArray_toList (xs:=cs),h3]
end Go.Proofs.YtbdbhdcbdfbnnaaGreatDoor
namespace Go.Proofs.YtbdbhdcbdfbnnaaGreatDoor
open Go.ChangeShapes Go.WideShapes Go.ChangeAt Go.RowKit Go.Deep
set_option maxRecDepth 100000 in
theorem machineSteps_lifted (os:Os) (started:os.Started) (H:Type) (enc:TypeId×Value→H) :
  ReturnsInHanded {} Tryz.checked os 3 .any (fun w args=>(Rows.machineStepsSpec.pre enc Tryz.prog Tryz.f3 Rows.machineStepsRow.domain false w args∧laidMetH Tryz.prog Rows.machineStepsRow.laid w)∧sizedMet enc Tryz.prog Tryz.f3 (OpenSpec.ofChange Rows.machineStepsSpec) false w args)
   (Rows.machineStepsSpec.post enc Tryz.prog Tryz.f3 false true false false):=by
 refine handed_shaped_and (C:=Tryz.checked) (X:=fun w _=>laidMetH Tryz.prog Rows.machineStepsRow.laid w) (fun _ _ _ hh h=>h.of_heap hh) own started (by kernel_rfl) Tryz.func3
  (ChangeSpec.witness_shaped (enc:=enc) (C:=Tryz.checked) (os:=os) (X:=fun w _=>laidMetH Tryz.prog Rows.machineStepsRow.laid w) false (World.laidAll Tryz.prog os Rows.machineStepsRow.laid) #[.agg #[.slice none 0 0,.int .i64 0,.int .i64 0,.slice none 0 0,.slice none 0 0],.slice none 0 0] 8 (World.laidAll_os _ _ _)
   (World.shaped_of_ZipB (by kernel_rfl) (by kernel_rfl)) (by kernel_rfl) (by kernel_rfl) (by kernel_rfl)
   (by rw[MakeChecks.laidMetH_plain _ _ _ (by kernel_rfl)];exact laidMet_laidAll _ (by kernel_rfl) (by kernel_rfl))) ?_
 intro W base args ds gs before hval0 hW hL hsh
 have hW':=hW
 obtain⟨p,q,hA0,hV,rfl,hfz,hnd⟩:=hW
 have hA:DataW.TrodAll enc Tryz.prog W 0 (fun _=>true) true Tryz.f3.params.toList args.toList ds p:=hA0
 have hval:∀ (j:Nat) t v,Tryz.f3.params[j]?=some t→args[j]?=some v→Value.okWide Tryz.prog W .any base t v:=hval0
 rw[Tryz.params3] at hA hval
 obtain⟨v0,vs0,d0,ds0,p0,q0,hargs0,rfl,rfl,h0,r0⟩:=trodAll_cons hA
 obtain⟨v1,vs1,d1,ds1,p1,q1,hargs1,rfl,rfl,h1,r1⟩:=trodAll_cons r0
 obtain⟨rfl,rfl,rfl⟩:=trodAll_nil r1
 obtain rfl:args=#[v0,v1]:=by cases args;simp_all
 obtain⟨rfl,rfl⟩:=trodVars_none hV
 have k0:=h0
 have k1:=h1
 have lt0:∀ x∈p0,x.block<W.heap.size:=by obtain⟨m,hm⟩:=k0;exact DataW.trod_lt m _ _ _ hm
 have lt1:∀ x∈p1,x.block<W.heap.size:=by obtain⟨m,hm⟩:=k1;exact DataW.trod_lt m _ _ _ hm
 obtain⟨l0,vi0,vo0,vn0,rfl,s0⟩:=codeV_in (hval 0 25 v0 rfl rfl) h0
 obtain⟨n1,g1⟩:=h1
 obtain⟨aa1,bb1,cc1,rfl⟩:=okWide_slice Tryz.underlying26 (hval 1 26 v1 rfl rfl)
 obtain⟨l1,s1,hm1,hz1⟩:=rows_inD g1
 clear hA0 hval0
 have G:GlM W:=glm_of (show laidMetH Tryz.prog Rows.machineStepsRow.laid W from hL)
 refine (machineSteps_any l0 _ _ _ l1 _ W G s0 s1 (fun r hr=>(hz1 r hr).2)).mono fun e W' h=>?_
 obtain⟨he,bel⟩:=h
 subst he
 exact⟨_,rfl,_,_,_,[],_,[],hW',trodAll_mk1 (shut_bool Tryz.underlying4 _),trodAll_cons_mk (Below.trod laidOut (by kernel_rfl) (of_decide_eq_true (by kernel_rfl)) k0 bel lt0) (trodAll_cons_mk (Below.trod laidOut (by kernel_rfl) (of_decide_eq_true (by kernel_rfl)) k1 bel lt1) trodAll_mk0),rfl,bel.frame _,fun h=>by cases h⟩
end Go.Proofs.YtbdbhdcbdfbnnaaGreatDoor
