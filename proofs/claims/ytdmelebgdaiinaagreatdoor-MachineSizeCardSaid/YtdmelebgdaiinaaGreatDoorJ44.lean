/- The law MachineFault, whatever its arguments: the walk. Code that came in. The law MachineCopy, whatever its arguments: the walk. -/
import Derived.Test.YtdmelebgdaiinaaGreatDoorJ42
import Derived.Test.YtdmelebgdaiinaaGreatDoorJ43
set_option linter.unusedVariables false
set_option linter.unusedSimpArgs false
namespace Go.Proofs.YtdmelebgdaiinaaGreatDoor
open Go.RowKit
set_option maxRecDepth 100000
structure CodeIn (w:World) (c:Cx.Co) (vi vo vn:Value):Prop where
 i:Sl Cx.inL 6 w vi c.ins
 o:Sl intC 1 w vo c.outs
 n:Sl intC 1 w vn c.inputs
 h64:∀ x∈c.ins,-9223372036854775808≤x.n∧x.n≤9223372036854775807
theorem CodeIn.below {w w':World} {c:Cx.Co} {vi vo vn:Value} (h:CodeIn w c vi vo vn) (hb:Below w.heap.size w w'):CodeIn w' c vi vo vn:=⟨h.i.below hb,h.o.below hb,h.n.below hb,h.h64⟩
theorem MachAt.drawn {w:World} {M:List Nat} {mb rb:Nat} {c:Cx.Co} {m:Cx.Ms} (h:MachAt w M mb rb c m) (n:Nat):MachAt (w.drewN n) M mb rb c m :=
 h.fr ((FrS.refl [] w).drawn n) (fun i hi=>by cases hi) (fun q=>by cases q) (fun _ q=>by cases q)
end Go.Proofs.YtdmelebgdaiinaaGreatDoor
namespace Go.Proofs.YtdmelebgdaiinaaGreatDoor
open Go.ChangeShapes Go.WideShapes Go.ChangeAt Go.RowKit Go.Deep Go.Joins
theorem cellsInsD:Tryz.prog.cellsOf 76=6:=by kernel_rfl
theorem cellsCodeD:Tryz.prog.cellsOf 25=5:=by kernel_rfl
theorem cellsInssD:Tryz.prog.cellsOf 22=1:=by kernel_rfl
section
variable {H : Type} {enc : TypeId × Value → H} {W : World} {base : Nat} {held : Bool} {fuel : Nat}
set_option maxRecDepth 100000 in
theorem ins_in {cs:List Value} {x:DataW H×List MemPlace} (h:DataW.trod enc Tryz.prog W base (fun _=>true) held fuel 76 cs=some x):∃ y:Cx.In,cs=Cx.inL y∧R64 y.n∧cs.length=6:=by
 obtain⟨xs,n,_,rfl,hl,hxs,hx⟩:=DataW.trod_struct Tryz.underlying76 h
 rw[cellsInsD] at hl
 have hxs6:xs.length=6:=hxs
 match cs,hl with
 | [c0,c1,c2,c3,c4,c5],_ =>
  match xs,hxs6 with
  | [x0,x1,x2,x3,x4,x5],_ =>
   have i0:DataW.trod enc Tryz.prog W base (fun _=>true) held n 3 (List.take (Tryz.prog.cellsOf 3) [c0,c1,c2,c3,c4,c5])=some x0:=hx 0 _ rfl
   have i1:DataW.trod enc Tryz.prog W base (fun _=>true) held n 3 (List.take (Tryz.prog.cellsOf 3) [c1,c2,c3,c4,c5])=some x1:=hx 1 _ rfl
   have i2:DataW.trod enc Tryz.prog W base (fun _=>true) held n 3 (List.take (Tryz.prog.cellsOf 3) [c2,c3,c4,c5])=some x2:=hx 2 _ rfl
   have i3:DataW.trod enc Tryz.prog W base (fun _=>true) held n 3 (List.take (Tryz.prog.cellsOf 3) [c3,c4,c5])=some x3:=hx 3 _ rfl
   have i4:DataW.trod enc Tryz.prog W base (fun _=>true) held n 3 (List.take (Tryz.prog.cellsOf 3) [c4,c5])=some x4:=hx 4 _ rfl
   have i5:DataW.trod enc Tryz.prog W base (fun _=>true) held n 3 (List.take (Tryz.prog.cellsOf 3) [c5])=some x5:=hx 5 _ rfl
   rw[cellsIntD] at i0 i1 i2 i3 i4 i5
   obtain⟨n0,q0,_,_⟩:=DataW.trod_int Tryz.underlying3 i0
   obtain⟨n1,q1,_,_⟩:=DataW.trod_int Tryz.underlying3 i1
   obtain⟨n2,q2,_,_⟩:=DataW.trod_int Tryz.underlying3 i2
   obtain⟨n3,q3,_,_⟩:=DataW.trod_int Tryz.underlying3 i3
   obtain⟨n4,q4,_,_⟩:=DataW.trod_int Tryz.underlying3 i4
   obtain⟨n5,q5,_,w5⟩:=DataW.trod_int Tryz.underlying3 i5
   simp at q0 q1 q2 q3 q4 q5
   subst q0 q1 q2 q3 q4 q5
   exact⟨⟨n0,n1,n2,n3,n4,n5⟩,rfl,wf_r64 w5,rfl⟩
set_option maxRecDepth 100000 in
theorem code_in {cs:List Value} {x:DataW H×List MemPlace} (h:DataW.trod enc Tryz.prog W base (fun _=>true) held fuel 25 cs=some x):∃ (c:Cx.Co) (vi vo vn:Value),cs=[vi,.int .i64 c.regs,.int .i64 c.slots,vo,vn]∧CodeIn W c vi vo vn:=by
 obtain⟨xs,n,_,rfl,hl,hxs,hx⟩:=DataW.trod_struct Tryz.underlying25 h
 rw[cellsCodeD] at hl
 have hxs5:xs.length=5:=hxs
 match cs,hl with
 | [c0,c1,c2,c3,c4],_ =>
  match xs,hxs5 with
  | [x0,x1,x2,x3,x4],_ =>
   have i0:DataW.trod enc Tryz.prog W base (fun _=>true) held n 22 (List.take (Tryz.prog.cellsOf 22) [c0,c1,c2,c3,c4])=some x0:=hx 0 _ rfl
   have i1:DataW.trod enc Tryz.prog W base (fun _=>true) held n 3 (List.take (Tryz.prog.cellsOf 3) [c1,c2,c3,c4])=some x1:=hx 1 _ rfl
   have i2:DataW.trod enc Tryz.prog W base (fun _=>true) held n 3 (List.take (Tryz.prog.cellsOf 3) [c2,c3,c4])=some x2:=hx 2 _ rfl
   have i3:DataW.trod enc Tryz.prog W base (fun _=>true) held n 23 (List.take (Tryz.prog.cellsOf 23) [c3,c4])=some x3:=hx 3 _ rfl
   have i4:DataW.trod enc Tryz.prog W base (fun _=>true) held n 23 (List.take (Tryz.prog.cellsOf 23) [c4])=some x4:=hx 4 _ rfl
   rw[cellsInssD] at i0
   rw[cellsIntD] at i1 i2
   rw[cellsIntsD] at i3 i4
   obtain⟨n1,q1,_,_⟩:=DataW.trod_int Tryz.underlying3 i1
   obtain⟨n2,q2,_,_⟩:=DataW.trod_int Tryz.underlying3 i2
   simp at q1 q2
   subst q1 q2
   obtain⟨l0,s0,_,r0⟩:=slice_inP Tryz.underlying22 cellsInsD (by omega) Cx.inL (fun y=>R64 y.n) i0 (fun n cs y hy=>ins_in hy)
   obtain⟨l3,s3,_,_⟩:=ints_inD i3
   obtain⟨l4,s4,_,_⟩:=ints_inD i4
   exact⟨⟨l0,n1,n2,l3,l4⟩,c0,c3,c4,rfl,s0,s3,s4,fun y hy=>r0 y hy⟩
end
theorem struct_agg {P:Program} {w:World} {r:Reach} {base:Nat} {t:TypeId} {v:Value} {fs:Array Field} (hu:P.underlying t=some (.struct fs)) (h:Value.okWide P w r base t v):∃ cs,v=.agg cs:=by
 unfold Value.okWide at h
 rw[hu] at h
 obtain⟨cs,h,_⟩:=h
 exact⟨cs,h⟩
set_option maxRecDepth 100000 in
theorem codeV_in {H:Type} {enc:TypeId×Value→H} {W:World} {base base':Nat} {held:Bool} {v:Value} {d:DataW H} {p:List MemPlace} (hv:Value.okWide Tryz.prog W .any base' 25 v) (h:DataW.Trod enc Tryz.prog W base (fun _=>true) held 25 v d p) :
  ∃ (c:Cx.Co) (vi vo vn:Value),v=.agg #[vi,.int .i64 c.regs,.int .i64 c.slots,vo,vn]∧CodeIn W c vi vo vn:=by
 obtain⟨cs,rfl⟩:=struct_agg Tryz.underlying25 hv
 obtain⟨fuel,h⟩:=h
 obtain⟨c,vi,vo,vn,h1,h2⟩:=code_in h
 refine⟨c,vi,vo,vn,?_,h2⟩
 have h3:cs.toList=[vi,.int .i64 c.regs,.int .i64 c.slots,vo,vn]:=h1
 rw[← Array.toArray_toList (xs:=cs),h3]
end Go.Proofs.YtdmelebgdaiinaaGreatDoor
namespace Go.Proofs.YtdmelebgdaiinaaGreatDoor
open Go.RowKit
set_option maxRecDepth 100000
theorem MsOk.on {c:Cx.Co} (hok:Cx.okS c=true) {m:Cx.Ms} (h0:MsOk c m 1000) {rows:List (List Int)} (h:rows.length≤20) (t:Nat):MsOk c (Cx.runM c m (rows.take t)) 2000:=by
 have h1:=MsOk.rows hok (rows:=rows.take t) h0
 have h2:(rows.take t).length≤20:=by rw[List.length_take];omega
 exact⟨h1.len,h1.fits,⟨h1.steps.1,by have:=h1.steps.2;omega⟩,h1.f⟩
end Go.Proofs.YtdmelebgdaiinaaGreatDoor
