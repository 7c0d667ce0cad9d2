/- Of the rows of law 18: from what they list to what is known; the frame. -/
import Derived.Test.YtdmelebgdaiinaaGreatDoorTie
import Derived.Lib.LaidU8
import Derived.SliceStrings
import Derived.LaidLaws
import Derived.HandedShaped
import Derived.Lay
import Derived.SevenTiedAt
import Derived.Test.YtdmelebgdaiinaaGreatDoorJ42
set_option linter.unusedVariables false
set_option linter.unusedSimpArgs false
namespace Go.Proofs.YtdmelebgdaiinaaGreatDoor
open Go.ChangeShapes Go.WideShapes Go.ChangeAt Go.RowKit Go.Deep Go.Joins
theorem handed_shaped_and {H:Type} {enc:TypeId×Value→H} {a:Assume} {C:Checked} {os:Os} {f:FuncId} {fn:Func} {s:ChangeSpec} {conds:List PathCond} {apart fresh handsOn again:Bool} {X:World→Array Value→Prop}
  (hX:∀ (w w':World) (args:Array Value),w.heap=w'.heap→X w args→X w' args)
  (own:ownKnob C.prog.godebug=none) (started:os.Started) (noInit:C.prog.inits.idxOf? f=none) (hfn:C.prog.funcs[f]?=some fn)
  (witness:∃ (w:World) (tape:Tape) (i:Input),w.os=os∧(w.forCall tape i).Shaped C.prog∧i.vars=[]∧Input.okWide C.prog (w.forCall tape i) .any w.heap.size f i ∧
   ((s.pre enc C.prog fn conds apart (w.forCall tape i).memory i.args∧X (w.forCall tape i).memory i.args)∧sizedMet enc C.prog fn (OpenSpec.ofChange s) apart (w.forCall tape i).memory i.args)∧a.holds C.prog (lone (Frame.enter C.prog f i.args .normal) [] (w.forCall tape i)))
  (contract:∀ (W:World) (base:Nat) (args:Array Value) (ds gs:List (DataW H)) (before:List MemPlace),
   (∀ (j:Nat) t v,fn.params[j]?=some t→args[j]?=some v→Value.okWide C.prog W .any base t v) →
   DataW.Whole enc C.prog fn.params.toList s.vars apart W args.toList ds gs before→X W args→W.ShapedOpen C.prog →
   Calls C.prog f args W fun e W'=>∃ v,e=.returned v∧s.post enc C.prog fn apart fresh handsOn again W args v W') :
  ReturnsInHanded a C os f .any (fun w args=>(s.pre enc C.prog fn conds apart w args∧X w args)∧sizedMet enc C.prog fn (OpenSpec.ofChange s) apart w args) (s.post enc C.prog fn apart fresh handsOn again):=by
 refine returnsInHanded_of_calls own started noInit witness ?_
 intro w tape i _ hsh _ hok hpre _
 obtain⟨_,_,_,fn',hfn',_,_,_,_,hval⟩:=hok
 obtain rfl:fn'=fn:=Option.some.inj (hfn'.symm.trans hfn)
 obtain⟨⟨⟨ds,gs,before,hw,_⟩,hx⟩,_⟩:=hpre
 refine (contract (w.forCall tape i) w.heap.size i.args ds gs before hval (DataW.Whole.of_heap (w':=w.forCall tape i) (by rfl) hw) (hX _ _ _ (by rfl) hx) hsh).mono fun e W' h=>?_
 obtain⟨v,he,hp⟩:=h
 subst he
 exact ChangeSpec.post_blind hp
theorem strs_map {H:Type} : ∀ {a:List ByteArray} {l:List (List UInt8)},(strs a:List (DataW H))=l.map (fun x=>.lit (.string x))→a.map (fun b=>b.data.toList)=l
 | [],[],_=>rfl
 | [],_ :: _,h=>by simp[strs] at h
 | _ :: _,[],h=>by simp[strs] at h
 | b :: a,x :: l,h=>by
  simp[strs] at h
  simp only[List.map_cons,h.1]
  rw[strs_map (H:=H) (a:=a) (l:=l) (by simp[strs];exact h.2)]
theorem spot_of_cellS {w:World} {a:Addr} {v:Value} (h:w.cell? a=some v):a.spot=none:=(spot_of_cellD h).1
theorem strings_var {W:World} {n:String} {g t:Nat} {l:List (List UInt8)} (hr:Lib.VarReads Tryz.prog W n (.slice (l.map fun x=>.lit (.string x)) [])) (hg:Tryz.prog.globalNamed n=some g) (ht:(Tryz.prog.globals[g]?).map (·.type)=some t) (hu:Tryz.prog.underlying t=some (.slice 9)) (hl:l≠[]) :
  ∃ b o,W.cell? ⟨g,0,none⟩=some (.slice (some ⟨b,o,none⟩) l.length l.length)∧∀ j,j<l.length→W.cell? ⟨b,o+j,none⟩=some (.string ⟨(l.getD j []).toArray⟩):=by
 obtain⟨g',t',cs,fuel,p,hg',ht',hv,hd⟩:=hr
 obtain rfl:=Option.some.inj (hg.symm.trans hg')
 obtain rfl:=Option.some.inj (ht.symm.trans ht')
 rcases open_strings hu Tryz.underlying9 (by kernel_rfl) hd with ⟨_,h⟩ | ⟨a,len,cap,ss,hcs,_,hlc,_,hss,hx,hcell,_⟩
 ·cases h
 ·have hx1:=congrArg Prod.fst hx
  simp only[DataW.slice.injEq] at hx1
  obtain⟨h1,h2⟩:=hx1
  have h3:=strs_map h1.symm
  have h4:ss.drop len=[]:=by
   cases hq:ss.drop len with
   | nil=>rfl
   | cons x r=>rw[hq] at h2;simp[strs] at h2
  have h5:ss.take len=ss:=by
   rw[List.drop_eq_nil_iff] at h4;exact List.take_of_length_le h4
  rw[h5] at h3
  have hlen:len=l.length:=by
   have h6:ss.length≤len:=by rw[List.drop_eq_nil_iff] at h4;exact h4
   have h7:ss.length=l.length:=by rw[← h3];simp
   simp at hss;omega
  subst hlen
  have hgv:W.cell? ⟨g,0,none⟩=some (.slice (some a) l.length cap):=by
   rw[World.var?_cell hg hv 0]
   have:cs.toList[0]?=some (.slice (some a) l.length cap):=by rw[hcs];rfl
   simpa using this
  have hl0:0<l.length:=List.length_pos_iff.2 hl
  have hsl:ss.length=l.length:=by rw[← h3];simp
  have hs:=spot_of_cellS (hcell 0 (by omega))
  have hs0:a.spot=none:=by simpa [Addr.add] using hs
  have ha:a=⟨a.block,a.off,none⟩:=by cases a;simp_all
  have hcap:cap=l.length:=by simp at hss;omega
  subst hcap
  refine⟨a.block,a.off,by rw[← ha];exact hgv,fun j hj=>?_⟩
  have:=hcell j (by omega)
  rw[add_of_spotD hs0] at this
  have h8:(ss.map (fun b=>b.data.toList))[j]?=l[j]?:=by rw[h3]
  rw[List.getElem?_map] at h8
  have e1:ss[j]?=some (ss.getD j ByteArray.empty):=by rw[List.getD_eq_getElem?_getD,List.getElem?_eq_getElem (by omega)];rfl
  have e2:l[j]?=some (l.getD j []):=by rw[List.getD_eq_getElem?_getD,List.getElem?_eq_getElem hj];rfl
  rw[e1,e2] at h8
  have h9:(ss.getD j ByteArray.empty).data.toList=l.getD j []:=Option.some.inj h8
  have h10:ss.getD j ByteArray.empty=⟨(l.getD j []).toArray⟩:=bytes_ext h9
  rw[this,h10]
theorem glob_words : Tryz.prog.globalNamed "bailment/lex.words" = some 0 := by kernel_rfl
theorem laid_words:(Rows.laid_bailment_lex_words:DataW Unit)=.slice (Lx.words.map fun x=>.lit (.string x)) []:=by kernel_rfl
theorem words_row:Ev.wordsRow=Lx.words.map fun x=>Ev.AV.str (x.map UInt8.toNat):=by kernel_rfl
theorem size_of_reads {W:World} {n:String} {g:Nat} {d:DataW Unit} (hg:Tryz.prog.globalNamed n=some g) (h:Lib.VarReads Tryz.prog W n d):g<W.heap.size:=by
 obtain⟨g',t',cs,fuel,p,hg',ht',hvar,hd⟩:=h
 obtain rfl:=Option.some.inj (hg.symm.trans hg')
 unfold World.var? at hvar
 rw[hg] at hvar
 simp only[Option.bind_some] at hvar
 rcases Nat.lt_or_ge g W.heap.size with h' | h'
 ·exact h'
 ·rw[Array.getElem?_eq_none h'] at hvar;cases hvar
theorem glm_of {W:World} (hL:laidMetH Tryz.prog Rows.machineNilRow.laid W):GlM W:=by
 rw[MakeChecks.laidMetH_plain _ _ _ (by kernel_rfl)] at hL
 have r4 : Lib.VarReads Tryz.prog W "strconv.ErrRange" Rows.laid_strconv_ErrRange := Lib.laidMet.reads hL (by unfold Rows.machineNilRow; simp)
 have h4:10≤W.heap.size:=size_of_reads (g:=9) (by kernel_rfl) r4
 have r1 : Lib.VarReads Tryz.prog W "bailment/lex.words" Rows.laid_bailment_lex_words := Lib.laidMet.reads hL (by unfold Rows.machineNilRow; simp)
 rw[laid_words] at r1
 obtain⟨b,o,h1,h2⟩:=strings_var r1 glob_words (by kernel_rfl) Tryz.underlying68 (by decide)
 refine⟨⟨b,o,h1,fun j v hj=>?_⟩,h4⟩
 rw[words_row,List.getElem?_map] at hj
 obtain⟨x,hx,rfl⟩:=Option.map_eq_some_iff.1 hj
 have hlt:=(List.getElem?_eq_some_iff.1 hx).1
 refine⟨_,h2 j hlt,fun r=>?_⟩
 rw[List.getD_eq_getElem?_getD,hx]
 exact Ev.rel_str.2 ⟨_,rfl,by simp⟩
theorem own:ownKnob Tryz.prog.godebug=none:=by kernel_rfl
theorem laidOut:laidOutB Tryz.prog=true:=by kernel_rfl
end Go.Proofs.YtdmelebgdaiinaaGreatDoor
