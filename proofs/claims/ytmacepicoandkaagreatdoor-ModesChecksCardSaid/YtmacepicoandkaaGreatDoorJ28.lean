/- The program's cut: an atom: the walk. The reference's numbers' texts (the same walk as in the seat of Frame). The reference's splitter: its memory; which atom is the same. The reference's splitter: an atom: the walk. -/
import Derived.Laws.IdiomStrings
import Derived.Test.YtmacepicoandkaaGreatDoorJ12
import Derived.Test.YtmacepicoandkaaGreatDoorJ25
set_option linter.unusedVariables false
set_option linter.unusedSimpArgs false
namespace Go.Proofs.YtmacepicoandkaaGreatDoor
open Go.RowKit Go.Shelf Tx
def CutPost (e:List Nd) (base sp i:Nat) (A:List (List Nd)) (w:World) (av:Value) (r:Ending) (w':World):Prop :=
 ∃ v av',r=.returned v∧OwnE w.heap.size w' v ((Ux.cutF (T e i) A).1.flat 0)∧Blk w' sp #[av'] Tsp∧RwE base w' av' (Ux.cutF (T e i) A).2∧Gs sp w av w' av'
structure CutIn (e:List Nd) (base sp i:Nat) (A:List (List Nd)) (w:World) (ev av:Value):Prop where
 may:mayB e=true
 few:e.length≤5000
 lt:i<e.length
 row:OwnE base w ev e
 here:Blk w sp #[av] Tsp
 atoms:RwE base w av A
 sp:base≤sp
 many:A.length+(T e i).size≤500000
 lens:∀ y∈A,y.length≤1000000
 gl:∃ w00,Gl w00∧Below w00.heap.size w00 w∧w00.heap.size≤base
theorem CutIn.glAt {e:List Nd} {base sp i:Nat} {A:List (List Nd)} {w w':World} {ev av av':Value} (h:CutIn e base sp i A w ev av) (hG:Gs sp w av w' av'):Gl w':=by
 obtain⟨w0,g,hb,hs⟩:=h.gl
 exact g.below (hG.below hb hb.size (Nat.le_trans hs h.sp) (fun g hg=>Nat.le_trans hs (h.atoms.low g hg).1))
theorem cut_leafF {e:List Nd} {i:Nat} {x:Nd} {A:List (List Nd)} (hR:InR e) (hx:e[i]?=some x) (hl:Ux.isLogic x.op=false) :
  Ux.cutF (T e i) A=(.tr 3 0 (Ux.atomName (A.idxOf ((T e i).flat 0))) .no .no,if (T e i).flat 0∈A then A else A++[(T e i).flat 0]):=by
 have h:=T_at hx (hR i x hx)
 rw[h]
 simp only[Ux.cutF,hl,Bool.false_eq_true,if_false]
set_option maxRecDepth 100000 in
set_option maxHeartbeats 4000000 in
theorem cut_leaf (e:List Nd) (base sp i:Nat) (A:List (List Nd)) (w:World) (ev av:Value) (x:Nd) (hx:e[i]?=some x) (hl:Ux.isLogic x.op=false) (h:CutIn e base sp i A w ev av) :
  Calls Tryz.prog 51 #[.pointer (some ⟨sp,0,none⟩),ev,.int .i64 i] w (CutPost e base sp i A w av):=by
 obtain⟨a,c,rfl,hc⟩:=h.row.form
 obtain⟨n,hn⟩ : ∃ n,n=e.length:=⟨_,rfl⟩
 have hR:=(mayB_iff e).1 h.may |>.inR
 have HF:=Lib.hid (cut_leafF (A:=A) hR hx hl)
 obtain⟨a1,c1,hf1,-,hcell⟩:=h.row.isE.form
 cases hf1
 obtain⟨b,o,rfl,hg⟩:=hcell w (Below.refl _ _) i x hx
 obtain⟨k0,k1,k2,k3,k4,k5⟩:=nd_cells hg
 rw[← hn] at hc ⊢
 have hlt:(i:Int)<(n:Int):=by have:=h.lt;omega
 have hi0:(0:Int)≤(i:Int):=by omega
 obtain⟨X,hX⟩ : ∃ X,X=(T e i).flat 0:=⟨_,rfl⟩
 have hXl:X.length≤e.length:=by
  rw[hX,Fo.flat_len]
  have:=T_size hR ((mayB_iff e).1 h.may).nodup h.lt
  have:=h.lt;omega
 rw[← hX] at HF
 have nb:=(Below.refl w.heap.size w).alloc (Nat.le_refl _) (.cells #[.int .i64 x.op,.int .i64 x.a,.int .i64 x.b,.int .i64 x.c,.int .i64 x.n,.string x.s] 85)
 have hsub:Hid (∀ W,Below w.heap.size w W→Calls Tryz.prog 50 #[.slice (some ⟨b,o,none⟩) n c,.int .i64 i] W fun r w'=>∃ v,r=.returned v∧OwnE W.heap.size w' v X∧Below W.heap.size W w'):=fun W hW=>by
  have hs:=Sub_any e (.slice (some ⟨b,o,none⟩) n c) i W (by have:=h.few;omega) (by rw[hn];exact Sl.below h.row.isE hW)
  have e1:subL e (i:Int)=X:=by
   unfold subL;rw[if_pos ⟨by omega,by have:=h.lt;omega,h.may⟩,hX];simp
  rw[e1] at hs;exact hs
 have HIN:=Lib.hid h
 have HN:=Lib.hid hn
 have hlg:=fun W=>isLogic_any x.op W
 rw[hl] at hlg
 clear hcell hg h hR hX hx hl hn
 go_enter Tryz.func51,Tryz.ntmps51
 go_wp2_with fail
 refine (hlg _).mono ?_
 rintro r w1 ⟨rfl,hw1⟩
 have hb1:Below w.heap.size w w1:=by rw[hw1];exact nb
 have HB1:=Lib.hid hb1
 clear hlg hw1 nb hb1 k0 k1 k2 k3 k4 k5
 go_wp2_with fail
 refine (hsub.out w1 HB1.out).mono ?_
 rintro r w2 ⟨xv,rfl,hxo,hb2⟩
 obtain⟨xa,xc,rfl,hxc⟩:=hxo.form
 obtain⟨xl,hxl⟩ : ∃ xl,xl=X.length:=⟨_,rfl⟩
 rw[← hxl] at hxo hxc hXl ⊢
 have HXl:=Lib.hid hXl
 clear hXl
 have n3:=(Below.refl w2.heap.size w2).alloc (Nat.le_refl _) (.cells #[.slice xa xl xc] 54)
 have hb3:Below w.heap.size w (w2.alloc (.cells #[.slice xa xl xc] 54)):=below_next (below_next HB1.out hb2) n3
 have hxb:=Blk.new w2 #[.slice xa xl xc] 54
 have hxo3:=hxo.below n3
 have hsp3:=HIN.out.here.below hb3
 have hat3:=HIN.out.atoms.below hb3
 have HB3:=Lib.hid hb3
 have hz3:(w2.alloc (.cells #[.slice xa xl xc] 54)).heap.size=w2.heap.size+1:=by simp
 have hlt2:w.heap.size≤w2.heap.size:=by have:=hb2.size;have:=HB1.out.size;omega
 have HXO:=Lib.hid (hxo3.mono (b2:=w.heap.size) HB1.out.size)
 obtain⟨cs,fs⟩:=one_cell hsp3
 obtain⟨av0,hav0,hav1⟩:=hat3.len
 obtain⟨al,hal⟩ : ∃ al,al=A.length:=⟨_,rfl⟩
 rw[← hal] at hav1
 obtain⟨cx,fx⟩:=one_cell hxb
 have hXb:X.length≤1000000000:=by have:=HXl.out;have:=HIN.out.few;omega
 have hidx:=indexCut_any A X av w2.heap.size (.slice xa xl xc) (w2.alloc (.cells #[.slice xa xl xc] 54)) (by have:=HIN.out.many;omega)
  (RwE.sg (M:=A) (q:=id) (by simpa using hat3) (fun u y hu=>⟨u,rfl,OwnE.isE hu⟩)) cx hXb (fun y hy=>by have:=HIN.out.lens y hy;omega) hxo3.isE
 obtain⟨rfl,hav2⟩:=hav1
 have HSP3:=Lib.hid hsp3
 have HAT3:=Lib.hid hat3
 have HXL:=Lib.hid hxl
 have HAL:=Lib.hid hal
 have HBN:=Lib.hid hxb
 clear hb3 hxb hxo hxo3 hsp3 hat3 hb2 n3 hsub hxl hal hz3 HB1
 by_cases hm:X∈A
 ·rw[firstI_idx.1 hm] at hidx
  obtain⟨k,hk⟩ : ∃ k,k=A.idxOf X:=⟨_,rfl⟩
  rw[← hk] at hidx HF
  rw[if_pos hm] at HF
  have hkb:k<al:=by rw[hk,HAL.out];exact List.idxOf_lt_length_iff.2 hm
  have hk9:k≤500000:=by have:=HIN.out.many;have:=HAL.out;omega
  clear hm hk
  go_wp2_with fail
  refine hidx.mono ?_
  rintro r w4 ⟨rfl,q,hq⟩
  have hb4:Below (w2.alloc (.cells #[.slice xa xl xc] 54)).heap.size (w2.alloc (.cells #[.slice xa xl xc] 54)) w4:=by rw[hq];exact below_drawn (Below.refl _ _) q
  have HB4:=Lib.hid (below_next HB3.out hb4)
  have HSP4:=Lib.hid (HSP3.out.below hb4)
  have HAT4:=Lib.hid (HAT3.out.below hb4)
  obtain⟨tx,htx⟩ : ∃ tx:ByteArray,tx=⟨(Fx.dec k).toArray⟩:=⟨_,rfl⟩
  have hit:=itoa_any k (by omega) w4 (HIN.out.glAt (Gs.of_below _ HB4.out))
  rw[← htx] at hit
  have HNM:Hid ((⟨#[63]⟩ : ByteArray)++tx=Ux.atomName k):=by
   show _=_
   refine bytes_ext ?_
   rw[concat_bytes,htx];simp[Ux.atomName]
  have htxs:tx.size≤20:=by
   have h5:=(Fx.dec_is k).2.2.2.2 9 (by omega)
   rw[htx];show (Fx.dec k).toArray.size≤20;simp;omega
  have hk0:(0:Int)≤(k:Int):=by omega
  have hk1:¬ ((k:Int)<0):=by omega
  clear hidx hb4 hq cs fs cx fx htx
  go_wp2_with fail
  refine hit.mono ?_
  rintro r w5 ⟨rfl,hb5⟩
  have hj:=Join_any 3 0 ((⟨#[63]⟩ : ByteArray)++tx) [] (.slice none 0 0) w5 Sg.nil_ (fun F hF=>by simp at hF) (by simp[cat,Fo.size]) (by omega) (fun _=>by
   rw[kids_leaf,if_neg (by omega),if_neg (by omega),if_neg (by omega),if_neg (by omega),if_neg (by omega)];rfl)
  have HB5:=Lib.hid (below_next HB4.out hb5)
  have HSP5:=Lib.hid (HSP4.out.below hb5)
  have HAT5:=Lib.hid (HAT4.out.below hb5)
  clear hit hb5
  go_wp2_with fail
  refine hj.mono ?_
  rintro r w6 ⟨v6,rfl,ho6,hb6⟩
  have HB6:=Lib.hid (below_next HB5.out hb6)
  have HSP6:=Lib.hid (HSP5.out.below hb6)
  have HAT6:=Lib.hid (HAT5.out.below hb6)
  have HO6:Hid (OwnE w.heap.size w6 v6 ((Fo.tr 3 0 (Ux.atomName k) .no .no).flat 0)):=by
   show OwnE _ _ _ _
   rw[HNM.out] at ho6
   exact ho6.mono HB5.out.size
  clear hj hb6 ho6
  go_wp2_with fail
  go_ret
  exact⟨v6,_,rfl,by rw[HF.out];exact HO6.out,HSP6.out,by rw[HF.out];exact HAT6.out,Gs.of_below _ HB6.out⟩
 ·rw[firstI_idx.2 hm] at hidx
  have hix:A.idxOf X=al:=by rw[HAL.out];exact List.idxOf_eq_length hm
  rw[hix,if_neg hm] at HF
  have hk9:al≤500000:=by have:=HIN.out.many;have:=HAL.out;omega
  clear hm hix
  go_wp2_with fail
  refine hidx.mono ?_
  rintro r w4 ⟨rfl,q,hq⟩
  have hb4:Below (w2.alloc (.cells #[.slice xa xl xc] 54)).heap.size (w2.alloc (.cells #[.slice xa xl xc] 54)) w4:=by rw[hq];exact below_drawn (Below.refl _ _) q
  have HB4:=Lib.hid (below_next HB3.out hb4)
  have hsp4:=HSP3.out.below hb4
  have hat4:=HAT3.out.below hb4
  have hxo4:=HXO.out.below hb4
  have hbn4:=HBN.out.below hb4
  have hxl2:w2.heap.size<w4.heap.size:=hbn4.lt
  clear hidx hb4 hq cs fs cx fx
  obtain⟨cs,fs⟩:=one_cell hsp4
  obtain⟨cx,fx⟩:=one_cell hbn4
  obtain⟨vs,hrow,hvs⟩:=hat4.row
  rw[← HAL.out] at hrow
  have m4:=(Below.refl w4.heap.size w4).alloc (Nat.le_refl _) (.cells #[.slice xa xl xc] 54)
  have n0:=(m4.cell (p:=⟨sp,0,none⟩) hsp4.lt).trans cs
  have n1:=(m4.cell (p:=⟨w2.heap.size,0,none⟩) hxl2).trans cx
  have hspl:=hsp4.lt
  have hbl:base≤w4.heap.size:=by have:=HIN.out.sp;omega
  have hne:(Value.slice av0 al hav0).ownBlock≠some sp:=fun e=>by
   rcases hrow.2 with ⟨h1,_⟩ | ⟨g,cap,cur,h1,_,hg,_⟩
   ·rw[h1] at e;cases e
   ·rw[h1] at e;cases e
    unfold Blk at hsp4;rw[hsp4] at hg;cases hg
  have HSP4:=Lib.hid hsp4
  have HAT4:=Lib.hid hat4
  have HXO4:=Lib.hid hxo4
  have HVS:=Lib.hid hvs
  have HROW:=Lib.hid hrow
  have HNE:=Lib.hid hne
  have hk0:(0:Int)≤(al:Int):=by omega
  clear hsp4 hat4 hxo4 hvs m4 hbn4
  go_wp2_with fail
  go_region_law (refine step_atom (av:=.slice av0 al hav0) rfl _ _ rfl (sp:=sp) rfl rfl hrow (by omega) hbl rfl hne hspl cs fs ?_;intro g' cap' w1 hown1 hgrow1 hat1 hc1' hf1')
  all_goals
   obtain⟨hS,hA,hG⟩:=atom_more HAL.out.symm HSP4.out hrow HVS.out (HXO4.out.mono (by have:=HIN.out.sp;have:=HIN.out.here.lt;omega)) hne hown1 hgrow1 hat1
   generalize hW2:w1.setCell ⟨sp,0,none⟩ (.slice (some ⟨g',0,none⟩) (al+1) cap')=W2 at hS hA hG ⊢
   have HS:=Lib.hid hS
   have HA:=Lib.hid hA
   have HG:Hid (Gs sp w (.slice av0 al hav0) W2 (.slice (some ⟨g',0,none⟩) (al+1) cap')):=(Gs.of_below _ HB4.out).trans hG
   have HB:Hid (base≤W2.heap.size):=by have:=hS.lt;have:=HIN.out.sp;show _≤_;omega
   have HGL:Hid (Gl W2):=HIN.out.glAt HG.out
   clear hW2 hS hA hG hown1 hgrow1 hat1 hc1' hf1' hrow cs fs cx fx n0 n1 hne
   obtain⟨tx,htx⟩ : ∃ tx:ByteArray,tx=⟨(Fx.dec al).toArray⟩:=⟨_,rfl⟩
   have hit:=itoa_any al (by omega) W2 HGL.out
   rw[← htx] at hit
   have HNM:Hid ((⟨#[63]⟩ : ByteArray)++tx=Ux.atomName al):=by
    show _=_
    refine bytes_ext ?_
    rw[concat_bytes,htx];simp[Ux.atomName]
   have htxs:tx.size≤20:=by
    have h5:=(Fx.dec_is al).2.2.2.2 9 (by omega)
    rw[htx];show (Fx.dec al).toArray.size≤20;simp;omega
   clear htx
   go_wp2_with fail
   refine hit.mono ?_
   rintro r w5 ⟨rfl,hb5⟩
   have hj:=Join_any 3 0 ((⟨#[63]⟩ : ByteArray)++tx) [] (.slice none 0 0) w5 Sg.nil_ (fun F hF=>by simp at hF) (by simp[cat,Fo.size]) (by omega) (fun _=>by
    rw[kids_leaf,if_neg (by omega),if_neg (by omega),if_neg (by omega),if_neg (by omega),if_neg (by omega)];rfl)
   have HS5:=Lib.hid (HS.out.below hb5)
   have HA5:=Lib.hid (HA.out.below hb5)
   have HG5:=Lib.hid (HG.out.then hb5)
   clear hit hb5
   go_wp2_with fail
   refine hj.mono ?_
   rintro r w6 ⟨v6,rfl,ho6,hb6⟩
   have HS6:=Lib.hid (HS5.out.below hb6)
   have HA6:=Lib.hid (HA5.out.below hb6)
   have HG6:=Lib.hid (HG5.out.then hb6)
   have HO6:Hid (OwnE w.heap.size w6 v6 ((Fo.tr 3 0 (Ux.atomName al) .no .no).flat 0)):=by
    show OwnE _ _ _ _
    rw[HNM.out] at ho6
    exact ho6.mono HG5.out.size
   clear hj hb6 ho6
   go_wp2_with fail
   go_ret
   exact⟨v6,_,rfl,by rw[HF.out];exact HO6.out,HS6.out,by rw[HF.out];exact HA6.out,HG6.out⟩
end Go.Proofs.YtmacepicoandkaaGreatDoor
namespace Go.Proofs.YtmacepicoandkaaGreatDoor
open Go.RowKit Go.Shelf
theorem digit_conv (n:Nat) (w:World):(convert 149 9 (.slice (some ⟨w.heap.size,0,none⟩) 1 1)).run Tryz.prog (w.alloc (.cells #[.int .u8 (48+(n:Int) % 10)] 5))=.ok (.string ⟨#[Fx.dg (n % 10)]⟩) (w.alloc (.cells #[.int .u8 (48+(n:Int) % 10)] 5)):=by
 refine run_convert_bytes_back _ _ _ 5 _ 1 [Fx.dg (n % 10)] Tryz.underlying149 Tryz.underlying5 Tryz.underlying9 (fun j hj=>?_)
 have hj0:j=0:=by simpa using hj
 subst hj0
 have hb:=heap_alloc_new w (.cells #[.int .u8 (48+(n:Int) % 10)] 5)
 have e:((Fx.dg (n % 10)).toNat:Int)=48+(n:Int) % 10:=by rw[Fx.byte_of (by omega)];omega
 simp only[List.getElem_cons_zero,e]
 unfold World.cell? Addr.add
 simp only[Nat.add_zero,if_true]
 rw[hb];rfl
set_option maxRecDepth 100000 in
set_option maxHeartbeats 1000000 in
theorem rDigits_any:∀ (n:Nat),n<10000000000→∀ w:World,Calls Tryz.prog 65 #[.int .i64 n] w fun e w'=>∃ t:ByteArray,e=.returned (.string t)∧t.data.toList=Fx.dec n∧Below w.heap.size w w':=by
 intro n
 induction n using Nat.strongRecOn with
 | _ n ih =>
  intro hn w
  have h63:(n:Int)<10000000000:=by omega
  have hn0:(0:Int)≤(n:Int):=by omega
  have hm:(n:Int).tmod 10=(n:Int) % 10:=Int.tmod_eq_emod_of_nonneg hn0
  obtain⟨q,hq⟩ : ∃ q:Nat,q=n / 10:=⟨_,rfl⟩
  have hd:(n:Int).tdiv 10=(q:Int):=by rw[Int.tdiv_eq_ediv_of_nonneg hn0];omega
  have hd2:(n:Int) / 10=(q:Int):=by omega
  have HQ:Hid (q=n / 10):=hq
  clear hq
  have hcv:=digit_conv n w
  have hb:Below w.heap.size w (w.alloc (.cells #[.int .u8 (48+(n:Int) % 10)] 5)):=(Below.refl _ _).alloc (Nat.le_refl _) _
  by_cases hs:n<10
  ·have hs2:¬ (10:Int)≤(n:Int):=by omega
   have HD:Hid (Fx.dec n=[Fx.dg (n % 10)]):=by show _=_;rw[Fx.dec_small hs,Nat.mod_eq_of_lt hs]
   clear ih
   go_enter Tryz.func65,Tryz.ntmps65
   go_wp2_with fail
   go_ret
   exact⟨_,rfl,by rw[HD.out],hb⟩
  ·have hs2:(10:Int)≤(n:Int):=by omega
   have HD:Hid (Fx.dec n=Fx.dec q++[Fx.dg (n % 10)]):=by show _=_;rw[HQ.out];exact Fx.dec_big hs
   have HIH:Hid (∀ w,Calls Tryz.prog 65 #[.int .i64 (q:Int)] w fun e w'=>∃ t:ByteArray,e=.returned (.string t)∧t.data.toList=Fx.dec q∧t.size≤20∧Below w.heap.size w w'):=fun w=>by
    refine (ih q (by have:=HQ.out;omega) (by have:=HQ.out;omega) w).mono ?_
    rintro e w' ⟨t,h1,h2,h3⟩
    have:=(Fx.dec_is q).2.2.2.2 9 (by have:=HQ.out;omega)
    exact⟨t,h1,h2,by rw[← list_size,h2];omega,h3⟩
   clear ih
   go_enter Tryz.func65,Tryz.ntmps65
   go_wp2_with fail
   refine (HIH.out _).mono ?_
   rintro e w2 ⟨t,rfl,ht,hts,hb2⟩
   go_wp2_with fail
   go_ret
   exact⟨_,rfl,by rw[concat_bytes,ht,HD.out],below_next hb hb2⟩
end Go.Proofs.YtmacepicoandkaaGreatDoor
namespace Go.Proofs.YtmacepicoandkaaGreatDoor
namespace R
open Go.RowKit Go.Shelf Tx
abbrev Tsp:Nat:=78
structure Gs (sp:Nat) (w:World) (v:Value) (w':World) (v':Value):Prop where
 os:w'.os=w.os
 tape:w'.tape=w.tape
 output:w'.output=w.output
 size:w.heap.size≤w'.heap.size
 block:∀ k,k<w.heap.size→k≠sp→v.ownBlock≠some k→w'.heap[k]?=w.heap[k]?
 own:∀ g,v'.ownBlock=some g→v.ownBlock=some g∨w.heap.size≤g
section
variable {sp base : Nat} {w w1 w2 : World} {v v1 v2 : Value} {A : List (List Nd)}
theorem Gs.refl (sp:Nat) (w:World) (v:Value):Gs sp w v w v:=⟨rfl,rfl,rfl,Nat.le_refl _,fun _ _ _ _=>rfl,fun _ h=>Or.inl h⟩
theorem Gs.of_below (v:Value) (h:Below w.heap.size w w1):Gs sp w v w1 v:=⟨h.os,h.tape,h.output,h.size,fun k hk _ _=>h.block k hk,fun _ h=>Or.inl h⟩
theorem Gs.trans (h : Gs sp w v w1 v1) (k : Gs sp w1 v1 w2 v2) : Gs sp w v w2 v2 :=
  ⟨k.os.trans h.os, k.tape.trans h.tape, k.output.trans h.output, Nat.le_trans h.size k.size,
   fun i hi hs hn => (k.block i (Nat.lt_of_lt_of_le hi h.size) hs (fun e => by
     rcases h.own i e with q | q
     · exact hn q
     · omega)).trans (h.block i hi hs hn),
   fun g hg => by
     rcases k.own g hg with q | q
     · exact h.own g q
     · exact Or.inr (Nat.le_trans h.size q)⟩
theorem Gs.then (h:Gs sp w v w1 v1) (k:Below w1.heap.size w1 w2):Gs sp w v w2 v1:=h.trans (Gs.of_below _ k)
theorem Gs.other {u u' : Value} (h : Gs sp w v w1 v1) (k : Gr w1 u w2 u') (hu : ∀ g, u.ownBlock = some g → w.heap.size ≤ g) : Gs sp w v w2 v1 :=
  ⟨k.os.trans h.os, k.tape.trans h.tape, k.output.trans h.output, Nat.le_trans h.size k.size,
   fun i hi hs hn => (k.block i (Nat.lt_of_lt_of_le hi h.size) (fun e => by have := hu i e; omega)).trans (h.block i hi hs hn), h.own⟩
theorem Gs.below {w0:World} (h:Gs sp w v w1 v1) (hb:Below base w0 w) (hB:base≤w.heap.size) (hs:base≤sp) (hv:∀ g,v.ownBlock=some g→base≤g):Below base w0 w1 :=
 hb.trans ⟨h.os,h.tape,h.output,h.size,fun k hk=>h.block k (by omega) (by omega) (fun e=>by have:=hv k e;omega)⟩
theorem Gs.keeps (h:Gs sp w v w1 v1) (hs:Blk w sp #[v] Tsp) (hr:RwE base w v A) {b T:Nat} {cs:Array Value} {fr:Nat×Nat} (hb:w.heap[b]?=some (.cells cs T fr)) (hT1:T≠Tsp) (hT2:T≠54):w1.heap[b]?=some (.cells cs T fr):=by
 refine (h.block b (Array.getElem?_eq_some_iff.1 hb).1 ?_ ?_).trans hb
 ·rintro rfl
  unfold Blk at hs
  rw[hs] at hb
  cases hb;exact hT1 rfl
 ·intro e
  obtain⟨vs,h1,_⟩:=hr
  rcases h1.2 with ⟨rfl,_⟩ | ⟨g,cap,cur,rfl,_,hg,_⟩
  ·cases e
  ·cases e
   rw[hg] at hb
   cases hb;exact hT2 rfl
theorem Gs.blk (h:Gs sp w v w1 v1) (hs:Blk w sp #[v] Tsp) (hr:RwE base w v A) {b T:Nat} {cs:Array Value} (hb:Blk w b cs T) (hT1:T≠Tsp) (hT2:T≠54):Blk w1 b cs T:=h.keeps hs hr hb hT1 hT2
theorem Gs.row (h:Gs sp w v w1 v1) (hs:Blk w sp #[v] Tsp) (hr:RwE base w v A) {b2 e size n:Nat} {u:Value} {xs:List Value} (ho:w.ownsRow b2 e size u n xs) (hT1:e≠Tsp) (hT2:e≠54):w1.ownsRow b2 e size u n xs:=by
 refine⟨ho.1,?_⟩
 rcases ho.2 with h0 | ⟨g,cap,cur,rfl,hb,hg,rest⟩
 ·exact Or.inl h0
 ·exact Or.inr ⟨g,cap,cur,rfl,hb,h.keeps hs hr hg hT1 hT2,rest⟩
theorem Gs.ownE (h:Gs sp w v w1 v1) (hs:Blk w sp #[v] Tsp) (hr:RwE base w v A) {b2:Nat} {u:Value} {e:List Nd} (ho:OwnE b2 w u e):OwnE b2 w1 u e:=h.row hs hr ho (by decide) (by decide)
theorem Gs.rowI (h:Gs sp w v w1 v1) (hs:Blk w sp #[v] Tsp) (hr:RwE base w v A) {b2:Nat} {u:Value} {l:List Int} (ho:RowI b2 w u l):RowI b2 w1 u l:=by
 rcases ho with ho | ⟨g,h1,h2,h3⟩
 ·exact Or.inl ho
 ·exact Or.inr ⟨g,h1,h2,h.blk hs hr h3 (by decide) (by decide)⟩
theorem Gs.rwE (h:Gs sp w v w1 v1) (hs:Blk w sp #[v] Tsp) (hr:RwE base w v A) {b2:Nat} {u:Value} {L:List (List Nd)} (ho:RwE b2 w u L) (hd:∀ g,u.ownBlock=some g→v.ownBlock≠some g) :
  RwE b2 w1 u L∧∀ g,u.ownBlock=some g→v1.ownBlock≠some g:=by
 have hlow:=ho.low
 obtain⟨vs,h1,h2⟩:=ho
 refine⟨⟨vs,row_kept h1 (fun g hg he hl=>?_),fun i x e hx he=>h.ownE hs hr (h2 i x e hx he)⟩,fun g hg e=>?_⟩
 ·refine h.block g hl ?_ (hd g he)
  rintro rfl
  rcases h1.2 with ⟨rfl,_⟩ | ⟨g',cap,cur,rfl,_,hg',_⟩
  ·cases he
  ·cases he
   unfold Blk at hs
   rw[hs] at hg'
   cases hg'
 ·rcases h.own g e with q | q
  ·exact hd g hg q
  ·have:=(hlow g hg).2;omega
end
theorem rsetSp {base sp:Nat} {w:World} {v y u:Value} {A:List (List Nd)} (h:RwE base w v A) (hs:Blk w sp #[u] Tsp):RwE base (w.setCell ⟨sp,0,none⟩ y) v A:=by
 have key:∀ {b e size n:Nat} {u':Value} {xs:List Value},w.ownsRow b e size u' n xs→e≠Tsp→(w.setCell ⟨sp,0,none⟩ y).ownsRow b e size u' n xs:=fun {b e size n u' xs} ho he=>by
  refine row_kept ho fun g hg hu hl=>Below.heap_setCell _ _ _ _ ?_
  show g≠sp
  rintro rfl
  rcases ho.2 with ⟨rfl,_⟩ | ⟨g',cap,cur,rfl,_,hg',_⟩
  ·cases hu
  ·cases hu
   unfold Blk at hs;rw[hs] at hg'
   cases hg';exact he rfl
 obtain⟨vs,h1,h2⟩:=h
 exact⟨vs,key h1 (by decide),fun i x e hx he=>key (h2 i x e hx he) (by decide)⟩
theorem atom_more {base sp:Nat} {w4 w1:World} {av xv:Value} {A:List (List Nd)} {X:List Nd} {vs:List Value} {g cap al:Nat} (hal:A.length=al) (hs:Blk w4 sp #[av] Tsp) (hrow:w4.ownsRow base 54 1 av al vs)
  (hvs:∀ (i:Nat) (u:Value) (e:List Nd),vs[i]?=some u→A[i]?=some e→OwnE base w4 u e) (hx:OwnE base w4 xv X) (hne:av.ownBlock≠some sp)
  (hown:w1.ownsRow base 54 1 (.slice (some ⟨g,0,none⟩) (al+1) cap) (al+1) (vs++[xv])) (hgrow:((w4.alloc (.cells #[xv] 54)).drew).grownBy w1 av.ownBlock) (hat:av.ownBlock=some g∨g=w4.heap.size+1) :
  Blk (w1.setCell ⟨sp,0,none⟩ (.slice (some ⟨g,0,none⟩) (al+1) cap)) sp #[.slice (some ⟨g,0,none⟩) (al+1) cap] Tsp∧RwE base (w1.setCell ⟨sp,0,none⟩ (.slice (some ⟨g,0,none⟩) (al+1) cap)) (.slice (some ⟨g,0,none⟩) (al+1) cap) (A++[X]) ∧
   Gs sp w4 av (w1.setCell ⟨sp,0,none⟩ (.slice (some ⟨g,0,none⟩) (al+1) cap)) (.slice (some ⟨g,0,none⟩) (al+1) cap):=by
 have hgrow2:(w4.alloc (.cells #[xv] 54)).grownBy w1 av.ownBlock:=⟨hgrow.os,hgrow.tape,hgrow.output,hgrow.size,hgrow.block⟩
 have hlt:=hs.lt
 have hs1:Blk w1 sp #[av] Tsp:=by
  unfold Blk
  rw[hgrow2.block sp (by show sp<(w4.heap.push _).size;simp;omega) (fun e=>hne e.symm)]
  exact (Below.heap_alloc _ _ _ hlt).trans hs
 have hr:=RwE.push hal hrow hvs hx hown hgrow2
 have hgr:Gr w4 av w1 (.slice (some ⟨g,0,none⟩) (al+1) cap):=gr_append hgrow2 hat
 refine⟨?_,rsetSp hr hs1,⟨hgr.os,hgr.tape,hgr.output,?_,fun k hk hks hn=>?_,hgr.own⟩⟩
 ·exact hs1.set1 _
 ·have:=hgr.size;simp[World.setCell];omega
 ·rw[Below.heap_setCell _ _ _ _ (by show k≠sp;exact hks)]
  exact hgr.block k hk hn
set_option maxHeartbeats 1000000 in
theorem rIs_any (op:Int) (w:World):Calls Tryz.prog 61 #[.int .i64 op] w fun r w'=>r=.returned (.bool (Ux.isLogic op))∧w'=w:=by
 have HF:Hid (Ux.isLogic op=((op==2) || (op==4) || (op==6) || (op==7) || (op==8) || (op==9) || (op==26))):=by
  show _=_
  unfold Ux.isLogic
  rw[Bool.eq_iff_iff];simp;omega
 go_enter Tryz.func61,Tryz.ntmps61
 go_wp2_with fail
 all_goals
  go_ret
  exact⟨ret_bool (by rw[HF.out] <;> simp_all),rfl⟩
set_option maxRecDepth 100000 in
set_option maxHeartbeats 1000000 in
theorem find_any (A:List (List Nd)) (x:List Nd) (v:Value) (xv:Value) (w:World) (hl:A.length≤1000000) (hv:Sg 1 IsL w v A) (hxl:x.length≤1000000000) (hA:∀ y∈A,y.length≤1000000000) (hx:IsE w xv x) :
  Calls Tryz.prog 64 #[v,xv] w fun r w'=>r=.returned (.int .i64 (firstI (fun y=>decide (x=y)) A))∧∃ k,w'=w.drewN k:=by
 obtain⟨a,c,rfl,hc,hcell⟩:=hv.form keepsL
 obtain⟨xa,xc,hxv,-,-⟩:=hx.form
 subst hxv
 obtain⟨n,hn⟩ : ∃ n,n=A.length:=⟨_,rfl⟩
 obtain⟨xl,hxl2⟩ : ∃ xl,xl=x.length:=⟨_,rfl⟩
 rw[← hn] at hc hl ⊢
 rw[← hxl2] at hx ⊢
 have HN:=Lib.hid hn
 have HC:=Lib.hid hcell
 have HX:=Lib.hid hx
 have HXL:=Lib.hid hxl2
 clear hn hv hcell hx hxl2
 go_enter Tryz.func64,Tryz.ntmps64
 go_wp2_with fail
 go_loopw [5] (fun i wr=>∃ k:Nat,i=.int .i64 k∧k≤n∧(A.take k).any (fun y=>decide (x=y))=false∧∃ q,wr=w.drewN q) (fun i _=>n - (intOf i).toNat)
 case atStart=>exact⟨0,rfl,Nat.zero_le _,rfl,0,rfl⟩
 case round =>
  obtain⟨k,rfl,hk,hno,q,hW⟩:=hrel
  have hbw:Below w.heap.size w wr:=by rw[hW];exact below_drawn (Below.refl _ _) q
  by_cases hlt:k<n
  ·obtain⟨y,hi⟩ : ∃ y,A[k]?=some y:=⟨_,List.getElem?_eq_getElem (by have:=HN.out;omega)⟩
   obtain⟨b,o,cs,rfl,⟨u,rfl,hu⟩,g⟩:=HC.out wr hbw k y hi
   have cx:=g 0 _ rfl
   simp only[Nat.mul_one,Nat.add_zero] at cx
   have hkn:(k:Int)<(n:Int):=by omega
   have hk0:(0:Int)≤(k:Int):=by omega
   have hf:=Same_any y x u (.slice xa xl xc) wr (hA y (List.mem_of_getElem? hi)) hxl hu (Sl.below HX.out hbw)
   obtain⟨d,hd⟩ : ∃ d,d=decide (x=y):=⟨_,rfl⟩
   have hd2:decide (y=x)=d:=by rw[hd];exact decide_eq_decide.2 eq_comm
   rw[hd2] at hf
   have HD:=Lib.hid hd
   have HI:=Lib.hid hi
   have HNO:=Lib.hid hno
   have HW:=Lib.hid hW
   obtain⟨ua,uc,rfl,-,-⟩:=hu.form
   clear g hi hno hu hbw hd hd2 hW
   go_wp2_with fail
   refine hf.mono ?_
   rintro r w1 ⟨rfl,q2,hq2⟩
   have HQ2:=Lib.hid hq2
   clear hf hq2
   cases d
   ·have HF:Hid ((A.take (k+1)).any (fun y=>decide (x=y))=false):=by show _=_;rw[any_upTo _ HI.out,HNO.out,← HD.out];rfl
    go_wp2_with fail
    go_roundw
    case rel=>exact⟨k+1,by go_num,by omega,HF.out,q+q2,by rw[HQ2.out,HW.out,World.drewN_drewN]⟩
    case measure=>simp[intOf];omega
   ·have HF:Hid (firstI (fun y=>decide (x=y)) A=(k:Int)):=firstI_at HI.out HD.out.symm HNO.out
    go_wp2_with fail
    go_ret
    exact⟨by rw[HF.out];rfl,q+q2,by rw[HQ2.out,HW.out,World.drewN_drewN]⟩
  ·have hke:k=n:=by omega
   subst hke
   have HF:Hid (firstI (fun y=>decide (x=y)) A = -1):=by
    rw[List.take_of_length_le (by have:=HN.out;omega)] at hno
    exact firstI_none hno
   have HW:=Lib.hid hW
   clear hno hW hbw
   go_wp2_with fail
   go_ret
   exact⟨by rw[HF.out];rfl,q,HW.out⟩
end R
end Go.Proofs.YtmacepicoandkaaGreatDoor
namespace Go.Proofs.YtmacepicoandkaaGreatDoor
namespace R
open Go.RowKit Go.Shelf Tx
def CutPost (e:List Nd) (base sp i:Nat) (A:List (List Nd)) (w:World) (av:Value) (r:Ending) (w':World):Prop :=
 ∃ v av',r=.returned v∧OwnE w.heap.size w' v ((Ux.cutF (T e i) A).1.flat 0)∧Blk w' sp #[av'] Tsp∧RwE base w' av' (Ux.cutF (T e i) A).2∧Gs sp w av w' av'
structure CutIn (e:List Nd) (base sp i:Nat) (A:List (List Nd)) (w:World) (ev av:Value):Prop where
 may:mayB e=true
 few:e.length≤5000
 lt:i<e.length
 row:OwnE base w ev e
 here:Blk w sp #[av] Tsp
 atoms:RwE base w av A
 sp:base≤sp
 many:A.length+(T e i).size≤500000
 lens:∀ y∈A,y.length≤1000000
set_option maxRecDepth 100000 in
set_option maxHeartbeats 4000000 in
theorem cut_leaf (e:List Nd) (base sp i:Nat) (A:List (List Nd)) (w:World) (ev av:Value) (x:Nd) (hx:e[i]?=some x) (hl:Ux.isLogic x.op=false) (h:CutIn e base sp i A w ev av) :
  Calls Tryz.prog 35 #[.pointer (some ⟨sp,0,none⟩),ev,.int .i64 i] w (CutPost e base sp i A w av):=by
 obtain⟨a,c,rfl,hc⟩:=h.row.form
 obtain⟨n,hn⟩ : ∃ n,n=e.length:=⟨_,rfl⟩
 have hR:=(mayB_iff e).1 h.may |>.inR
 have HF:=Lib.hid (cut_leafF (A:=A) hR hx hl)
 obtain⟨a1,c1,hf1,-,hcell⟩:=h.row.isE.form
 cases hf1
 obtain⟨b,o,rfl,hg⟩:=hcell w (Below.refl _ _) i x hx
 obtain⟨k0,k1,k2,k3,k4,k5⟩:=nd_cells hg
 rw[← hn] at hc ⊢
 have hlt:(i:Int)<(n:Int):=by have:=h.lt;omega
 have hi0:(0:Int)≤(i:Int):=by omega
 obtain⟨X,hX⟩ : ∃ X,X=(T e i).flat 0:=⟨_,rfl⟩
 have hXl:X.length≤e.length:=by
  rw[hX,Fo.flat_len]
  have:=T_size hR ((mayB_iff e).1 h.may).nodup h.lt
  have:=h.lt;omega
 rw[← hX] at HF
 have nb:=(Below.refl w.heap.size w).alloc (Nat.le_refl _) (.cells #[.int .i64 x.op,.int .i64 x.a,.int .i64 x.b,.int .i64 x.c,.int .i64 x.n,.string x.s] 85)
 have hsub:Hid (∀ W,Below w.heap.size w W→Calls Tryz.prog 63 #[.slice (some ⟨b,o,none⟩) n c,.int .i64 i] W fun r w'=>∃ v,r=.returned v∧OwnE W.heap.size w' v X∧Below W.heap.size W w'):=fun W hW=>by
  have hs:=rSub_any e (.slice (some ⟨b,o,none⟩) n c) i W (by have:=h.few;omega) (by rw[hn];exact Sl.below h.row.isE hW)
  have e1:subL e (i:Int)=X:=by
   unfold subL;rw[if_pos ⟨by omega,by have:=h.lt;omega,h.may⟩,hX];simp
  rw[e1] at hs;exact hs
 have HIN:=Lib.hid h
 have HN:=Lib.hid hn
 have hlg:=fun W=>rIs_any x.op W
 rw[hl] at hlg
 clear hcell hg h hR hX hx hl hn
 go_enter Tryz.func35,Tryz.ntmps35
 go_wp2_with fail
 refine (hlg _).mono ?_
 rintro r w1 ⟨rfl,hw1⟩
 have hb1:Below w.heap.size w w1:=by rw[hw1];exact nb
 have HB1:=Lib.hid hb1
 clear hlg hw1 nb hb1 k0 k1 k2 k3 k4 k5
 go_wp2_with fail
 refine (hsub.out w1 HB1.out).mono ?_
 rintro r w2 ⟨xv,rfl,hxo,hb2⟩
 obtain⟨xa,xc,rfl,hxc⟩:=hxo.form
 obtain⟨xl,hxl⟩ : ∃ xl,xl=X.length:=⟨_,rfl⟩
 rw[← hxl] at hxo hxc hXl ⊢
 have HXl:=Lib.hid hXl
 clear hXl
 have hb3:Below w.heap.size w w2:=below_next HB1.out hb2
 have hsp3:=HIN.out.here.below hb3
 have hat3:=HIN.out.atoms.below hb3
 have HB3:=Lib.hid hb3
 have HXO:=Lib.hid (hxo.mono (b2:=w.heap.size) HB1.out.size)
 obtain⟨cs,fs⟩:=one_cell hsp3
 obtain⟨av0,hav0,hav1⟩:=hat3.len
 obtain⟨al,hal⟩ : ∃ al,al=A.length:=⟨_,rfl⟩
 rw[← hal] at hav1
 have hXb:X.length≤1000000000:=by have:=HXl.out;have:=HIN.out.few;omega
 have hidx:=find_any A X av (.slice xa xl xc) w2 (by have:=HIN.out.many;omega)
  (RwE.sg (M:=A) (q:=id) (by simpa using hat3) (fun u y hu=>⟨u,rfl,OwnE.isE hu⟩)) hXb (fun y hy=>by have:=HIN.out.lens y hy;omega) hxo.isE
 obtain⟨rfl,hav2⟩:=hav1
 have HSP3:=Lib.hid hsp3
 have HAT3:=Lib.hid hat3
 have HXL:=Lib.hid hxl
 have HAL:=Lib.hid hal
 clear hb3 hxo hsp3 hat3 hb2 hsub hxl hal HB1
 by_cases hm:X∈A
 ·rw[firstI_idx.1 hm] at hidx
  obtain⟨k,hk⟩ : ∃ k,k=A.idxOf X:=⟨_,rfl⟩
  rw[← hk] at hidx HF
  rw[if_pos hm] at HF
  have hkb:k<al:=by rw[hk,HAL.out];exact List.idxOf_lt_length_iff.2 hm
  have hk9:k≤500000:=by have:=HIN.out.many;have:=HAL.out;omega
  clear hm hk
  go_wp2_with fail
  refine hidx.mono ?_
  rintro r w4 ⟨rfl,q,hq⟩
  have hb4:Below w2.heap.size w2 w4:=by rw[hq];exact below_drawn (Below.refl _ _) q
  have HB4:=Lib.hid (below_next HB3.out hb4)
  have HSP4:=Lib.hid (HSP3.out.below hb4)
  have HAT4:=Lib.hid (HAT3.out.below hb4)
  have hit:=rDigits_any k (by omega) w4
  have hk0:(0:Int)≤(k:Int):=by omega
  have hk1:¬ ((k:Int)<0):=by omega
  clear hidx hb4 hq cs fs
  go_wp2_with fail
  refine hit.mono ?_
  rintro r w5 ⟨tx,rfl,htx,hb5⟩
  have htxs:tx.size≤20:=by
   have h5:=(Fx.dec_is k).2.2.2.2 9 (by omega)
   rw[← list_size,htx];omega
  have HNM:Hid ((⟨#[63]⟩ : ByteArray)++tx=Ux.atomName k):=by
   show _=_
   refine bytes_ext ?_
   rw[concat_bytes,htx];simp[Ux.atomName]
  clear htx
  have hj:=rJoin_any 3 0 ((⟨#[63]⟩ : ByteArray)++tx) [] (.slice none 0 0) w5 Sg.nil_ (fun F hF=>by simp at hF) (by simp[cat,Fo.size]) (by omega) (fun _=>by
   rw[kids_leaf,if_neg (by omega),if_neg (by omega),if_neg (by omega),if_neg (by omega),if_neg (by omega)];rfl)
  have HB5:=Lib.hid (below_next HB4.out hb5)
  have HSP5:=Lib.hid (HSP4.out.below hb5)
  have HAT5:=Lib.hid (HAT4.out.below hb5)
  clear hit hb5
  go_wp2_with fail
  refine hj.mono ?_
  rintro r w6 ⟨v6,rfl,ho6,hb6⟩
  have HB6:=Lib.hid (below_next HB5.out hb6)
  have HSP6:=Lib.hid (HSP5.out.below hb6)
  have HAT6:=Lib.hid (HAT5.out.below hb6)
  have HO6:Hid (OwnE w.heap.size w6 v6 ((Fo.tr 3 0 (Ux.atomName k) .no .no).flat 0)):=by
   show OwnE _ _ _ _
   rw[HNM.out] at ho6
   exact ho6.mono HB5.out.size
  clear hj hb6 ho6
  go_wp2_with fail
  go_ret
  exact⟨v6,_,rfl,by rw[HF.out];exact HO6.out,HSP6.out,by rw[HF.out];exact HAT6.out,Gs.of_below _ HB6.out⟩
 ·rw[firstI_idx.2 hm] at hidx
  have hix:A.idxOf X=al:=by rw[HAL.out];exact List.idxOf_eq_length hm
  rw[hix,if_neg hm] at HF
  have hk9:al≤500000:=by have:=HIN.out.many;have:=HAL.out;omega
  clear hm hix
  go_wp2_with fail
  refine hidx.mono ?_
  rintro r w4 ⟨rfl,q,hq⟩
  have hb4:Below w2.heap.size w2 w4:=by rw[hq];exact below_drawn (Below.refl _ _) q
  have HB4:=Lib.hid (below_next HB3.out hb4)
  have hsp4:=HSP3.out.below hb4
  have hat4:=HAT3.out.below hb4
  have hxo4:=HXO.out.below hb4
  clear hidx hb4 hq cs fs
  obtain⟨cs,fs⟩:=one_cell hsp4
  obtain⟨vs,hrow,hvs⟩:=hat4.row
  rw[← HAL.out] at hrow
  have hspl:=hsp4.lt
  have hbl:base≤w4.heap.size:=by have:=HIN.out.sp;omega
  have hne:(Value.slice av0 al hav0).ownBlock≠some sp:=fun e=>by
   rcases hrow.2 with ⟨h1,_⟩ | ⟨g,cap,cur,h1,_,hg,_⟩
   ·rw[h1] at e;cases e
   ·rw[h1] at e;cases e
    unfold Blk at hsp4;rw[hsp4] at hg;cases hg
  have HSP4:=Lib.hid hsp4
  have HAT4:=Lib.hid hat4
  have HXO4:=Lib.hid hxo4
  have HVS:=Lib.hid hvs
  have HROW:=Lib.hid hrow
  have HNE:=Lib.hid hne
  have hk0:(0:Int)≤(al:Int):=by omega
  clear hsp4 hat4 hxo4 hvs
  go_wp2_with (at_builtin;refine wpList_app rowE rfl _ _ rfl base _ _ _ rfl (hrow.alloc _) ⟨w4.heap.size,0,none⟩ 1 [.slice xa xl xc] rfl rfl ?c1 ?c2 ?c3 ?c4 (w4.heap.size+1) ?c5 ?_)
  case c1=>exact World.news_of_block (heap_alloc_new w4 _)
  case c2=>simp[Value.oneCell']
  case c3=>omega
  case c4=>simp;omega
  case c5=>simp
  intro g' cap' w1 hown1 hgrow1 hat1 hlt1 hcap1
  have hS1:Blk w1 sp #[.slice av0 al hav0] Tsp:=by
   unfold Blk
   rw[hgrow1.block sp (by show sp<(w4.heap.push _).size;simp;omega) (fun e=>hne e.symm)]
   exact (Below.heap_alloc _ _ _ hspl).trans HSP4.out
  obtain⟨cs1,fs1⟩:=one_cell hS1
  have hgrow2:((w4.alloc (.cells #[.slice xa xl xc] 54)).drew).grownBy w1 (Value.slice av0 al hav0).ownBlock:=⟨hgrow1.os,hgrow1.tape,hgrow1.output,hgrow1.size,hgrow1.block⟩
  have HM:=Lib.hid (atom_more HAL.out.symm HSP4.out hrow HVS.out (HXO4.out.mono (by have:=HIN.out.sp;have:=HIN.out.here.lt;omega)) hne hown1 hgrow2 hat1)
  clear hS1 hown1 hgrow1 hgrow2 hat1 hlt1 hcap1 hrow cs fs hne
  go_wp2_with fail
  obtain⟨hS,hA,hG⟩:=HM.out
  generalize hW2:w1.setCell ⟨sp,0,none⟩ (.slice (some ⟨g',0,none⟩) (al+1) cap')=W2 at hS hA hG ⊢
  have HS:=Lib.hid hS
  have HA:=Lib.hid hA
  have HG:Hid (Gs sp w (.slice av0 al hav0) W2 (.slice (some ⟨g',0,none⟩) (al+1) cap')):=(Gs.of_below _ HB4.out).trans hG
  clear hW2 hS hA hG cs1 fs1 HM
  have hit:=rDigits_any al (by omega) W2
  go_wp2_with fail
  refine hit.mono ?_
  rintro r w5 ⟨tx,rfl,htx,hb5⟩
  have htxs:tx.size≤20:=by
   have h5:=(Fx.dec_is al).2.2.2.2 9 (by omega)
   rw[← list_size,htx];omega
  have HNM:Hid ((⟨#[63]⟩ : ByteArray)++tx=Ux.atomName al):=by
   show _=_
   refine bytes_ext ?_
   rw[concat_bytes,htx];simp[Ux.atomName]
  clear htx
  have hj:=rJoin_any 3 0 ((⟨#[63]⟩ : ByteArray)++tx) [] (.slice none 0 0) w5 Sg.nil_ (fun F hF=>by simp at hF) (by simp[cat,Fo.size]) (by omega) (fun _=>by
   rw[kids_leaf,if_neg (by omega),if_neg (by omega),if_neg (by omega),if_neg (by omega),if_neg (by omega)];rfl)
  have HS5:=Lib.hid (HS.out.below hb5)
  have HA5:=Lib.hid (HA.out.below hb5)
  have HG5:=Lib.hid (HG.out.then hb5)
  clear hit hb5
  go_wp2_with fail
  refine hj.mono ?_
  rintro r w6 ⟨v6,rfl,ho6,hb6⟩
  have HS6:=Lib.hid (HS5.out.below hb6)
  have HA6:=Lib.hid (HA5.out.below hb6)
  have HG6:=Lib.hid (HG5.out.then hb6)
  have HO6:Hid (OwnE w.heap.size w6 v6 ((Fo.tr 3 0 (Ux.atomName al) .no .no).flat 0)):=by
   show OwnE _ _ _ _
   rw[HNM.out] at ho6
   exact ho6.mono HG5.out.size
  clear hj hb6 ho6
  go_wp2_with fail
  go_ret
  exact⟨v6,_,rfl,by rw[HF.out];exact HO6.out,HS6.out,by rw[HF.out];exact HA6.out,HG6.out⟩
end R
end Go.Proofs.YtmacepicoandkaaGreatDoor
