/- How an expression over atoms is reckoned of functions: the walk. (printed by gen/runint.py) -/
import Derived.Deep.RegionHeld3
import Derived.Test.YtmacepicoandkaaGreatDoorJ33
set_option linter.unusedVariables false
set_option linter.unusedSimpArgs false
namespace Go.Proofs.YtmacepicoandkaaGreatDoor
open Go.RowKit Go.Shelf Tx
abbrev algI (sb:Nat):Value:=.agg #[(.func (.func 53) #[.pointer (some ⟨sb,0,none⟩)] #[]),(.func (.func 26) #[.pointer (some ⟨sb,0,none⟩)] #[]),(.func (.func 55) #[.pointer (some ⟨sb,0,none⟩)] #[])]
def goodI (e:List Nd):Bool:=mayB e&&e.all (fun x=>!Ux.badP x)
theorem goodI_may {e:List Nd} (h:mayB e=false):goodI e=false:=by unfold goodI;rw[h];rfl
theorem goodI_bad {e:List Nd} {t:Nat} {x:Nd} (hx:e[t]?=some x) (h:Ux.badP x=true):goodI e=false:=by
 unfold goodI
 rw[Bool.and_eq_false_iff];right
 rw[Bool.eq_false_iff]
 intro q
 have:=List.all_eq_true.1 q x (List.mem_of_getElem? hx)
 rw[h] at this;cases this
theorem goodI_yes {e:List Nd} (hm:mayB e=true) (h:∀ (j:Nat) (x:Nd),e[j]?=some x→Ux.badP x=false):goodI e=true:=by
 unfold goodI
 rw[hm,Bool.true_and,List.all_eq_true]
 intro x hx
 obtain⟨j,hj⟩:=List.mem_iff_getElem?.1 hx
 rw[h j x hj];rfl
theorem far_set' {W:World} {p q i j:Nat} {x u:Value} (h:W.cell? ⟨q,j,none⟩=some u) (hne:q≠p):(W.setCell ⟨p,i,none⟩ x).cell? ⟨q,j,none⟩=some u:=far_set h hne
theorem off_set' {W:World} {p i j:Nat} {x u:Value} (h:W.cell? ⟨p,j,none⟩=some u) (hne:j≠i):(W.setCell ⟨p,i,none⟩ x).cell? ⟨p,j,none⟩=some u:=off_set h hne
def RunPost (e:List Nd) (B:Nat) (w:World) (s0:St) (r:Ending) (w':World):Prop :=
 ∃ (v er:Int) (s':St),r=.returned (.tuple #[.int .i64 v,.int .i64 er])∧RunI B w s0 w' s'∧s'.ns.length≤s0.ns.length+(e.length+e.length * (2 * 2 ^ s0.vars)) ∧
  ((goodI e=false∧er=1∧v=0)∨(goodI e=true∧er=18∧v=0∧s'.ns.length=s0.budget)∨(goodI e=true∧er=0∧DenI s' v (fun l=>Ux.valL l e)))
set_option maxRecDepth 100000 in
set_option maxHeartbeats 16000000 in
theorem runI_any (e:List Nd) (v:Value) (s0:St) (B:Nat) (w:World) (he:e.length≤5000) (hs:∀ x∈e,x.s.size≤281474976710656) (hB:B≤w.heap.size) (hE:∀ W,Below B w W→IsE W v e) (hG:∀ W,Below B w W→Gl W) (hS0:StoreAt w s0) (hbl:∀ k,s0.bl k→B≤k)
  (hin:∀ x∈e,x.op=3→∀ m,Ux.numP x.s=some m→0≤m∧m<(s0.vars:Int)) :
  Calls Tryz.prog 54 #[algI s0.sb,v] w (RunPost e B w s0):=by
 obtain⟨i0,hi,hz0,hz1,hz2⟩:=info_parts infoI
 have nb:=(Below.refl w.heap.size w).alloc (Nat.le_refl _) (.cells #[(.func (.func 53) #[.pointer (some ⟨s0.sb,0,none⟩)] #[]),(.func (.func 26) #[.pointer (some ⟨s0.sb,0,none⟩)] #[]),(.func (.func 55) #[.pointer (some ⟨s0.sb,0,none⟩)] #[])] 111)
 have kb:=Blk.new w #[(.func (.func 53) #[.pointer (some ⟨s0.sb,0,none⟩)] #[]),(.func (.func 26) #[.pointer (some ⟨s0.sb,0,none⟩)] #[]),(.func (.func 55) #[.pointer (some ⟨s0.sb,0,none⟩)] #[])] 111
 obtain⟨W0,hW0⟩ : ∃ W0,W0=w.alloc (.cells #[(.func (.func 53) #[.pointer (some ⟨s0.sb,0,none⟩)] #[]),(.func (.func 26) #[.pointer (some ⟨s0.sb,0,none⟩)] #[]),(.func (.func 55) #[.pointer (some ⟨s0.sb,0,none⟩)] #[])] 111):=⟨_,rfl⟩
 rw[← hW0] at nb kb
 have HNB:Hid (∀ W,Below W0.heap.size W0 W→Below w.heap.size w W):=fun W h=>below_next nb h
 have HBB:=Lib.hid hB
 have HNX:Hid (∀ W,Below W0.heap.size W0 W→Below B w W):=fun W h=>(below_next nb h).mono hB
 have HKB:Hid (∀ W,Below W0.heap.size W0 W→Blk W w.heap.size #[(.func (.func 53) #[.pointer (some ⟨s0.sb,0,none⟩)] #[]),(.func (.func 26) #[.pointer (some ⟨s0.sb,0,none⟩)] #[]),(.func (.func 55) #[.pointer (some ⟨s0.sb,0,none⟩)] #[])] 111):=fun W h=>kb.below h
 have HRI:Hid (∀ W,Below W0.heap.size W0 W→RunI B w s0 W s0):=fun W h=>RunI.pure ⟨hS0,More.refl _ _,Below.refl _ _,hbl,Fr.refl _ _⟩ (below_next nb h) hB
 have HSL:Hid (¬ s0.bl w.heap.size):=fun h=>by have:=hS0.lt h;omega
 have hmay:=May_any e v W0 (by omega) (hE W0 (nb.mono hB))
 obtain⟨a,c,rfl,hcl,-⟩:=(hE w (Below.refl _ _)).form
 have hx:∀ W,Below B w W→∀ i x,e[i]?=some x→∃ b o,a=some ⟨b,o,none⟩∧∀ j u,(ndL x)[j]?=some u→W.cell? ⟨b,o+i * 6+j,none⟩=some u:=fun W h=>by
  obtain⟨a',c',e',-,hx'⟩:=(hE W h).form
  cases e';exact hx' W (Below.refl _ _)
 obtain⟨n,hn⟩ : ∃ n,n=e.length:=⟨_,rfl⟩
 rw[← hn] at hcl he hmay ⊢
 have HN:=Lib.hid hn
 have HX:=Lib.hid hx
 have HS:=Lib.hid hs
 have HG:=Lib.hid hG
 have HIN:=Lib.hid hin
 have HW0:=Lib.hid hW0
 have HSM:Hid (s0.vars≤30∧s0.ns.length≤10000):=⟨hS0.small,hS0.len⟩
 obtain⟨bg,hbg⟩ : ∃ bg,bg=w.heap.size:=⟨_,rfl⟩
 have HBG:=Lib.hid hbg
 clear hn hx hE hG nb kb hW0 hs hbg hS0 hbl hin hB
 cases hmy:mayB e with
 | false =>
  have HF:Hid (goodI e=false):=goodI_may hmy
  rw[hmy] at hmay
  clear hmy
  go_enter Tryz.func54,Tryz.ntmps54
  go_wp2_with fail
  rw[← HW0.out]
  refine hmay.mono ?_
  rintro r w1 ⟨rfl,hb1⟩
  clear hmay
  go_wp2_with fail
  go_ret2
  exact⟨0,1,s0,rfl,HRI.out _ hb1,Nat.le_add_right _ _,Or.inl ⟨HF.out,rfl,rfl⟩⟩
 | true =>
  have HMY:=Lib.hid hmy
  rw[hmy] at hmay
  have HNE:Hid (1≤n):=by have:=((mayB_iff e).1 hmy).ne;show 1≤n;rw[HN.out];exact this
  clear hmy
  go_enter Tryz.func54,Tryz.ntmps54
  go_wp2_with fail
  rw[← HW0.out,← HBG.out]
  refine hmay.mono ?_
  rintro r w1 ⟨rfl,hb1⟩
  clear hmay
  go_wp2_with fail
  go_loopw [30] (fun iv wr=>∃ t:Nat,iv=.int .i64 t∧t≤n∧(∀ (j:Nat) (x:Nd),j<t→e[j]?=some x→Ux.badP x=false)∧Below W0.heap.size W0 wr) (fun iv _=>n - (intOf iv).toNat)
  case atStart=>exact⟨0,rfl,Nat.zero_le _,fun j x h=>by omega,hb1⟩
  case round =>
   obtain⟨t,rfl,ht,hok,hB⟩:=hrel
   have HOK:=Lib.hid hok
   have HB:=Lib.hid hB
   clear hb1 hok hB
   by_cases hlt:t<n
   ·obtain⟨x,hx⟩ : ∃ x,e[t]?=some x:=⟨_,List.getElem?_eq_getElem (by have:=HN.out;omega)⟩
    obtain⟨b,o,rfl,hcell⟩:=HX.out wr (HNX.out _ HB.out) t x hx
    obtain⟨c0,c1,c2,c3,c4,c5⟩:=nd_cells hcell
    have HXX:=Lib.hid hx
    have hxs:=HS.out x (List.mem_of_getElem? hx)
    have htn:(t:Int)<(n:Int):=by omega
    have ht0:(0:Int)≤(t:Int):=by omega
    clear hx hcell
    have nb:=(Below.refl wr.heap.size wr).alloc (Nat.le_refl _) (.cells (ndA x) 85)
    have kb:=Blk.new wr (ndA x) 85
    go_wp2_with fail
    generalize hW1:wr.alloc (.cells #[.int .i64 x.op,.int .i64 x.a,.int .i64 x.b,.int .i64 x.c,.int .i64 x.n,.string x.s] 85)=W1
    have hB1:Below W0.heap.size W0 W1:=by rw[← hW1];exact below_next HB.out nb
    obtain⟨nbk,hnbk⟩ : ∃ q,q=wr.heap.size:=⟨_,rfl⟩
    have kb1:Blk W1 nbk #[.int .i64 x.op,.int .i64 x.a,.int .i64 x.b,.int .i64 x.c,.int .i64 x.n,.string x.s] 85:=by rw[← hW1,hnbk];exact kb
    rw[← hnbk]
    clear hW1 hnbk kb nb c0 c1 c2 c3 c4 c5
    obtain⟨c0,c1,c2,c3,c4,c5⟩:=six_cells kb1
    have HB1:=Lib.hid hB1
    refine (number_any x.s W1 hxs (HG.out _ (HNX.out _ hB1))).mono ?_
    rintro r w2 ⟨nv,rfl,hnv,hb2⟩
    have HB2:=Lib.hid (below_next HB1.out hb2)
    have kb2:=kb1.below hb2
    obtain⟨N,hN⟩ : ∃ N,N=(Ux.numP x.s).isSome:=⟨_,rfl⟩
    rw[← hN]
    have HNN:=Lib.hid hN
    clear hN hnv hb2 kb1 hB1 c0 c1 c2 c3 c4 c5
    obtain⟨c0,c1,c2,c3,c4,c5⟩:=six_cells kb2
    obtain⟨L,hL⟩ : ∃ L,L=Ux.isLogic x.op:=⟨_,rfl⟩
    have hlog:=isLogic_any x.op w2
    rw[← hL] at hlog
    have HLL:=Lib.hid hL
    clear hL kb2
    obtain⟨q,hq⟩ : ∃ q,q=(x.op != 3):=⟨_,rfl⟩
    have HQ:=Lib.hid hq
    have hqq:=hq.symm
    clear hq
    have hor:(L=true∧Ux.badP x=false)∨(L=false∧q=true∧Ux.badP x=true)∨(L=false∧q=false∧N=false∧Ux.badP x=true)∨(L=false∧q=false∧N=true∧Ux.badP x=false):=by
     have hbp:Ux.badP x=(!L&&(q || !N)):=by
      unfold Ux.badP;rw[HLL.out,HQ.out,HNN.out];cases Ux.numP x.s <;> rfl
     rw[hbp]
     cases L <;> cases q <;> cases N <;> simp
    rcases hor with ⟨rfl,hbp⟩ | ⟨rfl,rfl,hbp⟩ | ⟨rfl,rfl,rfl,hbp⟩ | ⟨rfl,rfl,rfl,hbp⟩
    ·have HOK2:Hid (∀ (j:Nat) (y:Nd),j<t+1→e[j]?=some y→Ux.badP y=false):=fun j y hj hy=>by
      by_cases h:j=t
      ·subst h;rw[HXX.out] at hy;cases hy;exact hbp
      ·exact HOK.out j y (by omega) hy
     clear hbp
     go_wp2_with fail
     refine hlog.mono ?_
     rintro r w3 ⟨rfl,rfl⟩
     go_wp2_with fail
     go_roundw
     case rel=>exact⟨t+1,by go_num,by omega,HOK2.out,HB2.out⟩
     case measure=>simp[intOf];omega
    ·have HF:Hid (goodI e=false):=goodI_bad HXX.out hbp
     clear hbp
     go_wp2_with fail
     refine hlog.mono ?_
     rintro r w3 ⟨rfl,rfl⟩
     go_wp2_with fail
     go_ret2
     exact⟨0,1,s0,rfl,HRI.out _ HB2.out,Nat.le_add_right _ _,Or.inl ⟨HF.out,rfl,rfl⟩⟩
    ·have HF:Hid (goodI e=false):=goodI_bad HXX.out hbp
     clear hbp
     go_wp2_with fail
     refine hlog.mono ?_
     rintro r w3 ⟨rfl,rfl⟩
     go_wp2_with fail
     go_ret2
     exact⟨0,1,s0,rfl,HRI.out _ HB2.out,Nat.le_add_right _ _,Or.inl ⟨HF.out,rfl,rfl⟩⟩
    ·have HOK2:Hid (∀ (j:Nat) (y:Nd),j<t+1→e[j]?=some y→Ux.badP y=false):=fun j y hj hy=>by
      by_cases h:j=t
      ·subst h;rw[HXX.out] at hy;cases hy;exact hbp
      ·exact HOK.out j y (by omega) hy
     clear hbp
     go_wp2_with fail
     refine hlog.mono ?_
     rintro r w3 ⟨rfl,rfl⟩
     go_wp2_with fail
     go_roundw
     case rel=>exact⟨t+1,by go_num,by omega,HOK2.out,HB2.out⟩
     case measure=>simp[intOf];omega
   ·have hte:t=n:=by omega
    subst hte
    have HBAD:Hid (∀ (j:Nat) (x:Nd),e[j]?=some x→Ux.badP x=false):=fun j x hj=>HOK.out j x (by have:=(List.getElem?_eq_some_iff.1 hj).1;have:=HN.out;omega) hj
    have HB1:=HB
    clear HOK HB
    go_wp2_with (at_make;refine wpList_make_full _ rfl _ _ 83 rfl wr.heap.size 3 i0 (.int .i64 0) 1 Tryz.underlying83 hi hz0 hz1 _ _ _ _ t rfl rfl rfl rfl ?_ ?_ ?_ ?_;rotate_right;intro w2 hown2 hgrow2)
    case refine_1=>first | omega | (rw[hz2];omega)
    case refine_2=>first | exact Nat.le_refl _ | (unfold maxLen;omega)
    case refine_3=>first | exact Nat.le_refl _ | (unfold maxLen;omega)
    have hB2:Below wr.heap.size wr w2:=(Below.refl _ _).grown hgrow2 (Nat.le_refl _) (by simp)
    have hR2:RowL vI 3 wr.heap.size w2 wr.heap.size t (List.replicate t 0):=by
     unfold RowL
     have:=hown2
     simp only[Value.cells,Nat.mul_one,toList_madeCells_one] at this
     rw[List.map_replicate];exact this
    obtain⟨bx,hbx⟩ : ∃ bx,bx=wr.heap.size:=⟨_,rfl⟩
    have hbx1:W0.heap.size≤bx:=by rw[hbx];exact HB1.out.size
    rw[← hbx] at hR2 ⊢
    have HBX:Hid (B≤bx∧w.heap.size≤bx):=by have h1:=(HNB.out _ (Below.refl _ _)).size;have:=HBB.out;show B≤bx∧w.heap.size≤bx;omega
    have hB3:=below_next HB1.out hB2
    have hI3:RunI B w s0 w2 s0:=HRI.out _ hB3
    have hK3:Blk w2 bg #[(.func (.func 53) #[.pointer (some ⟨s0.sb,0,none⟩)] #[]),(.func (.func 26) #[.pointer (some ⟨s0.sb,0,none⟩)] #[]),(.func (.func 55) #[.pointer (some ⟨s0.sb,0,none⟩)] #[])] 111:=by have:=HKB.out _ hB3;rw[← HBG.out] at this;exact this
    have hnk3:¬ s0.bl bg:=by rw[HBG.out];exact HSL.out
    have hnb3:¬ s0.bl bx:=fun h=>by
     have h1:=(HRI.out _ HB1.out).store.lt h
     omega
    have HGX:Hid (bg≠bx):=by have h1:=(HKB.out _ (Below.refl _ _)).lt;rw[← HBG.out] at h1;show bg≠bx;omega
    have HGOOD:Hid (goodI e=true):=goodI_yes HMY.out HBAD.out
    have hA2:RowA s0 e (List.replicate t 0) 0:=by rw[show t=e.length from HN.out];exact RowA.start s0 e
    clear hown2 hgrow2 hi hz0 hz1 hz2 hB2 hB3 hbx hbx1 HB1 ht
    obtain⟨n,hnt⟩ : ∃ n,n=t:=⟨_,rfl⟩
    rw[← hnt] at hcl he HN HNE hR2 hA2 ⊢
    clear hnt
    go_loopw [60] (fun iv wr=>∃ (t:Nat) (U:List Int) (s:St),iv=.int .i64 t∧t≤n∧RowL vI 3 bx wr bx n U∧RowA s e U t∧RunI B w s0 wr s∧Blk wr bg #[(.func (.func 53) #[.pointer (some ⟨s0.sb,0,none⟩)] #[]),(.func (.func 26) #[.pointer (some ⟨s0.sb,0,none⟩)] #[]),(.func (.func 55) #[.pointer (some ⟨s0.sb,0,none⟩)] #[])] 111∧¬ s.bl bg∧¬ s.bl bx∧s.ns.length≤s0.ns.length+t) (fun iv _=>n - (intOf iv).toNat)
    case atStart=>exact⟨0,_,s0,rfl,Nat.zero_le _,hR2,hA2,hI3,hK3,hnk3,hnb3,Nat.le_refl _⟩
    case round =>
     obtain⟨t,U,s,rfl,ht,hR,hA,hI,hK,hnk,hnb,hcost⟩:=hrel
     have HA:=Lib.hid hA
     have HI:=Lib.hid hI
     have HNK:=Lib.hid hnk
     have HNB2:=Lib.hid hnb
     have HC:=Lib.hid hcost
     clear hR2 hA2 hI3 hK3 hnk3 hnb3 hA hI hnk hnb hcost
     by_cases hlt:t<n
     ·obtain⟨x,hx⟩ : ∃ x,e[t]?=some x:=⟨_,List.getElem?_eq_getElem (by have:=HN.out;omega)⟩
      obtain⟨b,o,rfl,hcell⟩:=HX.out wr HI.out.below t x hx
      obtain⟨c0,c1,c2,c3,c4,c5⟩:=nd_cells hcell
      have HXX:=Lib.hid hx
      have hxs:=HS.out x (List.mem_of_getElem? hx)
      have hxin:=HIN.out x (List.mem_of_getElem? hx)
      have htn:(t:Int)<(n:Int):=by omega
      have ht0:(0:Int)≤(t:Int):=by omega
      clear hx hcell
      have nb:=(Below.refl wr.heap.size wr).alloc (Nat.le_refl _) (.cells (ndA x) 85)
      have kb:=Blk.new wr (ndA x) 85
      have hltb:=hR.lt.2
      have hRL:=hR.len
      by_cases h3:x.op=3
      ·as_aux_lemma =>
        have e3:(x.op==3)=true:=by simp[h3]
        have H3:Hid (x.op=3):=h3
        clear h3
        go_wp2_with fail
        generalize hW1:wr.alloc (.cells #[.int .i64 x.op,.int .i64 x.a,.int .i64 x.b,.int .i64 x.c,.int .i64 x.n,.string x.s] 85)=W1
        have HI1:Hid (RunI B w s0 W1 s):=by rw[← hW1];exact HI.out.pure nb HBB.out
        have HR1:Hid (RowL vI 3 bx W1 bx n U):=by rw[← hW1];exact hR.below nb
        have HK1:Hid (Blk W1 bg #[(.func (.func 53) #[.pointer (some ⟨s0.sb,0,none⟩)] #[]),(.func (.func 26) #[.pointer (some ⟨s0.sb,0,none⟩)] #[]),(.func (.func 55) #[.pointer (some ⟨s0.sb,0,none⟩)] #[])] 111):=by rw[← hW1];exact hK.below nb
        have HL1:Hid (bx<W1.heap.size):=HR1.out.lt.2
        clear hW1 kb nb c0 c1 c2 c3 c4 c5 hR hK
        refine (number_any x.s W1 hxs (HG.out _ HI1.out.below)).mono ?_
        rintro r w2 ⟨nv,rfl,hnv,hb2⟩
        have HI2:=Lib.hid (HI1.out.pure hb2 HBB.out)
        have HR2:=Lib.hid (HR1.out.below hb2)
        have HK2:=Lib.hid (HK1.out.below hb2)
        have hbp:=HBAD.out t x HXX.out
        obtain⟨m,hm⟩ : ∃ m,Ux.numP x.s=some m:=by
         unfold Ux.badP at hbp
         rw[H3.out] at hbp
         cases hq:Ux.numP x.s with
         | none=>rw[hq] at hbp;simp[Ux.isLogic] at hbp
         | some m=>exact⟨m,rfl⟩
        have hmv:=hnv m hm
        subst hmv
        have HM:=Lib.hid hm
        have hmr:=hxin H3.out m hm
        rw[hm]
        obtain⟨k,rfl⟩ : ∃ k:Nat,m=(k:Int):=⟨m.toNat,by omega⟩
        have hkv:k<s.vars:=by rw[HI2.out.more.vars];omega
        have HAV:Hid (∀ l:List Bool,l.length=s.vars→envOf l k=Ux.av l x):=fun l hl=>by
         have:=(Ux.av_at (l:=l) (by have:=HSM.out.1;have:=HI2.out.more.vars;omega) H3.out HM.out (by omega)).1
         rw[this];rfl
        have hcall:=var_any w2 s HI2.out.store k hkv
        rw[HI2.out.more.sb] at hcall
        obtain⟨d0,d1,d2⟩:=three_blk HK2.out
        clear hm hnv hbp hb2 HR1 HI1 HK1 hmr hkv hxin
        go_wp2_with fail
        refine hcall.mono ?_
        rintro r w3 ⟨f,er,s3,rfl,hS3,hM3,hF3,hf3,hcn3,hor3⟩
        have HI3:=Lib.hid (HI2.out.next hS3 hM3 hF3 HBB.out)
        have HR3:=Lib.hid (hF3.rowL HR2.out HNB2.out)
        have HK3:=Lib.hid (hF3.blk HK2.out HNK.out)
        have HA3:=Lib.hid (HA.out.more hM3 HI2.out.store hS3)
        have HNK3:=Lib.hid (not_bl hM3 HK2.out.lt HNK.out)
        have HNB3:=Lib.hid (not_bl hM3 HR2.out.lt.2 HNB2.out)
        have HC3:Hid (s3.ns.length≤s0.ns.length+(t+1)):=by have:=HC.out;show s3.ns.length≤_;omega
        rcases hor3 with ⟨rfl,hden⟩ | ⟨rfl,rfl,hfull⟩
        ·have HDE:Hid (DenI s3 (f:Int) (fun l=>Ux.av l x)):=⟨f,rfl,hf3,fun l hl=>by rw[hden];exact HAV.out l (by rw[hl,hM3.vars])⟩
         have HRS:Hid (RowL vI 3 bx (w3.setCell ⟨bx,t,none⟩ (.int .i64 f)) bx n (U.set t (f:Int))):=HR3.out.set t (f:Int)
         have HAS:=Lib.hid (HA3.out.put HXX.out HDE.out)
         have HIS:Hid (RunI B w s0 (w3.setCell ⟨bx,t,none⟩ (.int .i64 f)) s3):=HI3.out.set HBX.out HNB3.out
         have HKS:Hid (Blk (w3.setCell ⟨bx,t,none⟩ (.int .i64 f)) bg #[(.func (.func 53) #[.pointer (some ⟨s0.sb,0,none⟩)] #[]),(.func (.func 26) #[.pointer (some ⟨s0.sb,0,none⟩)] #[]),(.func (.func 55) #[.pointer (some ⟨s0.sb,0,none⟩)] #[])] 111):=HK3.out.other (p:=bx) t HGX.out _
         obtain⟨z,hz⟩ : ∃ z,U[t]?=some z:=⟨_,List.getElem?_eq_getElem (by rw[hRL];exact hlt)⟩
         have cu:=HR3.out.cell hz
         have fu:=HR3.out.free t
         clear hcall hS3 hM3 hF3 hf3 hcn3 hden hz HR3 HK3 HA3 d0 d1 d2
         go_wp2_with fail
         go_roundw
         case rel=>exact⟨t+1,_,s3,by go_num,by omega,HRS.out,HAS.out,HIS.out,HKS.out,HNK3.out,HNB3.out,HC3.out⟩
         case measure=>simp[intOf];omega
        ·have HFU:Hid (s3.ns.length=s0.budget):=by rw[← HI2.out.more.budget];exact hfull
         have HCO:Hid (s3.ns.length≤s0.ns.length+(n+n * (2 * 2 ^ s0.vars))):=by
          have:=HC3.out;show s3.ns.length≤_
          generalize n * (2 * 2 ^ s0.vars)=q;omega
         clear hcall hS3 hM3 hF3 hf3 hcn3 hfull d0 d1 d2
         go_wp2_with fail
         go_ret2
         exact⟨0,18,s3,rfl,HI3.out,by rw[← HN.out];exact HCO.out,Or.inr (Or.inl ⟨HGOOD.out,rfl,rfl,HFU.out⟩)⟩
      ·have e3:(x.op==3)=false:=by rw[beq_eq_false_iff_ne];exact h3
       have HR1:Hid (RowL vI 3 bx (wr.alloc (.cells (ndA x) 85)) bx n U):=hR.below nb
       have HI1:Hid (RunI B w s0 (wr.alloc (.cells (ndA x) 85)) s):=HI.out.pure nb HBB.out
       have HK1:Hid (Blk (wr.alloc (.cells (ndA x) 85)) bg #[(.func (.func 53) #[.pointer (some ⟨s0.sb,0,none⟩)] #[]),(.func (.func 26) #[.pointer (some ⟨s0.sb,0,none⟩)] #[]),(.func (.func 55) #[.pointer (some ⟨s0.sb,0,none⟩)] #[])] 111):=hK.below nb
       have HA1:=Lib.hid (HA.out.skip HXX.out h3)
       have HC1:Hid (s.ns.length≤s0.ns.length+(t+1)):=by have:=HC.out;show s.ns.length≤_;omega
       clear h3 hR hK kb nb
       go_wp2_with fail
       go_roundw
       case rel=>exact⟨t+1,U,s,by go_num,by omega,HR1.out,HA1.out,HI1.out,HK1.out,HNK.out,HNB2.out,HC1.out⟩
       case measure=>simp[intOf];omega
     ·have hte:t=n:=by omega
      subst hte
      have hA0:RowS s e U 0:=by have h9:=HA.out;rw[show t=e.length from HN.out] at h9;exact h9.done
      have HA0:=Lib.hid hA0
      obtain⟨d0,d1,d2⟩:=three_blk hK
      have cT:∀ W,Calls Tryz.prog 26 #[.pointer (some ⟨s0.sb,0,none⟩),.bool true] W fun e w'=>e=.returned (.int .i64 1)∧w'=W:=fun W=>ConstS_any W _ true
      have cF:∀ W,Calls Tryz.prog 26 #[.pointer (some ⟨s0.sb,0,none⟩),.bool false] W fun e w'=>e=.returned (.int .i64 0)∧w'=W:=fun W=>ConstS_any W _ false
      clear hA0 HA
      go_wp2_with fail
      go_quiet ((go_at_call 26;first | exact Calls.quiet_of_same (cT _) | exact Calls.quiet_of_same (cF _)))
      have nbq:=below_drawn (Below.refl wr.heap.size wr) nq
      have hI2:RunI B w s0 (wr.drewN nq) s:=HI.out.pure nbq HBB.out
      have hR2:RowL vI 3 bx (wr.drewN nq) bx t U:=hR
      have hK2:Blk (wr.drewN nq) bg #[(.func (.func 53) #[.pointer (some ⟨s0.sb,0,none⟩)] #[]),(.func (.func 26) #[.pointer (some ⟨s0.sb,0,none⟩)] #[]),(.func (.func 55) #[.pointer (some ⟨s0.sb,0,none⟩)] #[])] 111:=hK.below nbq
      generalize wr.drewN nq=W2 at hI2 hR2 hK2 ⊢
      clear hR HI hK d0 d1 d2 ht nbq cT cF
      go_wp2_with fail
      obtain⟨n,hnt⟩ : ∃ n,n=t:=⟨_,rfl⟩
      rw[← hnt] at hcl he HN HNE hR2 HC ⊢
      clear hnt hlt
      obtain⟨P,hP⟩ : ∃ P,P=2 ^ s0.vars:=⟨_,rfl⟩
      have HP:=Lib.hid hP
      have hnk2:=HNK.out
      have hnb2:=HNB2.out
      clear hP HNK HNB2
      go_loopw [98] (fun iv wr=>∃ (t:Nat) (U:List Int) (s:St),iv=.int .i64 t∧t≤n∧RowL vI 3 bx wr bx n U∧RowS s e U t∧RunI B w s0 wr s∧Blk wr bg #[(.func (.func 53) #[.pointer (some ⟨s0.sb,0,none⟩)] #[]),(.func (.func 26) #[.pointer (some ⟨s0.sb,0,none⟩)] #[]),(.func (.func 55) #[.pointer (some ⟨s0.sb,0,none⟩)] #[])] 111∧¬ s.bl bg∧¬ s.bl bx∧s.ns.length≤s0.ns.length+(n+t * (2 * P))) (fun iv _=>n - (intOf iv).toNat)
      case atStart=>exact⟨0,U,s,rfl,Nat.zero_le _,hR2,HA0.out,hI2,hK2,hnk2,hnb2,by have:=HC.out;omega⟩
      case round =>
       obtain⟨t,U,s,rfl,ht,hR,hA,hI,hK,hnk,hnb,hcost⟩:=hrel
       have HA:=Lib.hid hA
       have HI:=Lib.hid hI
       have HNK:=Lib.hid hnk
       have HNB2:=Lib.hid hnb
       have HC2:=Lib.hid hcost
       clear hR2 hI2 hK2 hnk2 hnb2 hA hI hnk hnb hcost HC HA0
       by_cases hlt:t<n
       ·obtain⟨x,hx⟩ : ∃ x,e[t]?=some x:=⟨_,List.getElem?_eq_getElem (by have:=HN.out;omega)⟩
        obtain⟨b,o,rfl,hcell⟩:=HX.out wr HI.out.below t x hx
        obtain⟨c0,c1,c2,c3,c4,c5⟩:=nd_cells hcell
        have HXX:=Lib.hid hx
        have htn:(t:Int)<(n:Int):=by omega
        have ht0:(0:Int)≤(t:Int):=by omega
        clear hx hcell
        have nb:=(Below.refl wr.heap.size wr).alloc (Nat.le_refl _) (.cells (ndA x) 85)
        have kb:=Blk.new wr (ndA x) 85
        have hlb:=hR.lt.2
        have hkd:=Ux.kids_ahead HMY.out HXX.out
        have hbp:=HBAD.out t x HXX.out
        have hops:x.op=3∨Ux.isLogic x.op=true:=by
         by_cases h3:x.op=3
         ·exact Or.inl h3
         ·right
          unfold Ux.badP at hbp
          have:(x.op != 3)=true:=by simpa using h3
          rw[this] at hbp;simpa using hbp
        have hRL:=hR.len
        clear hbp
        rcases hops with h3 | hlog
        ·as_aux_lemma =>
          have HR1:Hid (RowL vI 3 bx (wr.alloc (.cells (ndA x) 85)) bx n U):=hR.below nb
          have HI1:Hid (RunI B w s0 (wr.alloc (.cells (ndA x) 85)) s):=HI.out.pure nb HBB.out
          have HK1:Hid (Blk (wr.alloc (.cells (ndA x) 85)) bg #[(.func (.func 53) #[.pointer (some ⟨s0.sb,0,none⟩)] #[]),(.func (.func 26) #[.pointer (some ⟨s0.sb,0,none⟩)] #[]),(.func (.func 55) #[.pointer (some ⟨s0.sb,0,none⟩)] #[])] 111):=hK.below nb
          have HA1:=Lib.hid (HA.out.skip HXX.out h3)
          have HC3:Hid (s.ns.length≤s0.ns.length+(n+(t+1) * (2 * P))):=by have:=HC2.out;show s.ns.length≤_;rw[Nat.add_mul];omega
          have e2:(x.op==2)=false:=by rw[h3];rfl
          have e4:(x.op==4)=false:=by rw[h3];rfl
          have e6:(x.op==6)=false:=by rw[h3];rfl
          have e7:(x.op==7)=false:=by rw[h3];rfl
          have e9:(x.op==9)=false:=by rw[h3];rfl
          have e26:(x.op==26)=false:=by rw[h3];rfl
          have e8:(x.op==8)=false:=by rw[h3];rfl
          clear h3 hR hK kb nb hkd
          go_wp2_with fail
          go_roundw
          case rel=>exact⟨t+1,U,s,by go_num,by omega,HR1.out,HA1.out,HI1.out,HK1.out,HNK.out,HNB2.out,HC3.out⟩
          case measure=>simp[intOf];omega
        ·rcases Ux.kids_logic hlog with ⟨hop,hkk⟩ | ⟨hop,hkk⟩ | ⟨hop,hkk⟩ | ⟨hop,hkk⟩
         ·as_aux_lemma =>
           have h3:x.op=2:=hop
           have e2:(x.op==2)=true:=by rw[h3];rfl
           have e4:(x.op==4)=false:=by rw[h3];rfl
           have e6:(x.op==6)=false:=by rw[h3];rfl
           have e7:(x.op==7)=false:=by rw[h3];rfl
           have e9:(x.op==9)=false:=by rw[h3];rfl
           have e26:(x.op==26)=false:=by rw[h3];rfl
           have e8:(x.op==8)=false:=by rw[h3];rfl
           have HOP:Hid (x.op=2):=h3
           have HN3:Hid (x.op≠3):=by show _≠_;omega
           have two:=HI.out.store.wf.two
           have HI1:Hid (RunI B w s0 (wr.alloc (.cells #[.int .i64 x.op,.int .i64 x.a,.int .i64 x.b,.int .i64 x.c,.int .i64 x.n,.string x.s] 85)) s):=HI.out.pure nb HBB.out
           have HR1:Hid (RowL vI 3 bx (wr.alloc (.cells #[.int .i64 x.op,.int .i64 x.a,.int .i64 x.b,.int .i64 x.c,.int .i64 x.n,.string x.s] 85)) bx n U):=hR.below nb
           have HK1:Hid (Blk (wr.alloc (.cells #[.int .i64 x.op,.int .i64 x.a,.int .i64 x.b,.int .i64 x.c,.int .i64 x.n,.string x.s] 85)) bg #[(.func (.func 53) #[.pointer (some ⟨s0.sb,0,none⟩)] #[]),(.func (.func 26) #[.pointer (some ⟨s0.sb,0,none⟩)] #[]),(.func (.func 55) #[.pointer (some ⟨s0.sb,0,none⟩)] #[])] 111):=hK.below nb
           obtain⟨d0,d1,d2⟩:=three_blk HK1.out
           obtain⟨z0,hz0⟩ : ∃ z,U[t]?=some z:=⟨_,List.getElem?_eq_getElem (by omega)⟩
           have cs:=HR1.out.cell hz0
           have fs:=HR1.out.free t
           obtain⟨q,hq⟩ : ∃ q,q=(x.n==1):=⟨_,rfl⟩
           have HQ:=Lib.hid hq
           have hq2:=hq.symm
           obtain⟨fc,hfc⟩ : ∃ fc:Nat,fc=if q then 1 else 0:=⟨_,rfl⟩
           have hcc:∀ W,Calls Tryz.prog 26 #[.pointer (some ⟨s0.sb,0,none⟩),.bool q] W fun e w'=>e=.returned (.int .i64 fc)∧w'=W:=fun W=>by
            have:=ConstS_any W ⟨s0.sb,0,none⟩ q
            rw[hfc];cases q <;> exact this
           have HDE:Hid (DenI s (fc:Int) (fun l=>Ux.valN l (Ux.vals l (e.take t)) x)):=⟨fc,rfl,by rw[hfc];split <;> omega,fun l hl=>by
            unfold Ux.valN;rw[HOP.out]
            simp only[show ((2:Int)=3)=False by simp,if_false,if_true]
            rw[← HQ.out,hfc];cases q
            ·simp[Dd.den_zero]
            ·simp[Dd.den_one]⟩
           have HAS:=Lib.hid (HA.out.put HXX.out HN3.out HDE.out)
           have HC3:Hid (s.ns.length≤s0.ns.length+(n+(t+1) * (2 * P))):=by have:=HC2.out;show s.ns.length≤_;rw[Nat.add_mul];omega
           clear h3 hop hlog hR hK kb nb hkd hz0 hq hfc two
           go_wp2_with fail
           generalize wr.alloc (.cells #[.int .i64 x.op,.int .i64 x.a,.int .i64 x.b,.int .i64 x.c,.int .i64 x.n,.string x.s] 85)=W1 at HI1 HR1 HK1 cs fs d0 d1 d2 ⊢
           clear c0 c1 c2 c3 c4 c5
           have HIS:Hid (RunI B w s0 (W1.setCell ⟨bx,t,none⟩ (.int .i64 fc)) s):=HI1.out.set HBX.out HNB2.out
           have HRS:Hid (RowL vI 3 bx (W1.setCell ⟨bx,t,none⟩ (.int .i64 fc)) bx n (U.set t (fc:Int))):=HR1.out.set t (fc:Int)
           have HKS:Hid (Blk (W1.setCell ⟨bx,t,none⟩ (.int .i64 fc)) bg #[(.func (.func 53) #[.pointer (some ⟨s0.sb,0,none⟩)] #[]),(.func (.func 26) #[.pointer (some ⟨s0.sb,0,none⟩)] #[]),(.func (.func 55) #[.pointer (some ⟨s0.sb,0,none⟩)] #[])] 111):=HK1.out.other (p:=bx) t HGX.out _
           refine (hcc _).mono ?_
           rintro r w3 ⟨rfl,rfl⟩
           clear hcc
           go_wp2_with fail
           go_roundw
           case rel=>exact⟨t+1,_,s,by go_num,by omega,HRS.out,HAS.out,HIS.out,HKS.out,HNK.out,HNB2.out,HC3.out⟩
           case measure=>simp[intOf];omega
         ·as_aux_lemma =>
           have h3:x.op=4:=hop
           have e2:(x.op==2)=false:=by rw[h3];rfl
           have e4:(x.op==4)=true:=by rw[h3];rfl
           have e6:(x.op==6)=false:=by rw[h3];rfl
           have e7:(x.op==7)=false:=by rw[h3];rfl
           have e9:(x.op==9)=false:=by rw[h3];rfl
           have e26:(x.op==26)=false:=by rw[h3];rfl
           have e8:(x.op==8)=false:=by rw[h3];rfl
           have HOP:Hid (x.op=4):=h3
           have HN3:Hid (x.op≠3):=by show _≠_;omega
           clear h3 hop hlog
           go_wp2_with fail
           generalize hW1:wr.alloc (.cells #[.int .i64 x.op,.int .i64 x.a,.int .i64 x.b,.int .i64 x.c,.int .i64 x.n,.string x.s] 85)=W1
           have HI1:Hid (RunI B w s0 W1 s):=by rw[← hW1];exact HI.out.pure nb HBB.out
           have HR1:Hid (RowL vI 3 bx W1 bx n U):=by rw[← hW1];exact hR.below nb
           have HK1:Hid (Blk W1 bg #[(.func (.func 53) #[.pointer (some ⟨s0.sb,0,none⟩)] #[]),(.func (.func 26) #[.pointer (some ⟨s0.sb,0,none⟩)] #[]),(.func (.func 55) #[.pointer (some ⟨s0.sb,0,none⟩)] #[])] 111):=by rw[← hW1];exact hK.below nb
           obtain⟨nbk,hnbk⟩ : ∃ q,q=wr.heap.size:=⟨_,rfl⟩
           have kb1:Blk W1 nbk #[.int .i64 x.op,.int .i64 x.a,.int .i64 x.b,.int .i64 x.c,.int .i64 x.n,.string x.s] 85:=by rw[← hW1,hnbk];exact kb
           have hnx:nbk≠bx:=by omega
           have hnn:¬ s.bl nbk:=fun h=>by have:=HI.out.store.lt h;omega
           have hgx:=HGX.out
           rw[← hnbk]
           clear hW1 hnbk kb nb c0 c1 c2 c3 c4 c5 hR hK
           obtain⟨c0,c1,c2,c3,c4,c5⟩:=six_cells kb1
           obtain⟨d0,d1,d2⟩:=three_blk HK1.out
           obtain⟨z0,hz0⟩ : ∃ z,U[t]?=some z:=⟨_,List.getElem?_eq_getElem (by omega)⟩
           have cs:=HR1.out.cell hz0
           have fs:=HR1.out.free t
           have two:=HI1.out.store.wf.two
           have lbx:bx<W1.drew.heap.size:=HR1.out.lt.2
           have lbg:bg<W1.drew.heap.size:=HK1.out.lt
           have lnb:nbk<W1.drew.heap.size:=kb1.lt
           obtain⟨ja,hja,hla⟩:=hkd x.a (by rw[hkk];simp)
           rw[hja] at c1
           obtain⟨fa,hUa,hfa,hda⟩:=HA.out.kid hla
           have va:=HR1.out.cell hUa
           have pa:(0:Int)≤(ja:Int):=by omega
           have qa:(ja:Int)<(n:Int):=by omega
           have HDa:Hid (∀ l:List Bool,l.length=s.vars→Dd.den s.ns (envOf l) fa=(Ux.vals l (e.take t)).getD x.a.toNat false):=fun l hl=>by rw[hja];exact hda l hl
           have HJa:Hid (x.a=(ja:Int)):=hja
           clear hUa hda hja
           clear hkd hz0
           have hnea:ja≠t:=by omega
           have hc:Calls Tryz.prog 55 #[.pointer (some ⟨s0.sb,0,none⟩),.int .i64 fa,.int .i64 0,.int .i64 1] W1.drew (FnPost (2 ^ s.vars) (fun env=>if Dd.den s.ns env fa then Dd.den s.ns env 0 else Dd.den s.ns env 1) W1.drew s):=by
            have h9:=Ite_any W1.drew s (HI1.out.drew).store fa 0 1 hfa (by omega) (by omega)
            rw[HI1.out.more.sb] at h9;exact h9
           have HNKX:Hid (¬ s.bl bg):=HNK.out
           have HNNX:Hid (¬ s.bl nbk):=hnn
           have HNBX:Hid (¬ s.bl bx):=HNB2.out
           have K0:W1.cell? ⟨bg,2,none⟩=some (.func (.func 55) #[.pointer (some ⟨s0.sb,0,none⟩)] #[])∧W1.cell? ⟨nbk,1,none⟩=some (.int .i64 ja)∧W1.cell? ⟨bx,ja,none⟩=some (.int .i64 fa):=⟨d2,c1,va⟩
           have K1:W1.drew.cell? ⟨bg,2,none⟩=some (.func (.func 55) #[.pointer (some ⟨s0.sb,0,none⟩)] #[])∧W1.drew.cell? ⟨nbk,1,none⟩=some (.int .i64 ja)∧W1.drew.cell? ⟨bx,ja,none⟩=some (.int .i64 fa):=⟨d2,c1,va⟩
           go_region_held3 (fun w'=>w'.cell? ⟨bg,2,none⟩=some (.func (.func 55) #[.pointer (some ⟨s0.sb,0,none⟩)] #[])∧w'.cell? ⟨nbk,1,none⟩=some (.int .i64 ja)∧w'.cell? ⟨bx,ja,none⟩=some (.int .i64 fa))
            (first | exact K3 | exact K2 | exact K1 | exact K0)
            ((go_at_call 55;refine hc.mono ?_;rintro r w3 ⟨f3,er3,s3,rfl,hS3,hM3,hF3,hf3,hcn3,hor3⟩;have K2:w3.cell? ⟨bg,2,none⟩=some (.func (.func 55) #[.pointer (some ⟨s0.sb,0,none⟩)] #[])∧w3.cell? ⟨nbk,1,none⟩=some (.int .i64 ja)∧w3.cell? ⟨bx,ja,none⟩=some (.int .i64 fa):=⟨(hF3.cell lbg HNKX.out).trans K1.1,(hF3.cell lnb HNNX.out).trans K1.2.1,(hF3.cell lbx HNBX.out).trans K1.2.2⟩;have cs3':w3.cell? ⟨bx,t,none⟩=some (.int .i64 z0):=(hF3.cell lbx HNBX.out).trans cs;have fs3':=(hF3.rowL (HR1.out.drawn 1) HNBX.out).free t;have K3:(w3.setCell ⟨bx,t,none⟩ (.int .i64 f3)).cell? ⟨bg,2,none⟩=some (.func (.func 55) #[.pointer (some ⟨s0.sb,0,none⟩)] #[])∧(w3.setCell ⟨bx,t,none⟩ (.int .i64 f3)).cell? ⟨nbk,1,none⟩=some (.int .i64 ja)∧(w3.setCell ⟨bx,t,none⟩ (.int .i64 f3)).cell? ⟨bx,ja,none⟩=some (.int .i64 fa):=⟨far_set' K2.1 hgx,far_set' K2.2.1 hnx,off_set' K2.2.2 hnea⟩))
           have HI3:=Lib.hid ((HI1.out.drew).next hS3 hM3 hF3 HBB.out)
           have HR3:=Lib.hid (hF3.rowL (HR1.out.drawn 1) HNBX.out)
           have HK3:=Lib.hid (hF3.blk (HK1.out.below (Below.refl _ _).drew) HNKX.out)
           have HA3:=Lib.hid (HA.out.more hM3 (HI1.out.drew).store hS3)
           have HNK3:=Lib.hid (not_bl hM3 lbg HNKX.out)
           have HNB3:=Lib.hid (not_bl hM3 lbx HNBX.out)
           have HC3:Hid (s3.ns.length≤s0.ns.length+(n+(t+1) * (2 * P))):=by
            have h1:=HC2.out
            have h2:2 ^ s.vars=P:=by rw[HP.out,HI1.out.more.vars]
            rw[h2] at hcn3
            show s3.ns.length≤_
            rw[Nat.add_mul];omega
           have HIS:Hid (RunI B w s0 (w3.setCell ⟨bx,t,none⟩ (.int .i64 f3)) s3):=HI3.out.set HBX.out HNB3.out
           have HRS:Hid (RowL vI 3 bx (w3.setCell ⟨bx,t,none⟩ (.int .i64 f3)) bx n (U.set t (f3:Int))):=HR3.out.set t (f3:Int)
           have HKS:Hid (Blk (w3.setCell ⟨bx,t,none⟩ (.int .i64 f3)) bg #[(.func (.func 53) #[.pointer (some ⟨s0.sb,0,none⟩)] #[]),(.func (.func 26) #[.pointer (some ⟨s0.sb,0,none⟩)] #[]),(.func (.func 55) #[.pointer (some ⟨s0.sb,0,none⟩)] #[])] 111):=HK3.out.other (p:=bx) t HGX.out _
           rcases hor3 with ⟨rfl,hden⟩ | ⟨rfl,rfl,hfull⟩
           ·have HDE:Hid (DenI s3 (f3:Int) (fun l=>Ux.valN l (Ux.vals l (e.take t)) x)):=⟨f3,rfl,hf3,fun l hl=>by
             have hl':l.length=s.vars:=by rw[hl,hM3.vars]
             rw[hden]
             simp only[Dd.den_zero,Dd.den_one,HDa.out l hl']
             unfold Ux.valN;rw[HOP.out]
             generalize (Ux.vals l (e.take t)).getD x.a.toNat false=ya
             cases ya <;> rfl⟩
            have HAS:=Lib.hid (HA3.out.put HXX.out HN3.out HDE.out)
            clear K0 K1 K2 K3 cs3' fs3' hc hS3 hM3 hF3 hf3 hcn3 d0 d1 d2 c0 c1 c2 c3 c4 c5 cs fs lbx lbg lnb hgx hnx
            go_wp2_with fail
            go_roundw
            case rel=>exact⟨t+1,_,s3,by go_num,by omega,HRS.out,HAS.out,HIS.out,HKS.out,HNK3.out,HNB3.out,HC3.out⟩
            case measure=>simp[intOf];omega
           ·have HFU:Hid (s3.ns.length=s0.budget):=by rw[← HI1.out.more.budget];exact hfull
            have HCO:Hid (s3.ns.length≤s0.ns.length+(e.length+e.length * (2 * 2 ^ s0.vars))):=by
             have h1:=HC3.out
             have h2:(t+1) * (2 * P)≤n * (2 * P):=Nat.mul_le_mul_right _ (by omega)
             show s3.ns.length≤_
             rw[← HN.out,← HP.out];omega
            clear K0 K1 K2 K3 cs3' fs3' hc hS3 hM3 hF3 hf3 hcn3 d0 d1 d2 c0 c1 c2 c3 c4 c5 cs fs lbx lbg lnb hgx hnx
            go_wp2_with fail
            go_ret2
            exact⟨0,18,s3,rfl,HIS.out,HCO.out,Or.inr (Or.inl ⟨HGOOD.out,rfl,rfl,HFU.out⟩)⟩
         ·rcases hop with hop | hop | hop | hop
          ·as_aux_lemma =>
            have h3:x.op=6:=hop
            have e2:(x.op==2)=false:=by rw[h3];rfl
            have e4:(x.op==4)=false:=by rw[h3];rfl
            have e6:(x.op==6)=true:=by rw[h3];rfl
            have e7:(x.op==7)=false:=by rw[h3];rfl
            have e9:(x.op==9)=false:=by rw[h3];rfl
            have e26:(x.op==26)=false:=by rw[h3];rfl
            have e8:(x.op==8)=false:=by rw[h3];rfl
            have HOP:Hid (x.op=6):=h3
            have HN3:Hid (x.op≠3):=by show _≠_;omega
            clear h3 hop hlog
            go_wp2_with fail
            generalize hW1:wr.alloc (.cells #[.int .i64 x.op,.int .i64 x.a,.int .i64 x.b,.int .i64 x.c,.int .i64 x.n,.string x.s] 85)=W1
            have HI1:Hid (RunI B w s0 W1 s):=by rw[← hW1];exact HI.out.pure nb HBB.out
            have HR1:Hid (RowL vI 3 bx W1 bx n U):=by rw[← hW1];exact hR.below nb
            have HK1:Hid (Blk W1 bg #[(.func (.func 53) #[.pointer (some ⟨s0.sb,0,none⟩)] #[]),(.func (.func 26) #[.pointer (some ⟨s0.sb,0,none⟩)] #[]),(.func (.func 55) #[.pointer (some ⟨s0.sb,0,none⟩)] #[])] 111):=by rw[← hW1];exact hK.below nb
            obtain⟨nbk,hnbk⟩ : ∃ q,q=wr.heap.size:=⟨_,rfl⟩
            have kb1:Blk W1 nbk #[.int .i64 x.op,.int .i64 x.a,.int .i64 x.b,.int .i64 x.c,.int .i64 x.n,.string x.s] 85:=by rw[← hW1,hnbk];exact kb
            have hnx:nbk≠bx:=by omega
            have hnn:¬ s.bl nbk:=fun h=>by have:=HI.out.store.lt h;omega
            have hgx:=HGX.out
            rw[← hnbk]
            clear hW1 hnbk kb nb c0 c1 c2 c3 c4 c5 hR hK
            obtain⟨c0,c1,c2,c3,c4,c5⟩:=six_cells kb1
            obtain⟨d0,d1,d2⟩:=three_blk HK1.out
            obtain⟨z0,hz0⟩ : ∃ z,U[t]?=some z:=⟨_,List.getElem?_eq_getElem (by omega)⟩
            have cs:=HR1.out.cell hz0
            have fs:=HR1.out.free t
            have two:=HI1.out.store.wf.two
            have lbx:bx<W1.drew.heap.size:=HR1.out.lt.2
            have lbg:bg<W1.drew.heap.size:=HK1.out.lt
            have lnb:nbk<W1.drew.heap.size:=kb1.lt
            obtain⟨ja,hja,hla⟩:=hkd x.a (by rw[hkk];simp)
            rw[hja] at c1
            obtain⟨fa,hUa,hfa,hda⟩:=HA.out.kid hla
            have va:=HR1.out.cell hUa
            have pa:(0:Int)≤(ja:Int):=by omega
            have qa:(ja:Int)<(n:Int):=by omega
            have HDa:Hid (∀ l:List Bool,l.length=s.vars→Dd.den s.ns (envOf l) fa=(Ux.vals l (e.take t)).getD x.a.toNat false):=fun l hl=>by rw[hja];exact hda l hl
            have HJa:Hid (x.a=(ja:Int)):=hja
            clear hUa hda hja
            obtain⟨jb,hjb,hlb⟩:=hkd x.b (by rw[hkk];simp)
            rw[hjb] at c2
            obtain⟨fb,hUb,hfb,hdb⟩:=HA.out.kid hlb
            have vb:=HR1.out.cell hUb
            have pb:(0:Int)≤(jb:Int):=by omega
            have qb:(jb:Int)<(n:Int):=by omega
            have HDb:Hid (∀ l:List Bool,l.length=s.vars→Dd.den s.ns (envOf l) fb=(Ux.vals l (e.take t)).getD x.b.toNat false):=fun l hl=>by rw[hjb];exact hdb l hl
            have HJb:Hid (x.b=(jb:Int)):=hjb
            clear hUb hdb hjb
            clear hkd hz0
            have hnea:ja≠t:=by omega
            have hneb:jb≠t:=by omega
            have hc:Calls Tryz.prog 55 #[.pointer (some ⟨s0.sb,0,none⟩),.int .i64 fa,.int .i64 fb,.int .i64 0] W1.drew (FnPost (2 ^ s.vars) (fun env=>if Dd.den s.ns env fa then Dd.den s.ns env fb else Dd.den s.ns env 0) W1.drew s):=by
             have h9:=Ite_any W1.drew s (HI1.out.drew).store fa fb 0 hfa hfb (by omega)
             rw[HI1.out.more.sb] at h9;exact h9
            have HNKX:Hid (¬ s.bl bg):=HNK.out
            have HNNX:Hid (¬ s.bl nbk):=hnn
            have HNBX:Hid (¬ s.bl bx):=HNB2.out
            have K0:W1.cell? ⟨bg,2,none⟩=some (.func (.func 55) #[.pointer (some ⟨s0.sb,0,none⟩)] #[])∧W1.cell? ⟨nbk,1,none⟩=some (.int .i64 ja)∧W1.cell? ⟨bx,ja,none⟩=some (.int .i64 fa)∧W1.cell? ⟨nbk,2,none⟩=some (.int .i64 jb)∧W1.cell? ⟨bx,jb,none⟩=some (.int .i64 fb):=⟨d2,c1,va,c2,vb⟩
            have K1:W1.drew.cell? ⟨bg,2,none⟩=some (.func (.func 55) #[.pointer (some ⟨s0.sb,0,none⟩)] #[])∧W1.drew.cell? ⟨nbk,1,none⟩=some (.int .i64 ja)∧W1.drew.cell? ⟨bx,ja,none⟩=some (.int .i64 fa)∧W1.drew.cell? ⟨nbk,2,none⟩=some (.int .i64 jb)∧W1.drew.cell? ⟨bx,jb,none⟩=some (.int .i64 fb):=⟨d2,c1,va,c2,vb⟩
            go_region_held3 (fun w'=>w'.cell? ⟨bg,2,none⟩=some (.func (.func 55) #[.pointer (some ⟨s0.sb,0,none⟩)] #[])∧w'.cell? ⟨nbk,1,none⟩=some (.int .i64 ja)∧w'.cell? ⟨bx,ja,none⟩=some (.int .i64 fa)∧w'.cell? ⟨nbk,2,none⟩=some (.int .i64 jb)∧w'.cell? ⟨bx,jb,none⟩=some (.int .i64 fb))
             (first | exact K3 | exact K2 | exact K1 | exact K0)
             ((go_at_call 55;refine hc.mono ?_;rintro r w3 ⟨f3,er3,s3,rfl,hS3,hM3,hF3,hf3,hcn3,hor3⟩;have K2:w3.cell? ⟨bg,2,none⟩=some (.func (.func 55) #[.pointer (some ⟨s0.sb,0,none⟩)] #[])∧w3.cell? ⟨nbk,1,none⟩=some (.int .i64 ja)∧w3.cell? ⟨bx,ja,none⟩=some (.int .i64 fa)∧w3.cell? ⟨nbk,2,none⟩=some (.int .i64 jb)∧w3.cell? ⟨bx,jb,none⟩=some (.int .i64 fb):=⟨(hF3.cell lbg HNKX.out).trans K1.1,(hF3.cell lnb HNNX.out).trans K1.2.1,(hF3.cell lbx HNBX.out).trans K1.2.2.1,(hF3.cell lnb HNNX.out).trans K1.2.2.2.1,(hF3.cell lbx HNBX.out).trans K1.2.2.2.2⟩;have cs3':w3.cell? ⟨bx,t,none⟩=some (.int .i64 z0):=(hF3.cell lbx HNBX.out).trans cs;have fs3':=(hF3.rowL (HR1.out.drawn 1) HNBX.out).free t;have K3:(w3.setCell ⟨bx,t,none⟩ (.int .i64 f3)).cell? ⟨bg,2,none⟩=some (.func (.func 55) #[.pointer (some ⟨s0.sb,0,none⟩)] #[])∧(w3.setCell ⟨bx,t,none⟩ (.int .i64 f3)).cell? ⟨nbk,1,none⟩=some (.int .i64 ja)∧(w3.setCell ⟨bx,t,none⟩ (.int .i64 f3)).cell? ⟨bx,ja,none⟩=some (.int .i64 fa)∧(w3.setCell ⟨bx,t,none⟩ (.int .i64 f3)).cell? ⟨nbk,2,none⟩=some (.int .i64 jb)∧(w3.setCell ⟨bx,t,none⟩ (.int .i64 f3)).cell? ⟨bx,jb,none⟩=some (.int .i64 fb):=⟨far_set' K2.1 hgx,far_set' K2.2.1 hnx,off_set' K2.2.2.1 hnea,far_set' K2.2.2.2.1 hnx,off_set' K2.2.2.2.2 hneb⟩))
            have HI3:=Lib.hid ((HI1.out.drew).next hS3 hM3 hF3 HBB.out)
            have HR3:=Lib.hid (hF3.rowL (HR1.out.drawn 1) HNBX.out)
            have HK3:=Lib.hid (hF3.blk (HK1.out.below (Below.refl _ _).drew) HNKX.out)
            have HA3:=Lib.hid (HA.out.more hM3 (HI1.out.drew).store hS3)
            have HNK3:=Lib.hid (not_bl hM3 lbg HNKX.out)
            have HNB3:=Lib.hid (not_bl hM3 lbx HNBX.out)
            have HC3:Hid (s3.ns.length≤s0.ns.length+(n+(t+1) * (2 * P))):=by
             have h1:=HC2.out
             have h2:2 ^ s.vars=P:=by rw[HP.out,HI1.out.more.vars]
             rw[h2] at hcn3
             show s3.ns.length≤_
             rw[Nat.add_mul];omega
            have HIS:Hid (RunI B w s0 (w3.setCell ⟨bx,t,none⟩ (.int .i64 f3)) s3):=HI3.out.set HBX.out HNB3.out
            have HRS:Hid (RowL vI 3 bx (w3.setCell ⟨bx,t,none⟩ (.int .i64 f3)) bx n (U.set t (f3:Int))):=HR3.out.set t (f3:Int)
            have HKS:Hid (Blk (w3.setCell ⟨bx,t,none⟩ (.int .i64 f3)) bg #[(.func (.func 53) #[.pointer (some ⟨s0.sb,0,none⟩)] #[]),(.func (.func 26) #[.pointer (some ⟨s0.sb,0,none⟩)] #[]),(.func (.func 55) #[.pointer (some ⟨s0.sb,0,none⟩)] #[])] 111):=HK3.out.other (p:=bx) t HGX.out _
            rcases hor3 with ⟨rfl,hden⟩ | ⟨rfl,rfl,hfull⟩
            ·have HDE:Hid (DenI s3 (f3:Int) (fun l=>Ux.valN l (Ux.vals l (e.take t)) x)):=⟨f3,rfl,hf3,fun l hl=>by
              have hl':l.length=s.vars:=by rw[hl,hM3.vars]
              rw[hden]
              simp only[Dd.den_zero,HDa.out l hl',HDb.out l hl']
              unfold Ux.valN;rw[HOP.out]
              generalize (Ux.vals l (e.take t)).getD x.a.toNat false=ya
              generalize (Ux.vals l (e.take t)).getD x.b.toNat false=yb
              cases ya <;> cases yb <;> rfl⟩
             have HAS:=Lib.hid (HA3.out.put HXX.out HN3.out HDE.out)
             clear K0 K1 K2 K3 cs3' fs3' hc hS3 hM3 hF3 hf3 hcn3 d0 d1 d2 c0 c1 c2 c3 c4 c5 cs fs lbx lbg lnb hgx hnx
             go_wp2_with fail
             go_roundw
             case rel=>exact⟨t+1,_,s3,by go_num,by omega,HRS.out,HAS.out,HIS.out,HKS.out,HNK3.out,HNB3.out,HC3.out⟩
             case measure=>simp[intOf];omega
            ·have HFU:Hid (s3.ns.length=s0.budget):=by rw[← HI1.out.more.budget];exact hfull
             have HCO:Hid (s3.ns.length≤s0.ns.length+(e.length+e.length * (2 * 2 ^ s0.vars))):=by
              have h1:=HC3.out
              have h2:(t+1) * (2 * P)≤n * (2 * P):=Nat.mul_le_mul_right _ (by omega)
              show s3.ns.length≤_
              rw[← HN.out,← HP.out];omega
             clear K0 K1 K2 K3 cs3' fs3' hc hS3 hM3 hF3 hf3 hcn3 d0 d1 d2 c0 c1 c2 c3 c4 c5 cs fs lbx lbg lnb hgx hnx
             go_wp2_with fail
             go_ret2
             exact⟨0,18,s3,rfl,HIS.out,HCO.out,Or.inr (Or.inl ⟨HGOOD.out,rfl,rfl,HFU.out⟩)⟩
          ·as_aux_lemma =>
            have h3:x.op=7:=hop
            have e2:(x.op==2)=false:=by rw[h3];rfl
            have e4:(x.op==4)=false:=by rw[h3];rfl
            have e6:(x.op==6)=false:=by rw[h3];rfl
            have e7:(x.op==7)=true:=by rw[h3];rfl
            have e9:(x.op==9)=false:=by rw[h3];rfl
            have e26:(x.op==26)=false:=by rw[h3];rfl
            have e8:(x.op==8)=false:=by rw[h3];rfl
            have HOP:Hid (x.op=7):=h3
            have HN3:Hid (x.op≠3):=by show _≠_;omega
            clear h3 hop hlog
            go_wp2_with fail
            generalize hW1:wr.alloc (.cells #[.int .i64 x.op,.int .i64 x.a,.int .i64 x.b,.int .i64 x.c,.int .i64 x.n,.string x.s] 85)=W1
            have HI1:Hid (RunI B w s0 W1 s):=by rw[← hW1];exact HI.out.pure nb HBB.out
            have HR1:Hid (RowL vI 3 bx W1 bx n U):=by rw[← hW1];exact hR.below nb
            have HK1:Hid (Blk W1 bg #[(.func (.func 53) #[.pointer (some ⟨s0.sb,0,none⟩)] #[]),(.func (.func 26) #[.pointer (some ⟨s0.sb,0,none⟩)] #[]),(.func (.func 55) #[.pointer (some ⟨s0.sb,0,none⟩)] #[])] 111):=by rw[← hW1];exact hK.below nb
            obtain⟨nbk,hnbk⟩ : ∃ q,q=wr.heap.size:=⟨_,rfl⟩
            have kb1:Blk W1 nbk #[.int .i64 x.op,.int .i64 x.a,.int .i64 x.b,.int .i64 x.c,.int .i64 x.n,.string x.s] 85:=by rw[← hW1,hnbk];exact kb
            have hnx:nbk≠bx:=by omega
            have hnn:¬ s.bl nbk:=fun h=>by have:=HI.out.store.lt h;omega
            have hgx:=HGX.out
            rw[← hnbk]
            clear hW1 hnbk kb nb c0 c1 c2 c3 c4 c5 hR hK
            obtain⟨c0,c1,c2,c3,c4,c5⟩:=six_cells kb1
            obtain⟨d0,d1,d2⟩:=three_blk HK1.out
            obtain⟨z0,hz0⟩ : ∃ z,U[t]?=some z:=⟨_,List.getElem?_eq_getElem (by omega)⟩
            have cs:=HR1.out.cell hz0
            have fs:=HR1.out.free t
            have two:=HI1.out.store.wf.two
            have lbx:bx<W1.drew.heap.size:=HR1.out.lt.2
            have lbg:bg<W1.drew.heap.size:=HK1.out.lt
            have lnb:nbk<W1.drew.heap.size:=kb1.lt
            obtain⟨ja,hja,hla⟩:=hkd x.a (by rw[hkk];simp)
            rw[hja] at c1
            obtain⟨fa,hUa,hfa,hda⟩:=HA.out.kid hla
            have va:=HR1.out.cell hUa
            have pa:(0:Int)≤(ja:Int):=by omega
            have qa:(ja:Int)<(n:Int):=by omega
            have HDa:Hid (∀ l:List Bool,l.length=s.vars→Dd.den s.ns (envOf l) fa=(Ux.vals l (e.take t)).getD x.a.toNat false):=fun l hl=>by rw[hja];exact hda l hl
            have HJa:Hid (x.a=(ja:Int)):=hja
            clear hUa hda hja
            obtain⟨jb,hjb,hlb⟩:=hkd x.b (by rw[hkk];simp)
            rw[hjb] at c2
            obtain⟨fb,hUb,hfb,hdb⟩:=HA.out.kid hlb
            have vb:=HR1.out.cell hUb
            have pb:(0:Int)≤(jb:Int):=by omega
            have qb:(jb:Int)<(n:Int):=by omega
            have HDb:Hid (∀ l:List Bool,l.length=s.vars→Dd.den s.ns (envOf l) fb=(Ux.vals l (e.take t)).getD x.b.toNat false):=fun l hl=>by rw[hjb];exact hdb l hl
            have HJb:Hid (x.b=(jb:Int)):=hjb
            clear hUb hdb hjb
            clear hkd hz0
            have hnea:ja≠t:=by omega
            have hneb:jb≠t:=by omega
            have hc:Calls Tryz.prog 55 #[.pointer (some ⟨s0.sb,0,none⟩),.int .i64 fa,.int .i64 1,.int .i64 fb] W1.drew (FnPost (2 ^ s.vars) (fun env=>if Dd.den s.ns env fa then Dd.den s.ns env 1 else Dd.den s.ns env fb) W1.drew s):=by
             have h9:=Ite_any W1.drew s (HI1.out.drew).store fa 1 fb hfa (by omega) hfb
             rw[HI1.out.more.sb] at h9;exact h9
            have HNKX:Hid (¬ s.bl bg):=HNK.out
            have HNNX:Hid (¬ s.bl nbk):=hnn
            have HNBX:Hid (¬ s.bl bx):=HNB2.out
            have K0:W1.cell? ⟨bg,2,none⟩=some (.func (.func 55) #[.pointer (some ⟨s0.sb,0,none⟩)] #[])∧W1.cell? ⟨nbk,1,none⟩=some (.int .i64 ja)∧W1.cell? ⟨bx,ja,none⟩=some (.int .i64 fa)∧W1.cell? ⟨nbk,2,none⟩=some (.int .i64 jb)∧W1.cell? ⟨bx,jb,none⟩=some (.int .i64 fb):=⟨d2,c1,va,c2,vb⟩
            have K1:W1.drew.cell? ⟨bg,2,none⟩=some (.func (.func 55) #[.pointer (some ⟨s0.sb,0,none⟩)] #[])∧W1.drew.cell? ⟨nbk,1,none⟩=some (.int .i64 ja)∧W1.drew.cell? ⟨bx,ja,none⟩=some (.int .i64 fa)∧W1.drew.cell? ⟨nbk,2,none⟩=some (.int .i64 jb)∧W1.drew.cell? ⟨bx,jb,none⟩=some (.int .i64 fb):=⟨d2,c1,va,c2,vb⟩
            go_region_held3 (fun w'=>w'.cell? ⟨bg,2,none⟩=some (.func (.func 55) #[.pointer (some ⟨s0.sb,0,none⟩)] #[])∧w'.cell? ⟨nbk,1,none⟩=some (.int .i64 ja)∧w'.cell? ⟨bx,ja,none⟩=some (.int .i64 fa)∧w'.cell? ⟨nbk,2,none⟩=some (.int .i64 jb)∧w'.cell? ⟨bx,jb,none⟩=some (.int .i64 fb))
             (first | exact K3 | exact K2 | exact K1 | exact K0)
             ((go_at_call 55;refine hc.mono ?_;rintro r w3 ⟨f3,er3,s3,rfl,hS3,hM3,hF3,hf3,hcn3,hor3⟩;have K2:w3.cell? ⟨bg,2,none⟩=some (.func (.func 55) #[.pointer (some ⟨s0.sb,0,none⟩)] #[])∧w3.cell? ⟨nbk,1,none⟩=some (.int .i64 ja)∧w3.cell? ⟨bx,ja,none⟩=some (.int .i64 fa)∧w3.cell? ⟨nbk,2,none⟩=some (.int .i64 jb)∧w3.cell? ⟨bx,jb,none⟩=some (.int .i64 fb):=⟨(hF3.cell lbg HNKX.out).trans K1.1,(hF3.cell lnb HNNX.out).trans K1.2.1,(hF3.cell lbx HNBX.out).trans K1.2.2.1,(hF3.cell lnb HNNX.out).trans K1.2.2.2.1,(hF3.cell lbx HNBX.out).trans K1.2.2.2.2⟩;have cs3':w3.cell? ⟨bx,t,none⟩=some (.int .i64 z0):=(hF3.cell lbx HNBX.out).trans cs;have fs3':=(hF3.rowL (HR1.out.drawn 1) HNBX.out).free t;have K3:(w3.setCell ⟨bx,t,none⟩ (.int .i64 f3)).cell? ⟨bg,2,none⟩=some (.func (.func 55) #[.pointer (some ⟨s0.sb,0,none⟩)] #[])∧(w3.setCell ⟨bx,t,none⟩ (.int .i64 f3)).cell? ⟨nbk,1,none⟩=some (.int .i64 ja)∧(w3.setCell ⟨bx,t,none⟩ (.int .i64 f3)).cell? ⟨bx,ja,none⟩=some (.int .i64 fa)∧(w3.setCell ⟨bx,t,none⟩ (.int .i64 f3)).cell? ⟨nbk,2,none⟩=some (.int .i64 jb)∧(w3.setCell ⟨bx,t,none⟩ (.int .i64 f3)).cell? ⟨bx,jb,none⟩=some (.int .i64 fb):=⟨far_set' K2.1 hgx,far_set' K2.2.1 hnx,off_set' K2.2.2.1 hnea,far_set' K2.2.2.2.1 hnx,off_set' K2.2.2.2.2 hneb⟩))
            have HI3:=Lib.hid ((HI1.out.drew).next hS3 hM3 hF3 HBB.out)
            have HR3:=Lib.hid (hF3.rowL (HR1.out.drawn 1) HNBX.out)
            have HK3:=Lib.hid (hF3.blk (HK1.out.below (Below.refl _ _).drew) HNKX.out)
            have HA3:=Lib.hid (HA.out.more hM3 (HI1.out.drew).store hS3)
            have HNK3:=Lib.hid (not_bl hM3 lbg HNKX.out)
            have HNB3:=Lib.hid (not_bl hM3 lbx HNBX.out)
            have HC3:Hid (s3.ns.length≤s0.ns.length+(n+(t+1) * (2 * P))):=by
             have h1:=HC2.out
             have h2:2 ^ s.vars=P:=by rw[HP.out,HI1.out.more.vars]
             rw[h2] at hcn3
             show s3.ns.length≤_
             rw[Nat.add_mul];omega
            have HIS:Hid (RunI B w s0 (w3.setCell ⟨bx,t,none⟩ (.int .i64 f3)) s3):=HI3.out.set HBX.out HNB3.out
            have HRS:Hid (RowL vI 3 bx (w3.setCell ⟨bx,t,none⟩ (.int .i64 f3)) bx n (U.set t (f3:Int))):=HR3.out.set t (f3:Int)
            have HKS:Hid (Blk (w3.setCell ⟨bx,t,none⟩ (.int .i64 f3)) bg #[(.func (.func 53) #[.pointer (some ⟨s0.sb,0,none⟩)] #[]),(.func (.func 26) #[.pointer (some ⟨s0.sb,0,none⟩)] #[]),(.func (.func 55) #[.pointer (some ⟨s0.sb,0,none⟩)] #[])] 111):=HK3.out.other (p:=bx) t HGX.out _
            rcases hor3 with ⟨rfl,hden⟩ | ⟨rfl,rfl,hfull⟩
            ·have HDE:Hid (DenI s3 (f3:Int) (fun l=>Ux.valN l (Ux.vals l (e.take t)) x)):=⟨f3,rfl,hf3,fun l hl=>by
              have hl':l.length=s.vars:=by rw[hl,hM3.vars]
              rw[hden]
              simp only[Dd.den_one,HDa.out l hl',HDb.out l hl']
              unfold Ux.valN;rw[HOP.out]
              generalize (Ux.vals l (e.take t)).getD x.a.toNat false=ya
              generalize (Ux.vals l (e.take t)).getD x.b.toNat false=yb
              cases ya <;> cases yb <;> rfl⟩
             have HAS:=Lib.hid (HA3.out.put HXX.out HN3.out HDE.out)
             clear K0 K1 K2 K3 cs3' fs3' hc hS3 hM3 hF3 hf3 hcn3 d0 d1 d2 c0 c1 c2 c3 c4 c5 cs fs lbx lbg lnb hgx hnx
             go_wp2_with fail
             go_roundw
             case rel=>exact⟨t+1,_,s3,by go_num,by omega,HRS.out,HAS.out,HIS.out,HKS.out,HNK3.out,HNB3.out,HC3.out⟩
             case measure=>simp[intOf];omega
            ·have HFU:Hid (s3.ns.length=s0.budget):=by rw[← HI1.out.more.budget];exact hfull
             have HCO:Hid (s3.ns.length≤s0.ns.length+(e.length+e.length * (2 * 2 ^ s0.vars))):=by
              have h1:=HC3.out
              have h2:(t+1) * (2 * P)≤n * (2 * P):=Nat.mul_le_mul_right _ (by omega)
              show s3.ns.length≤_
              rw[← HN.out,← HP.out];omega
             clear K0 K1 K2 K3 cs3' fs3' hc hS3 hM3 hF3 hf3 hcn3 d0 d1 d2 c0 c1 c2 c3 c4 c5 cs fs lbx lbg lnb hgx hnx
             go_wp2_with fail
             go_ret2
             exact⟨0,18,s3,rfl,HIS.out,HCO.out,Or.inr (Or.inl ⟨HGOOD.out,rfl,rfl,HFU.out⟩)⟩
          ·as_aux_lemma =>
            have h3:x.op=8:=hop
            have e2:(x.op==2)=false:=by rw[h3];rfl
            have e4:(x.op==4)=false:=by rw[h3];rfl
            have e6:(x.op==6)=false:=by rw[h3];rfl
            have e7:(x.op==7)=false:=by rw[h3];rfl
            have e9:(x.op==9)=false:=by rw[h3];rfl
            have e26:(x.op==26)=false:=by rw[h3];rfl
            have e8:(x.op==8)=true:=by rw[h3];rfl
            have HOP:Hid (x.op=8):=h3
            have HN3:Hid (x.op≠3):=by show _≠_;omega
            clear h3 hop hlog
            go_wp2_with fail
            generalize hW1:wr.alloc (.cells #[.int .i64 x.op,.int .i64 x.a,.int .i64 x.b,.int .i64 x.c,.int .i64 x.n,.string x.s] 85)=W1
            have HI1:Hid (RunI B w s0 W1 s):=by rw[← hW1];exact HI.out.pure nb HBB.out
            have HR1:Hid (RowL vI 3 bx W1 bx n U):=by rw[← hW1];exact hR.below nb
            have HK1:Hid (Blk W1 bg #[(.func (.func 53) #[.pointer (some ⟨s0.sb,0,none⟩)] #[]),(.func (.func 26) #[.pointer (some ⟨s0.sb,0,none⟩)] #[]),(.func (.func 55) #[.pointer (some ⟨s0.sb,0,none⟩)] #[])] 111):=by rw[← hW1];exact hK.below nb
            obtain⟨nbk,hnbk⟩ : ∃ q,q=wr.heap.size:=⟨_,rfl⟩
            have kb1:Blk W1 nbk #[.int .i64 x.op,.int .i64 x.a,.int .i64 x.b,.int .i64 x.c,.int .i64 x.n,.string x.s] 85:=by rw[← hW1,hnbk];exact kb
            have hnx:nbk≠bx:=by omega
            have hnn:¬ s.bl nbk:=fun h=>by have:=HI.out.store.lt h;omega
            have hgx:=HGX.out
            rw[← hnbk]
            clear hW1 hnbk kb nb c0 c1 c2 c3 c4 c5 hR hK
            obtain⟨c0,c1,c2,c3,c4,c5⟩:=six_cells kb1
            obtain⟨d0,d1,d2⟩:=three_blk HK1.out
            obtain⟨z0,hz0⟩ : ∃ z,U[t]?=some z:=⟨_,List.getElem?_eq_getElem (by omega)⟩
            have cs:=HR1.out.cell hz0
            have fs:=HR1.out.free t
            have two:=HI1.out.store.wf.two
            have lbx:bx<W1.drew.heap.size:=HR1.out.lt.2
            have lbg:bg<W1.drew.heap.size:=HK1.out.lt
            have lnb:nbk<W1.drew.heap.size:=kb1.lt
            obtain⟨ja,hja,hla⟩:=hkd x.a (by rw[hkk];simp)
            rw[hja] at c1
            obtain⟨fa,hUa,hfa,hda⟩:=HA.out.kid hla
            have va:=HR1.out.cell hUa
            have pa:(0:Int)≤(ja:Int):=by omega
            have qa:(ja:Int)<(n:Int):=by omega
            have HDa:Hid (∀ l:List Bool,l.length=s.vars→Dd.den s.ns (envOf l) fa=(Ux.vals l (e.take t)).getD x.a.toNat false):=fun l hl=>by rw[hja];exact hda l hl
            have HJa:Hid (x.a=(ja:Int)):=hja
            clear hUa hda hja
            obtain⟨jb,hjb,hlb⟩:=hkd x.b (by rw[hkk];simp)
            rw[hjb] at c2
            obtain⟨fb,hUb,hfb,hdb⟩:=HA.out.kid hlb
            have vb:=HR1.out.cell hUb
            have pb:(0:Int)≤(jb:Int):=by omega
            have qb:(jb:Int)<(n:Int):=by omega
            have HDb:Hid (∀ l:List Bool,l.length=s.vars→Dd.den s.ns (envOf l) fb=(Ux.vals l (e.take t)).getD x.b.toNat false):=fun l hl=>by rw[hjb];exact hdb l hl
            have HJb:Hid (x.b=(jb:Int)):=hjb
            clear hUb hdb hjb
            clear hkd hz0
            have hnea:ja≠t:=by omega
            have hneb:jb≠t:=by omega
            have hc0:Calls Tryz.prog 55 #[.pointer (some ⟨s0.sb,0,none⟩),.int .i64 fb,.int .i64 0,.int .i64 1] W1.drew (FnPost (2 ^ s.vars) (fun env=>if Dd.den s.ns env fb then Dd.den s.ns env 0 else Dd.den s.ns env 1) W1.drew s):=by
             have h9:=Ite_any W1.drew s (HI1.out.drew).store fb 0 1 hfb (by omega) (by omega)
             rw[HI1.out.more.sb] at h9;exact h9
            have HNKX:Hid (¬ s.bl bg):=HNK.out
            have HNNX:Hid (¬ s.bl nbk):=hnn
            have HNBX:Hid (¬ s.bl bx):=HNB2.out
            have K0:W1.cell? ⟨bg,2,none⟩=some (.func (.func 55) #[.pointer (some ⟨s0.sb,0,none⟩)] #[])∧W1.cell? ⟨nbk,2,none⟩=some (.int .i64 jb)∧W1.cell? ⟨bx,jb,none⟩=some (.int .i64 fb):=⟨d2,c2,vb⟩
            have K1:W1.drew.cell? ⟨bg,2,none⟩=some (.func (.func 55) #[.pointer (some ⟨s0.sb,0,none⟩)] #[])∧W1.drew.cell? ⟨nbk,2,none⟩=some (.int .i64 jb)∧W1.drew.cell? ⟨bx,jb,none⟩=some (.int .i64 fb):=⟨d2,c2,vb⟩
            go_region_held3 (fun w'=>w'.cell? ⟨bg,2,none⟩=some (.func (.func 55) #[.pointer (some ⟨s0.sb,0,none⟩)] #[])∧w'.cell? ⟨nbk,2,none⟩=some (.int .i64 jb)∧w'.cell? ⟨bx,jb,none⟩=some (.int .i64 fb))
             (first | exact K2 | exact K1 | exact K0)
             ((go_at_call 55;refine hc0.mono ?_;rintro r w3 ⟨f3,er3,s3,rfl,hS3,hM3,hF3,hf3,hcn3,hor3⟩;have K2:w3.cell? ⟨bg,2,none⟩=some (.func (.func 55) #[.pointer (some ⟨s0.sb,0,none⟩)] #[])∧w3.cell? ⟨nbk,2,none⟩=some (.int .i64 jb)∧w3.cell? ⟨bx,jb,none⟩=some (.int .i64 fb):=⟨(hF3.cell lbg HNKX.out).trans K1.1,(hF3.cell lnb HNNX.out).trans K1.2.1,(hF3.cell lbx HNBX.out).trans K1.2.2⟩))
            have HI2:=Lib.hid (HI1.out.drew.next hS3 hM3 hF3 HBB.out)
            have HR2:=Lib.hid (hF3.rowL (HR1.out.drawn 1) HNBX.out)
            have HK2:=Lib.hid (hF3.blk (HK1.out.below (Below.refl _ _).drew) HNKX.out)
            have HA2:=Lib.hid (HA.out.more hM3 HI1.out.drew.store hS3)
            have kb2:=hF3.blk (kb1.below (Below.refl _ _).drew) HNNX.out
            have hnk2:=not_bl hM3 lbg HNKX.out
            have hnb2:=not_bl hM3 lbx HNBX.out
            have hnn2:=not_bl hM3 lnb HNNX.out
            have lbx2:bx<w3.drew.heap.size:=HR2.out.lt.2
            have lbg2:bg<w3.drew.heap.size:=HK2.out.lt
            have lnb2:nbk<w3.drew.heap.size:=kb2.lt
            have HBM:Hid (s3.budget=s.budget∧s3.vars=s.vars):=⟨hM3.budget,hM3.vars⟩
            have HCN:=Lib.hid hcn3
            rcases hor3 with ⟨rfl,hden⟩ | ⟨rfl,rfl,hfull⟩
            ·have HZ:Hid (∀ l:List Bool,l.length=s.vars→Dd.den s3.ns (envOf l) f3 = !((Ux.vals l (e.take t)).getD x.b.toNat false)):=fun l hl=>by
              rw[hden];simp only[Dd.den_zero,Dd.den_one,HDb.out l hl]
              cases (Ux.vals l (e.take t)).getD x.b.toNat false <;> rfl
             have HDA3:Hid (∀ l:List Bool,l.length=s.vars→Dd.den s3.ns (envOf l) fa=(Ux.vals l (e.take t)).getD x.a.toNat false):=fun l hl=>by rw[hM3.den HI1.out.drew.store hS3 _ hfa];exact HDa.out l hl
             have HDB3:Hid (∀ l:List Bool,l.length=s.vars→Dd.den s3.ns (envOf l) fb=(Ux.vals l (e.take t)).getD x.b.toNat false):=fun l hl=>by rw[hM3.den HI1.out.drew.store hS3 _ hfb];exact HDb.out l hl
             have hfa3:=Nat.lt_of_lt_of_le hfa hM3.len
             have hfb3:=Nat.lt_of_lt_of_le hfb hM3.len
             obtain⟨g0,g1,g2,g3,g4,g5⟩:=six_cells kb2
             rw[HJa.out] at g1
             rw[HJb.out] at g2
             obtain⟨k0,k1,k2⟩:=three_blk HK2.out
             have wa:w3.cell? ⟨bx,ja,none⟩=some (.int .i64 fa):=(hF3.cell lbx HNBX.out).trans va
             have wb:w3.cell? ⟨bx,jb,none⟩=some (.int .i64 fb):=(hF3.cell lbx HNBX.out).trans vb
             have cs2:w3.cell? ⟨bx,t,none⟩=some (.int .i64 z0):=(hF3.cell lbx HNBX.out).trans cs
             have fs2:=HR2.out.free t
             clear K0 K1 K2 hc0 d0 d1 d2 c0 c1 c2 c3 c4 c5 va vb cs fs hden lbx lbg lnb HNKX HNNX HNBX hF3 kb1 HR1 HK1
             go_wp2_with fail
             have hc:Calls Tryz.prog 55 #[.pointer (some ⟨s0.sb,0,none⟩),.int .i64 fa,.int .i64 f3,.int .i64 fb] w3.drew (FnPost (2 ^ s3.vars) (fun env=>if Dd.den s3.ns env fa then Dd.den s3.ns env f3 else Dd.den s3.ns env fb) w3.drew s3):=by
              have h9:=Ite_any w3.drew s3 (HI2.out.drew).store fa f3 fb hfa3 hf3 hfb3
              rw[HI2.out.more.sb] at h9;exact h9
             have lbx:=lbx2
             have lbg:=lbg2
             have lnb:=lnb2
             have HNKX:Hid (¬ s3.bl bg):=hnk2
             have HNNX:Hid (¬ s3.bl nbk):=hnn2
             have HNBX:Hid (¬ s3.bl bx):=hnb2
             have K0:w3.cell? ⟨bg,2,none⟩=some (.func (.func 55) #[.pointer (some ⟨s0.sb,0,none⟩)] #[])∧w3.cell? ⟨nbk,1,none⟩=some (.int .i64 ja)∧w3.cell? ⟨bx,ja,none⟩=some (.int .i64 fa)∧w3.cell? ⟨nbk,2,none⟩=some (.int .i64 jb)∧w3.cell? ⟨bx,jb,none⟩=some (.int .i64 fb):=⟨k2,g1,wa,g2,wb⟩
             have K1:w3.drew.cell? ⟨bg,2,none⟩=some (.func (.func 55) #[.pointer (some ⟨s0.sb,0,none⟩)] #[])∧w3.drew.cell? ⟨nbk,1,none⟩=some (.int .i64 ja)∧w3.drew.cell? ⟨bx,ja,none⟩=some (.int .i64 fa)∧w3.drew.cell? ⟨nbk,2,none⟩=some (.int .i64 jb)∧w3.drew.cell? ⟨bx,jb,none⟩=some (.int .i64 fb):=⟨k2,g1,wa,g2,wb⟩
             go_region_held3 (fun w'=>w'.cell? ⟨bg,2,none⟩=some (.func (.func 55) #[.pointer (some ⟨s0.sb,0,none⟩)] #[])∧w'.cell? ⟨nbk,1,none⟩=some (.int .i64 ja)∧w'.cell? ⟨bx,ja,none⟩=some (.int .i64 fa)∧w'.cell? ⟨nbk,2,none⟩=some (.int .i64 jb)∧w'.cell? ⟨bx,jb,none⟩=some (.int .i64 fb))
              (first | exact K3 | exact K2 | exact K1 | exact K0)
              ((go_at_call 55;refine hc.mono ?_;rintro r w4 ⟨f4,er4,s4,rfl,hS4,hM4,hF4,hf4,hcn4,hor4⟩;have K2:w4.cell? ⟨bg,2,none⟩=some (.func (.func 55) #[.pointer (some ⟨s0.sb,0,none⟩)] #[])∧w4.cell? ⟨nbk,1,none⟩=some (.int .i64 ja)∧w4.cell? ⟨bx,ja,none⟩=some (.int .i64 fa)∧w4.cell? ⟨nbk,2,none⟩=some (.int .i64 jb)∧w4.cell? ⟨bx,jb,none⟩=some (.int .i64 fb):=⟨(hF4.cell lbg HNKX.out).trans K1.1,(hF4.cell lnb HNNX.out).trans K1.2.1,(hF4.cell lbx HNBX.out).trans K1.2.2.1,(hF4.cell lnb HNNX.out).trans K1.2.2.2.1,(hF4.cell lbx HNBX.out).trans K1.2.2.2.2⟩;have cs4':w4.cell? ⟨bx,t,none⟩=some (.int .i64 z0):=(hF4.cell lbx HNBX.out).trans cs2;have fs4':=(hF4.rowL (HR2.out.drawn 1) HNBX.out).free t;have K3:(w4.setCell ⟨bx,t,none⟩ (.int .i64 f4)).cell? ⟨bg,2,none⟩=some (.func (.func 55) #[.pointer (some ⟨s0.sb,0,none⟩)] #[])∧(w4.setCell ⟨bx,t,none⟩ (.int .i64 f4)).cell? ⟨nbk,1,none⟩=some (.int .i64 ja)∧(w4.setCell ⟨bx,t,none⟩ (.int .i64 f4)).cell? ⟨bx,ja,none⟩=some (.int .i64 fa)∧(w4.setCell ⟨bx,t,none⟩ (.int .i64 f4)).cell? ⟨nbk,2,none⟩=some (.int .i64 jb)∧(w4.setCell ⟨bx,t,none⟩ (.int .i64 f4)).cell? ⟨bx,jb,none⟩=some (.int .i64 fb):=⟨far_set' K2.1 hgx,far_set' K2.2.1 hnx,off_set' K2.2.2.1 hnea,far_set' K2.2.2.2.1 hnx,off_set' K2.2.2.2.2 hneb⟩))
             have HI3:=Lib.hid ((HI2.out.drew).next hS4 hM4 hF4 HBB.out)
             have HR3:=Lib.hid (hF4.rowL (HR2.out.drawn 1) HNBX.out)
             have HK3:=Lib.hid (hF4.blk (HK2.out.below (Below.refl _ _).drew) HNKX.out)
             have HA3:=Lib.hid (HA2.out.more hM4 (HI2.out.drew).store hS4)
             have HNK3:=Lib.hid (not_bl hM4 lbg HNKX.out)
             have HNB3:=Lib.hid (not_bl hM4 lbx HNBX.out)
             have HC3:Hid (s4.ns.length≤s0.ns.length+(n+(t+1) * (2 * P))):=by
              have h1:=HC2.out
              have h2:2 ^ s.vars=P:=by rw[HP.out,HI1.out.more.vars]
              have h5:=HCN.out;rw[h2] at h5;rw[HBM.out.2,h2] at hcn4
              show s4.ns.length≤_
              rw[Nat.add_mul];omega
             have HIS:Hid (RunI B w s0 (w4.setCell ⟨bx,t,none⟩ (.int .i64 f4)) s4):=HI3.out.set HBX.out HNB3.out
             have HRS:Hid (RowL vI 3 bx (w4.setCell ⟨bx,t,none⟩ (.int .i64 f4)) bx n (U.set t (f4:Int))):=HR3.out.set t (f4:Int)
             have HKS:Hid (Blk (w4.setCell ⟨bx,t,none⟩ (.int .i64 f4)) bg #[(.func (.func 53) #[.pointer (some ⟨s0.sb,0,none⟩)] #[]),(.func (.func 26) #[.pointer (some ⟨s0.sb,0,none⟩)] #[]),(.func (.func 55) #[.pointer (some ⟨s0.sb,0,none⟩)] #[])] 111):=HK3.out.other (p:=bx) t HGX.out _
             rcases hor4 with ⟨rfl,hden⟩ | ⟨rfl,rfl,hfull⟩
             ·have HDE:Hid (DenI s4 (f4:Int) (fun l=>Ux.valN l (Ux.vals l (e.take t)) x)):=⟨f4,rfl,hf4,fun l hl=>by
               have hl':l.length=s.vars:=by rw[hl,hM4.vars,HBM.out.2]
               rw[hden]
               simp only[HDA3.out l hl',HZ.out l hl',HDB3.out l hl']
               unfold Ux.valN;rw[HOP.out]
               generalize (Ux.vals l (e.take t)).getD x.a.toNat false=ya
               generalize (Ux.vals l (e.take t)).getD x.b.toNat false=yb
               cases ya <;> cases yb <;> rfl⟩
              have HAS:=Lib.hid (HA3.out.put HXX.out HN3.out HDE.out)
              clear K0 K1 K2 K3 cs4' fs4' hc hS4 hM4 hF4 hf4 hcn4 k0 k1 k2 g0 g1 g2 g3 g4 g5 cs2 fs2 lbx lbg lnb hgx hnx hS3 hM3
              go_wp2_with fail
              go_roundw
              case rel=>exact⟨t+1,_,s4,by go_num,by omega,HRS.out,HAS.out,HIS.out,HKS.out,HNK3.out,HNB3.out,HC3.out⟩
              case measure=>simp[intOf];omega
             ·have HFU:Hid (s4.ns.length=s0.budget):=by rw[← HI1.out.more.budget,← HBM.out.1];exact hfull
              have HCO:Hid (s4.ns.length≤s0.ns.length+(e.length+e.length * (2 * 2 ^ s0.vars))):=by
               have h1:=HC3.out
               have h2:(t+1) * (2 * P)≤n * (2 * P):=Nat.mul_le_mul_right _ (by omega)
               show s4.ns.length≤_
               rw[← HN.out,← HP.out];omega
              clear K0 K1 K2 K3 cs4' fs4' hc hS4 hM4 hF4 hf4 hcn4 k0 k1 k2 g0 g1 g2 g3 g4 g5 cs2 fs2 lbx lbg lnb hgx hnx hS3 hM3
              go_wp2_with fail
              go_ret2
              exact⟨0,18,s4,rfl,HIS.out,HCO.out,Or.inr (Or.inl ⟨HGOOD.out,rfl,rfl,HFU.out⟩)⟩
            ·have HFU:Hid (s3.ns.length=s0.budget):=by rw[← HI1.out.more.budget];exact hfull
             have HCO:Hid (s3.ns.length≤s0.ns.length+(e.length+e.length * (2 * 2 ^ s0.vars))):=by
              have h1:=HC2.out
              have h2:2 ^ s.vars=P:=by rw[HP.out,HI1.out.more.vars]
              have h3:(t+1) * (2 * P)≤n * (2 * P):=Nat.mul_le_mul_right _ (by omega)
              have h4:=HCN.out
              rw[h2] at h4
              rw[Nat.add_mul] at h3
              show s3.ns.length≤_
              rw[← HN.out,← HP.out];omega
             clear K0 K1 K2 hc0 d0 d1 d2 c0 c1 c2 c3 c4 c5 va vb cs fs lbx lbg lnb hF3 hS3 hM3
             go_wp2_with fail
             go_ret2
             exact⟨0,18,s3,rfl,HI2.out,HCO.out,Or.inr (Or.inl ⟨HGOOD.out,rfl,rfl,HFU.out⟩)⟩
          ·as_aux_lemma =>
            have h3:x.op=9:=hop
            have e2:(x.op==2)=false:=by rw[h3];rfl
            have e4:(x.op==4)=false:=by rw[h3];rfl
            have e6:(x.op==6)=false:=by rw[h3];rfl
            have e7:(x.op==7)=false:=by rw[h3];rfl
            have e9:(x.op==9)=true:=by rw[h3];rfl
            have e26:(x.op==26)=false:=by rw[h3];rfl
            have e8:(x.op==8)=false:=by rw[h3];rfl
            have HOP:Hid (x.op=9):=h3
            have HN3:Hid (x.op≠3):=by show _≠_;omega
            clear h3 hop hlog
            go_wp2_with fail
            generalize hW1:wr.alloc (.cells #[.int .i64 x.op,.int .i64 x.a,.int .i64 x.b,.int .i64 x.c,.int .i64 x.n,.string x.s] 85)=W1
            have HI1:Hid (RunI B w s0 W1 s):=by rw[← hW1];exact HI.out.pure nb HBB.out
            have HR1:Hid (RowL vI 3 bx W1 bx n U):=by rw[← hW1];exact hR.below nb
            have HK1:Hid (Blk W1 bg #[(.func (.func 53) #[.pointer (some ⟨s0.sb,0,none⟩)] #[]),(.func (.func 26) #[.pointer (some ⟨s0.sb,0,none⟩)] #[]),(.func (.func 55) #[.pointer (some ⟨s0.sb,0,none⟩)] #[])] 111):=by rw[← hW1];exact hK.below nb
            obtain⟨nbk,hnbk⟩ : ∃ q,q=wr.heap.size:=⟨_,rfl⟩
            have kb1:Blk W1 nbk #[.int .i64 x.op,.int .i64 x.a,.int .i64 x.b,.int .i64 x.c,.int .i64 x.n,.string x.s] 85:=by rw[← hW1,hnbk];exact kb
            have hnx:nbk≠bx:=by omega
            have hnn:¬ s.bl nbk:=fun h=>by have:=HI.out.store.lt h;omega
            have hgx:=HGX.out
            rw[← hnbk]
            clear hW1 hnbk kb nb c0 c1 c2 c3 c4 c5 hR hK
            obtain⟨c0,c1,c2,c3,c4,c5⟩:=six_cells kb1
            obtain⟨d0,d1,d2⟩:=three_blk HK1.out
            obtain⟨z0,hz0⟩ : ∃ z,U[t]?=some z:=⟨_,List.getElem?_eq_getElem (by omega)⟩
            have cs:=HR1.out.cell hz0
            have fs:=HR1.out.free t
            have two:=HI1.out.store.wf.two
            have lbx:bx<W1.drew.heap.size:=HR1.out.lt.2
            have lbg:bg<W1.drew.heap.size:=HK1.out.lt
            have lnb:nbk<W1.drew.heap.size:=kb1.lt
            obtain⟨ja,hja,hla⟩:=hkd x.a (by rw[hkk];simp)
            rw[hja] at c1
            obtain⟨fa,hUa,hfa,hda⟩:=HA.out.kid hla
            have va:=HR1.out.cell hUa
            have pa:(0:Int)≤(ja:Int):=by omega
            have qa:(ja:Int)<(n:Int):=by omega
            have HDa:Hid (∀ l:List Bool,l.length=s.vars→Dd.den s.ns (envOf l) fa=(Ux.vals l (e.take t)).getD x.a.toNat false):=fun l hl=>by rw[hja];exact hda l hl
            have HJa:Hid (x.a=(ja:Int)):=hja
            clear hUa hda hja
            obtain⟨jb,hjb,hlb⟩:=hkd x.b (by rw[hkk];simp)
            rw[hjb] at c2
            obtain⟨fb,hUb,hfb,hdb⟩:=HA.out.kid hlb
            have vb:=HR1.out.cell hUb
            have pb:(0:Int)≤(jb:Int):=by omega
            have qb:(jb:Int)<(n:Int):=by omega
            have HDb:Hid (∀ l:List Bool,l.length=s.vars→Dd.den s.ns (envOf l) fb=(Ux.vals l (e.take t)).getD x.b.toNat false):=fun l hl=>by rw[hjb];exact hdb l hl
            have HJb:Hid (x.b=(jb:Int)):=hjb
            clear hUb hdb hjb
            clear hkd hz0
            have hnea:ja≠t:=by omega
            have hneb:jb≠t:=by omega
            have hc:Calls Tryz.prog 55 #[.pointer (some ⟨s0.sb,0,none⟩),.int .i64 fa,.int .i64 fb,.int .i64 1] W1.drew (FnPost (2 ^ s.vars) (fun env=>if Dd.den s.ns env fa then Dd.den s.ns env fb else Dd.den s.ns env 1) W1.drew s):=by
             have h9:=Ite_any W1.drew s (HI1.out.drew).store fa fb 1 hfa hfb (by omega)
             rw[HI1.out.more.sb] at h9;exact h9
            have HNKX:Hid (¬ s.bl bg):=HNK.out
            have HNNX:Hid (¬ s.bl nbk):=hnn
            have HNBX:Hid (¬ s.bl bx):=HNB2.out
            have K0:W1.cell? ⟨bg,2,none⟩=some (.func (.func 55) #[.pointer (some ⟨s0.sb,0,none⟩)] #[])∧W1.cell? ⟨nbk,1,none⟩=some (.int .i64 ja)∧W1.cell? ⟨bx,ja,none⟩=some (.int .i64 fa)∧W1.cell? ⟨nbk,2,none⟩=some (.int .i64 jb)∧W1.cell? ⟨bx,jb,none⟩=some (.int .i64 fb):=⟨d2,c1,va,c2,vb⟩
            have K1:W1.drew.cell? ⟨bg,2,none⟩=some (.func (.func 55) #[.pointer (some ⟨s0.sb,0,none⟩)] #[])∧W1.drew.cell? ⟨nbk,1,none⟩=some (.int .i64 ja)∧W1.drew.cell? ⟨bx,ja,none⟩=some (.int .i64 fa)∧W1.drew.cell? ⟨nbk,2,none⟩=some (.int .i64 jb)∧W1.drew.cell? ⟨bx,jb,none⟩=some (.int .i64 fb):=⟨d2,c1,va,c2,vb⟩
            go_region_held3 (fun w'=>w'.cell? ⟨bg,2,none⟩=some (.func (.func 55) #[.pointer (some ⟨s0.sb,0,none⟩)] #[])∧w'.cell? ⟨nbk,1,none⟩=some (.int .i64 ja)∧w'.cell? ⟨bx,ja,none⟩=some (.int .i64 fa)∧w'.cell? ⟨nbk,2,none⟩=some (.int .i64 jb)∧w'.cell? ⟨bx,jb,none⟩=some (.int .i64 fb))
             (first | exact K3 | exact K2 | exact K1 | exact K0)
             ((go_at_call 55;refine hc.mono ?_;rintro r w3 ⟨f3,er3,s3,rfl,hS3,hM3,hF3,hf3,hcn3,hor3⟩;have K2:w3.cell? ⟨bg,2,none⟩=some (.func (.func 55) #[.pointer (some ⟨s0.sb,0,none⟩)] #[])∧w3.cell? ⟨nbk,1,none⟩=some (.int .i64 ja)∧w3.cell? ⟨bx,ja,none⟩=some (.int .i64 fa)∧w3.cell? ⟨nbk,2,none⟩=some (.int .i64 jb)∧w3.cell? ⟨bx,jb,none⟩=some (.int .i64 fb):=⟨(hF3.cell lbg HNKX.out).trans K1.1,(hF3.cell lnb HNNX.out).trans K1.2.1,(hF3.cell lbx HNBX.out).trans K1.2.2.1,(hF3.cell lnb HNNX.out).trans K1.2.2.2.1,(hF3.cell lbx HNBX.out).trans K1.2.2.2.2⟩;have cs3':w3.cell? ⟨bx,t,none⟩=some (.int .i64 z0):=(hF3.cell lbx HNBX.out).trans cs;have fs3':=(hF3.rowL (HR1.out.drawn 1) HNBX.out).free t;have K3:(w3.setCell ⟨bx,t,none⟩ (.int .i64 f3)).cell? ⟨bg,2,none⟩=some (.func (.func 55) #[.pointer (some ⟨s0.sb,0,none⟩)] #[])∧(w3.setCell ⟨bx,t,none⟩ (.int .i64 f3)).cell? ⟨nbk,1,none⟩=some (.int .i64 ja)∧(w3.setCell ⟨bx,t,none⟩ (.int .i64 f3)).cell? ⟨bx,ja,none⟩=some (.int .i64 fa)∧(w3.setCell ⟨bx,t,none⟩ (.int .i64 f3)).cell? ⟨nbk,2,none⟩=some (.int .i64 jb)∧(w3.setCell ⟨bx,t,none⟩ (.int .i64 f3)).cell? ⟨bx,jb,none⟩=some (.int .i64 fb):=⟨far_set' K2.1 hgx,far_set' K2.2.1 hnx,off_set' K2.2.2.1 hnea,far_set' K2.2.2.2.1 hnx,off_set' K2.2.2.2.2 hneb⟩))
            have HI3:=Lib.hid ((HI1.out.drew).next hS3 hM3 hF3 HBB.out)
            have HR3:=Lib.hid (hF3.rowL (HR1.out.drawn 1) HNBX.out)
            have HK3:=Lib.hid (hF3.blk (HK1.out.below (Below.refl _ _).drew) HNKX.out)
            have HA3:=Lib.hid (HA.out.more hM3 (HI1.out.drew).store hS3)
            have HNK3:=Lib.hid (not_bl hM3 lbg HNKX.out)
            have HNB3:=Lib.hid (not_bl hM3 lbx HNBX.out)
            have HC3:Hid (s3.ns.length≤s0.ns.length+(n+(t+1) * (2 * P))):=by
             have h1:=HC2.out
             have h2:2 ^ s.vars=P:=by rw[HP.out,HI1.out.more.vars]
             rw[h2] at hcn3
             show s3.ns.length≤_
             rw[Nat.add_mul];omega
            have HIS:Hid (RunI B w s0 (w3.setCell ⟨bx,t,none⟩ (.int .i64 f3)) s3):=HI3.out.set HBX.out HNB3.out
            have HRS:Hid (RowL vI 3 bx (w3.setCell ⟨bx,t,none⟩ (.int .i64 f3)) bx n (U.set t (f3:Int))):=HR3.out.set t (f3:Int)
            have HKS:Hid (Blk (w3.setCell ⟨bx,t,none⟩ (.int .i64 f3)) bg #[(.func (.func 53) #[.pointer (some ⟨s0.sb,0,none⟩)] #[]),(.func (.func 26) #[.pointer (some ⟨s0.sb,0,none⟩)] #[]),(.func (.func 55) #[.pointer (some ⟨s0.sb,0,none⟩)] #[])] 111):=HK3.out.other (p:=bx) t HGX.out _
            rcases hor3 with ⟨rfl,hden⟩ | ⟨rfl,rfl,hfull⟩
            ·have HDE:Hid (DenI s3 (f3:Int) (fun l=>Ux.valN l (Ux.vals l (e.take t)) x)):=⟨f3,rfl,hf3,fun l hl=>by
              have hl':l.length=s.vars:=by rw[hl,hM3.vars]
              rw[hden]
              simp only[Dd.den_one,HDa.out l hl',HDb.out l hl']
              unfold Ux.valN;rw[HOP.out]
              generalize (Ux.vals l (e.take t)).getD x.a.toNat false=ya
              generalize (Ux.vals l (e.take t)).getD x.b.toNat false=yb
              cases ya <;> cases yb <;> rfl⟩
             have HAS:=Lib.hid (HA3.out.put HXX.out HN3.out HDE.out)
             clear K0 K1 K2 K3 cs3' fs3' hc hS3 hM3 hF3 hf3 hcn3 d0 d1 d2 c0 c1 c2 c3 c4 c5 cs fs lbx lbg lnb hgx hnx
             go_wp2_with fail
             go_roundw
             case rel=>exact⟨t+1,_,s3,by go_num,by omega,HRS.out,HAS.out,HIS.out,HKS.out,HNK3.out,HNB3.out,HC3.out⟩
             case measure=>simp[intOf];omega
            ·have HFU:Hid (s3.ns.length=s0.budget):=by rw[← HI1.out.more.budget];exact hfull
             have HCO:Hid (s3.ns.length≤s0.ns.length+(e.length+e.length * (2 * 2 ^ s0.vars))):=by
              have h1:=HC3.out
              have h2:(t+1) * (2 * P)≤n * (2 * P):=Nat.mul_le_mul_right _ (by omega)
              show s3.ns.length≤_
              rw[← HN.out,← HP.out];omega
             clear K0 K1 K2 K3 cs3' fs3' hc hS3 hM3 hF3 hf3 hcn3 d0 d1 d2 c0 c1 c2 c3 c4 c5 cs fs lbx lbg lnb hgx hnx
             go_wp2_with fail
             go_ret2
             exact⟨0,18,s3,rfl,HIS.out,HCO.out,Or.inr (Or.inl ⟨HGOOD.out,rfl,rfl,HFU.out⟩)⟩
         ·as_aux_lemma =>
           have h3:x.op=26:=hop
           have e2:(x.op==2)=false:=by rw[h3];rfl
           have e4:(x.op==4)=false:=by rw[h3];rfl
           have e6:(x.op==6)=false:=by rw[h3];rfl
           have e7:(x.op==7)=false:=by rw[h3];rfl
           have e9:(x.op==9)=false:=by rw[h3];rfl
           have e26:(x.op==26)=true:=by rw[h3];rfl
           have e8:(x.op==8)=false:=by rw[h3];rfl
           have HOP:Hid (x.op=26):=h3
           have HN3:Hid (x.op≠3):=by show _≠_;omega
           clear h3 hop hlog
           go_wp2_with fail
           generalize hW1:wr.alloc (.cells #[.int .i64 x.op,.int .i64 x.a,.int .i64 x.b,.int .i64 x.c,.int .i64 x.n,.string x.s] 85)=W1
           have HI1:Hid (RunI B w s0 W1 s):=by rw[← hW1];exact HI.out.pure nb HBB.out
           have HR1:Hid (RowL vI 3 bx W1 bx n U):=by rw[← hW1];exact hR.below nb
           have HK1:Hid (Blk W1 bg #[(.func (.func 53) #[.pointer (some ⟨s0.sb,0,none⟩)] #[]),(.func (.func 26) #[.pointer (some ⟨s0.sb,0,none⟩)] #[]),(.func (.func 55) #[.pointer (some ⟨s0.sb,0,none⟩)] #[])] 111):=by rw[← hW1];exact hK.below nb
           obtain⟨nbk,hnbk⟩ : ∃ q,q=wr.heap.size:=⟨_,rfl⟩
           have kb1:Blk W1 nbk #[.int .i64 x.op,.int .i64 x.a,.int .i64 x.b,.int .i64 x.c,.int .i64 x.n,.string x.s] 85:=by rw[← hW1,hnbk];exact kb
           have hnx:nbk≠bx:=by omega
           have hnn:¬ s.bl nbk:=fun h=>by have:=HI.out.store.lt h;omega
           have hgx:=HGX.out
           rw[← hnbk]
           clear hW1 hnbk kb nb c0 c1 c2 c3 c4 c5 hR hK
           obtain⟨c0,c1,c2,c3,c4,c5⟩:=six_cells kb1
           obtain⟨d0,d1,d2⟩:=three_blk HK1.out
           obtain⟨z0,hz0⟩ : ∃ z,U[t]?=some z:=⟨_,List.getElem?_eq_getElem (by omega)⟩
           have cs:=HR1.out.cell hz0
           have fs:=HR1.out.free t
           have two:=HI1.out.store.wf.two
           have lbx:bx<W1.drew.heap.size:=HR1.out.lt.2
           have lbg:bg<W1.drew.heap.size:=HK1.out.lt
           have lnb:nbk<W1.drew.heap.size:=kb1.lt
           obtain⟨ja,hja,hla⟩:=hkd x.a (by rw[hkk];simp)
           rw[hja] at c1
           obtain⟨fa,hUa,hfa,hda⟩:=HA.out.kid hla
           have va:=HR1.out.cell hUa
           have pa:(0:Int)≤(ja:Int):=by omega
           have qa:(ja:Int)<(n:Int):=by omega
           have HDa:Hid (∀ l:List Bool,l.length=s.vars→Dd.den s.ns (envOf l) fa=(Ux.vals l (e.take t)).getD x.a.toNat false):=fun l hl=>by rw[hja];exact hda l hl
           have HJa:Hid (x.a=(ja:Int)):=hja
           clear hUa hda hja
           obtain⟨jb,hjb,hlb⟩:=hkd x.b (by rw[hkk];simp)
           rw[hjb] at c2
           obtain⟨fb,hUb,hfb,hdb⟩:=HA.out.kid hlb
           have vb:=HR1.out.cell hUb
           have pb:(0:Int)≤(jb:Int):=by omega
           have qb:(jb:Int)<(n:Int):=by omega
           have HDb:Hid (∀ l:List Bool,l.length=s.vars→Dd.den s.ns (envOf l) fb=(Ux.vals l (e.take t)).getD x.b.toNat false):=fun l hl=>by rw[hjb];exact hdb l hl
           have HJb:Hid (x.b=(jb:Int)):=hjb
           clear hUb hdb hjb
           obtain⟨jc,hjc,hlc⟩:=hkd x.c (by rw[hkk];simp)
           rw[hjc] at c3
           obtain⟨fc,hUc,hfc,hdc⟩:=HA.out.kid hlc
           have vc:=HR1.out.cell hUc
           have pc:(0:Int)≤(jc:Int):=by omega
           have qc:(jc:Int)<(n:Int):=by omega
           have HDc:Hid (∀ l:List Bool,l.length=s.vars→Dd.den s.ns (envOf l) fc=(Ux.vals l (e.take t)).getD x.c.toNat false):=fun l hl=>by rw[hjc];exact hdc l hl
           have HJc:Hid (x.c=(jc:Int)):=hjc
           clear hUc hdc hjc
           clear hkd hz0
           have hnea:ja≠t:=by omega
           have hneb:jb≠t:=by omega
           have hnec:jc≠t:=by omega
           have hc:Calls Tryz.prog 55 #[.pointer (some ⟨s0.sb,0,none⟩),.int .i64 fa,.int .i64 fb,.int .i64 fc] W1.drew (FnPost (2 ^ s.vars) (fun env=>if Dd.den s.ns env fa then Dd.den s.ns env fb else Dd.den s.ns env fc) W1.drew s):=by
            have h9:=Ite_any W1.drew s (HI1.out.drew).store fa fb fc hfa hfb hfc
            rw[HI1.out.more.sb] at h9;exact h9
           have HNKX:Hid (¬ s.bl bg):=HNK.out
           have HNNX:Hid (¬ s.bl nbk):=hnn
           have HNBX:Hid (¬ s.bl bx):=HNB2.out
           have K0:W1.cell? ⟨bg,2,none⟩=some (.func (.func 55) #[.pointer (some ⟨s0.sb,0,none⟩)] #[])∧W1.cell? ⟨nbk,1,none⟩=some (.int .i64 ja)∧W1.cell? ⟨bx,ja,none⟩=some (.int .i64 fa)∧W1.cell? ⟨nbk,2,none⟩=some (.int .i64 jb)∧W1.cell? ⟨bx,jb,none⟩=some (.int .i64 fb)∧W1.cell? ⟨nbk,3,none⟩=some (.int .i64 jc)∧W1.cell? ⟨bx,jc,none⟩=some (.int .i64 fc):=⟨d2,c1,va,c2,vb,c3,vc⟩
           have K1:W1.drew.cell? ⟨bg,2,none⟩=some (.func (.func 55) #[.pointer (some ⟨s0.sb,0,none⟩)] #[])∧W1.drew.cell? ⟨nbk,1,none⟩=some (.int .i64 ja)∧W1.drew.cell? ⟨bx,ja,none⟩=some (.int .i64 fa)∧W1.drew.cell? ⟨nbk,2,none⟩=some (.int .i64 jb)∧W1.drew.cell? ⟨bx,jb,none⟩=some (.int .i64 fb)∧W1.drew.cell? ⟨nbk,3,none⟩=some (.int .i64 jc)∧W1.drew.cell? ⟨bx,jc,none⟩=some (.int .i64 fc):=⟨d2,c1,va,c2,vb,c3,vc⟩
           go_region_held3 (fun w'=>w'.cell? ⟨bg,2,none⟩=some (.func (.func 55) #[.pointer (some ⟨s0.sb,0,none⟩)] #[])∧w'.cell? ⟨nbk,1,none⟩=some (.int .i64 ja)∧w'.cell? ⟨bx,ja,none⟩=some (.int .i64 fa)∧w'.cell? ⟨nbk,2,none⟩=some (.int .i64 jb)∧w'.cell? ⟨bx,jb,none⟩=some (.int .i64 fb)∧w'.cell? ⟨nbk,3,none⟩=some (.int .i64 jc)∧w'.cell? ⟨bx,jc,none⟩=some (.int .i64 fc))
            (first | exact K3 | exact K2 | exact K1 | exact K0)
            ((go_at_call 55;refine hc.mono ?_;rintro r w3 ⟨f3,er3,s3,rfl,hS3,hM3,hF3,hf3,hcn3,hor3⟩;have K2:w3.cell? ⟨bg,2,none⟩=some (.func (.func 55) #[.pointer (some ⟨s0.sb,0,none⟩)] #[])∧w3.cell? ⟨nbk,1,none⟩=some (.int .i64 ja)∧w3.cell? ⟨bx,ja,none⟩=some (.int .i64 fa)∧w3.cell? ⟨nbk,2,none⟩=some (.int .i64 jb)∧w3.cell? ⟨bx,jb,none⟩=some (.int .i64 fb)∧w3.cell? ⟨nbk,3,none⟩=some (.int .i64 jc)∧w3.cell? ⟨bx,jc,none⟩=some (.int .i64 fc):=⟨(hF3.cell lbg HNKX.out).trans K1.1,(hF3.cell lnb HNNX.out).trans K1.2.1,(hF3.cell lbx HNBX.out).trans K1.2.2.1,(hF3.cell lnb HNNX.out).trans K1.2.2.2.1,(hF3.cell lbx HNBX.out).trans K1.2.2.2.2.1,(hF3.cell lnb HNNX.out).trans K1.2.2.2.2.2.1,(hF3.cell lbx HNBX.out).trans K1.2.2.2.2.2.2⟩;have cs3':w3.cell? ⟨bx,t,none⟩=some (.int .i64 z0):=(hF3.cell lbx HNBX.out).trans cs;have fs3':=(hF3.rowL (HR1.out.drawn 1) HNBX.out).free t;have K3:(w3.setCell ⟨bx,t,none⟩ (.int .i64 f3)).cell? ⟨bg,2,none⟩=some (.func (.func 55) #[.pointer (some ⟨s0.sb,0,none⟩)] #[])∧(w3.setCell ⟨bx,t,none⟩ (.int .i64 f3)).cell? ⟨nbk,1,none⟩=some (.int .i64 ja)∧(w3.setCell ⟨bx,t,none⟩ (.int .i64 f3)).cell? ⟨bx,ja,none⟩=some (.int .i64 fa)∧(w3.setCell ⟨bx,t,none⟩ (.int .i64 f3)).cell? ⟨nbk,2,none⟩=some (.int .i64 jb)∧(w3.setCell ⟨bx,t,none⟩ (.int .i64 f3)).cell? ⟨bx,jb,none⟩=some (.int .i64 fb)∧(w3.setCell ⟨bx,t,none⟩ (.int .i64 f3)).cell? ⟨nbk,3,none⟩=some (.int .i64 jc)∧(w3.setCell ⟨bx,t,none⟩ (.int .i64 f3)).cell? ⟨bx,jc,none⟩=some (.int .i64 fc):=⟨far_set' K2.1 hgx,far_set' K2.2.1 hnx,off_set' K2.2.2.1 hnea,far_set' K2.2.2.2.1 hnx,off_set' K2.2.2.2.2.1 hneb,far_set' K2.2.2.2.2.2.1 hnx,off_set' K2.2.2.2.2.2.2 hnec⟩))
           have HI3:=Lib.hid ((HI1.out.drew).next hS3 hM3 hF3 HBB.out)
           have HR3:=Lib.hid (hF3.rowL (HR1.out.drawn 1) HNBX.out)
           have HK3:=Lib.hid (hF3.blk (HK1.out.below (Below.refl _ _).drew) HNKX.out)
           have HA3:=Lib.hid (HA.out.more hM3 (HI1.out.drew).store hS3)
           have HNK3:=Lib.hid (not_bl hM3 lbg HNKX.out)
           have HNB3:=Lib.hid (not_bl hM3 lbx HNBX.out)
           have HC3:Hid (s3.ns.length≤s0.ns.length+(n+(t+1) * (2 * P))):=by
            have h1:=HC2.out
            have h2:2 ^ s.vars=P:=by rw[HP.out,HI1.out.more.vars]
            rw[h2] at hcn3
            show s3.ns.length≤_
            rw[Nat.add_mul];omega
           have HIS:Hid (RunI B w s0 (w3.setCell ⟨bx,t,none⟩ (.int .i64 f3)) s3):=HI3.out.set HBX.out HNB3.out
           have HRS:Hid (RowL vI 3 bx (w3.setCell ⟨bx,t,none⟩ (.int .i64 f3)) bx n (U.set t (f3:Int))):=HR3.out.set t (f3:Int)
           have HKS:Hid (Blk (w3.setCell ⟨bx,t,none⟩ (.int .i64 f3)) bg #[(.func (.func 53) #[.pointer (some ⟨s0.sb,0,none⟩)] #[]),(.func (.func 26) #[.pointer (some ⟨s0.sb,0,none⟩)] #[]),(.func (.func 55) #[.pointer (some ⟨s0.sb,0,none⟩)] #[])] 111):=HK3.out.other (p:=bx) t HGX.out _
           rcases hor3 with ⟨rfl,hden⟩ | ⟨rfl,rfl,hfull⟩
           ·have HDE:Hid (DenI s3 (f3:Int) (fun l=>Ux.valN l (Ux.vals l (e.take t)) x)):=⟨f3,rfl,hf3,fun l hl=>by
             have hl':l.length=s.vars:=by rw[hl,hM3.vars]
             rw[hden]
             simp only[HDa.out l hl',HDb.out l hl',HDc.out l hl']
             unfold Ux.valN;rw[HOP.out]
             generalize (Ux.vals l (e.take t)).getD x.a.toNat false=ya
             generalize (Ux.vals l (e.take t)).getD x.b.toNat false=yb
             generalize (Ux.vals l (e.take t)).getD x.c.toNat false=yc
             cases ya <;> cases yb <;> cases yc <;> rfl⟩
            have HAS:=Lib.hid (HA3.out.put HXX.out HN3.out HDE.out)
            clear K0 K1 K2 K3 cs3' fs3' hc hS3 hM3 hF3 hf3 hcn3 d0 d1 d2 c0 c1 c2 c3 c4 c5 cs fs lbx lbg lnb hgx hnx
            go_wp2_with fail
            go_roundw
            case rel=>exact⟨t+1,_,s3,by go_num,by omega,HRS.out,HAS.out,HIS.out,HKS.out,HNK3.out,HNB3.out,HC3.out⟩
            case measure=>simp[intOf];omega
           ·have HFU:Hid (s3.ns.length=s0.budget):=by rw[← HI1.out.more.budget];exact hfull
            have HCO:Hid (s3.ns.length≤s0.ns.length+(e.length+e.length * (2 * 2 ^ s0.vars))):=by
             have h1:=HC3.out
             have h2:(t+1) * (2 * P)≤n * (2 * P):=Nat.mul_le_mul_right _ (by omega)
             show s3.ns.length≤_
             rw[← HN.out,← HP.out];omega
            clear K0 K1 K2 K3 cs3' fs3' hc hS3 hM3 hF3 hf3 hcn3 d0 d1 d2 c0 c1 c2 c3 c4 c5 cs fs lbx lbg lnb hgx hnx
            go_wp2_with fail
            go_ret2
            exact⟨0,18,s3,rfl,HIS.out,HCO.out,Or.inr (Or.inl ⟨HGOOD.out,rfl,rfl,HFU.out⟩)⟩
       ·have hte:t=n:=by omega
        subst hte
        have hne:=HNE.out
        obtain⟨r,hr,hd⟩:=HA.out.old (t - 1) (by omega)
        have hvl:(fun l=>(Ux.vals l e).getD (t - 1) false)=fun l=>Ux.valL l e:=by
         funext l;rw[show t=e.length from HN.out];exact Ux.valL_get (by rw[← HN.out];exact hne)
        rw[hvl] at hd
        have HD:=Lib.hid hd
        have cl:=hR.cell hr
        have h0:(0:Int)≤(t:Int) - 1:=by omega
        have h1:((t:Int) - 1).toNat=t - 1:=by omega
        have h2:(t:Int) - 1<(t:Int):=by omega
        have HCO:Hid (s.ns.length≤s0.ns.length+(e.length+e.length * (2 * 2 ^ s0.vars))):=by
         have h1:=HC2.out
         show s.ns.length≤_
         rw[← HN.out,← HP.out];exact h1
        clear hR hK hne hlt hr hd hvl
        go_wp2_with fail
        go_ret2
        exact⟨r,0,s,rfl,HI.out,HCO.out,Or.inr (Or.inr ⟨HGOOD.out,rfl,HD.out⟩)⟩
end Go.Proofs.YtmacepicoandkaaGreatDoor
