/- Rows of expressions that a call made: the array, and each expression in it. The reference's reader of expressions: a call's arguments: the walk. The reference's reader of expressions: names and calls, what begins an operand: the walk. Expressions in a row: which is the first that is so; are two the same: the walk. -/
import Derived.Test.YtmacepicoandkaaGreatDoorJ9
import Derived.Test.YtmacepicoandkaaGreatDoorJ12
import Derived.Test.YtmacepicoandkaaGreatDoorJ15
import Derived.Test.YtmacepicoandkaaGreatDoorJ19
set_option linter.unusedVariables false
set_option linter.unusedSimpArgs false
namespace Go.Proofs.YtmacepicoandkaaGreatDoor
open Go.RowKit Go.Shelf Tx
theorem rowE:RowTy Tryz.prog 25 54 1 24:=RowTy.mk' (z:=.slice none 0 0) Tryz.underlying25 (by kernel_rfl) rfl (by omega)
theorem row_kept {w w':World} {base e size n:Nat} {v:Value} {xs:List Value} (h:w.ownsRow base e size v n xs) (hk:∀ g,base≤g→v.ownBlock=some g→g<w.heap.size→w'.heap[g]?=w.heap[g]?):w'.ownsRow base e size v n xs:=by
 refine⟨h.1,?_⟩
 rcases h.2 with h0 | ⟨g,cap,cur,rfl,hb,hg,rest⟩
 ·exact Or.inl h0
 ·exact Or.inr ⟨g,cap,cur,rfl,hb,(hk g hb rfl (Array.getElem?_eq_some_iff.1 hg).1).trans hg,rest⟩
theorem row_apart {w:World} {base base' e e' size size' n n':Nat} {v v':Value} {xs xs':List Value} (h:w.ownsRow base e size v n xs) (h':w.ownsRow base' e' size' v' n' xs') (he:e≠e'):v.ownBlock=none∨v.ownBlock≠v'.ownBlock:=by
 rcases h.2 with ⟨rfl,_⟩ | ⟨g,cap,cur,rfl,hb,hg,rest⟩
 ·exact Or.inl rfl
 ·right
  rcases h'.2 with ⟨rfl,_⟩ | ⟨g',cap',cur',rfl,hb',hg',rest'⟩
  ·simp[Value.ownBlock]
  ·simp only[Value.ownBlock,ne_eq,Option.some.injEq]
   rintro rfl
   rw[hg] at hg';simp at hg';exact he hg'.2
def RwE (base:Nat) (W:World) (v:Value) (L:List (List Nd)):Prop :=
 ∃ vs:List Value,W.ownsRow base 54 1 v L.length vs∧∀ (i:Nat) (u:Value) (e:List Nd),vs[i]?=some u→L[i]?=some e→OwnE base W u e
section
variable {base : Nat} {W W' : World} {v : Value} {L : List (List Nd)}
theorem RwE.nil_ (base:Nat) (W:World):RwE base W (.slice none 0 0) []:=⟨[],World.ownsRow_nil _ _ _ _,fun i u e hu _=>by simp at hu⟩
theorem RwE.kept (h:RwE base W v L) (hk:∀ g,base≤g→g<W.heap.size→W'.heap[g]?=W.heap[g]?):RwE base W' v L:=by
 obtain⟨vs,h1,h2⟩:=h
 exact⟨vs,row_kept h1 (fun g hg _ hl=>hk g hg hl),fun i u e hu he=>row_kept (h2 i u e hu he) (fun g hg _ hl=>hk g hg hl)⟩
theorem RwE.below (h:RwE base W v L) (hb:Below W.heap.size W W'):RwE base W' v L:=h.kept fun g _ hl=>hb.block g hl
theorem RwE.fr {S:Nat→Prop} (h:RwE base W v L) (hf:Fr S W W') (hs:∀ g,base≤g→¬ S g):RwE base W' v L:=h.kept fun g hg hl=>hf.block g hl (hs g hg)
theorem RwE.mono {b2:Nat} (h:RwE base W v L) (hb:b2≤base):RwE b2 W v L:=by
 obtain⟨vs,h1,h2⟩:=h
 exact⟨vs,World.ownsRow.mono h1 hb,fun i u e hu he=>(h2 i u e hu he).mono hb⟩
theorem RwE.len (h:RwE base W v L):∃ a c,v=.slice a L.length c∧L.length≤c:=by
 obtain⟨vs,h1,_⟩:=h
 rcases h1.2 with ⟨rfl,h0⟩ | ⟨g,cap,cur,rfl,_,_,hc,_⟩
 ·exact⟨none,0,by rw[h0],by omega⟩
 ·exact⟨_,_,rfl,hc⟩
theorem RwE.low (h:RwE base W v L):∀ g,v.ownBlock=some g→base≤g∧g<W.heap.size:=by
 obtain⟨vs,h1,_⟩:=h
 exact fun g hg=>World.ownsRow.lt h1 g hg
theorem RwE.row (h:RwE base W v L):∃ vs:List Value,W.ownsRow base 54 1 v L.length vs∧(∀ (i:Nat) (u:Value) (e:List Nd),vs[i]?=some u→L[i]?=some e→OwnE base W u e):=h
theorem RwE.push {x:Value} {e:List Nd} {g cap k:Nat} {vs:List Value} (hk:L.length=k) (h1:W.ownsRow base 54 1 v k vs)
  (h2:∀ (i:Nat) (u:Value) (e:List Nd),vs[i]?=some u→L[i]?=some e→OwnE base W u e) (hx:OwnE base W x e)
  (hown:W'.ownsRow base 54 1 (.slice (some ⟨g,0,none⟩) (k+1) cap) (k+1) (vs++[x])) (hgrow:(W.alloc (.cells #[x] 54)).grownBy W' v.ownBlock):RwE base W' (.slice (some ⟨g,0,none⟩) (k+1) cap) (L++[e]):=by
 have hlv:vs.length=k:=by have:=h1.1;omega
 refine⟨vs++[x],by rw[show (L++[e]).length=k+1 by simp[hk]];exact hown,fun i u r' hu hr'=>?_⟩
 have up:∀ {u:Value} {r':List Nd},OwnE base W u r'→OwnE base W' u r':=fun {u r'} h =>
  (World.ownsRow.alloc h _).kept hgrow (row_apart (World.ownsRow.alloc h (.cells #[x] 54)) (h1.alloc _) (by decide))
 by_cases hi:i<k
 ·rw[List.getElem?_append_left (by omega)] at hu hr'
  exact up (h2 i u r' hu hr')
 ·have hik:i=k:=by
   have:=(List.getElem?_eq_some_iff.1 hu).1
   simp at this;omega
  subst hik
  rw[List.getElem?_append_right (by omega)] at hu hr'
  simp[hlv] at hu;simp[hk] at hr'
  subst hu hr'
  exact up hx
theorem RwE.sg {β:Type} {P:World→List Value→β→Prop} {M:List β} {q:β→List Nd} (h:RwE base W v (M.map q)) (hP:∀ u x,OwnE base W u (q x)→P W [u] x):Sg 1 P W v M:=by
 obtain⟨vs,h1,h2⟩:=h
 have hl:vs.length=M.length:=by have:=h1.1;rw[List.length_map] at this;omega
 refine⟨vs.map oneC,?_,by simp[hl],fun i c x hc hx=>?_⟩
 ·have h3:Sl oneC 1 W v vs:=Sl.own oneC_len (by rw[flat_one];exact h1) (by rw[hl,List.length_map])
  rcases h3 with ⟨h4,a',c',h5⟩ | ⟨b,o,c',h4,h5,h6,h7⟩
  ·exact Or.inl ⟨by rw[h4];rfl,a',c',h5⟩
  ·refine Or.inr ⟨b,o,c',by rw[List.length_map];exact h4,by rw[List.length_map];exact h5,h6,fun i x hi j u hu=>?_⟩
   rw[List.getElem?_map] at hi
   obtain⟨y,hy,rfl⟩:=Option.map_eq_some_iff.1 hi
   exact h7 i y hy j u hu
 ·rw[List.getElem?_map] at hc
  obtain⟨u,hu,rfl⟩:=Option.map_eq_some_iff.1 hc
  exact hP u x (h2 i u (q x) hu (by rw[List.getElem?_map,hx];rfl))
end
theorem Gr.fr {S:Nat→Prop} {w w1 w2:World} {v v':Value} (h:Fr S w w1) (hg:Gr w1 v w2 v') (hv:∀ g,v.ownBlock=some g→w.heap.size≤g):Fr S w w2 :=
 Fr.trans (S':=fun k=>w.heap.size≤k) h ⟨hg.os,hg.tape,hg.output,hg.size,fun k hk hn=>hg.block k hk (fun e=>hn (hv k e))⟩ (fun i hi hs=>by omega)
end Go.Proofs.YtmacepicoandkaaGreatDoor
namespace Go.Proofs.YtmacepicoandkaaGreatDoor
open Go.RowKit Go.Shelf Tx Px
theorem args_cases {L:List Tok} {f i o:Nat} {l:List Fo} {r:Res} (h:P L f (.args l) i o=some r) :
  ∃ g,f=g+1∧((∃ e,P L g (.bin 0) i o=some (.error e)∧r=.error e)∨∃ a j,P L g (.bin 0) i o=some (.ok ([a],j)) ∧
   ((isT L j tRpar=true∧r=.ok (l++[a],j+1))∨(isT L j tRpar=false∧isT L j tComma=true∧P L g (.args (l++[a])) (j+1) o=some r)∨(isT L j tRpar=false∧isT L j tComma=false∧r=.error (5,atP L j)))):=by
 cases f with
 | zero=>cases h
 | succ g =>
  refine⟨g,rfl,?_⟩
  simp only[P,stepP] at h
  rcases thenE_some h with ⟨e,h1,h2⟩ | ⟨a,j,h1,h2⟩
  ·exact Or.inl ⟨e,h1,h2⟩
  ·refine Or.inr ⟨a,j,h1,?_⟩
   split at h2
   ·rename_i h3;exact Or.inl ⟨h3,(Option.some.inj h2).symm⟩
   rename_i h3
   split at h2
   ·rename_i h4;exact Or.inr (Or.inl ⟨by simpa using h3,h4,h2⟩)
   ·rename_i h4;exact Or.inr (Or.inr ⟨by simpa using h3,by simpa using h4,(Option.some.inj h2).symm⟩)
def RPosts (St:World→Int→Int→Int→Int→Prop) (rb:Nat) (o:Int) (w:World) (r:Res) (e:Ending) (w':World):Prop :=
 Al rb w w'∧match r with
 | .error (c,p)=>∃ (a:Option Addr) (n k i:Nat),e=.returned (.slice a n k)∧c≠0∧i≤200000∧St w' (i:Nat) o c p
 | .ok (l,i)=>∃ v,e=.returned v∧RwE w.heap.size w' v (l.map (Fo.flat 0))∧St w' (i:Nat) o 0 0
def LpA (St:World→Int→Int→Int→Int→Prop) (L:List Tok) (rb base:Nat) (o:Nat) (w:World) (fu:Nat) (r:Res) (ov:Value) (wr:World):Prop :=
 Al rb w wr∧((∃ (Fs:List Fo) (i g:Nat),g<fu∧RwE base wr ov (Fs.map (Fo.flat 0))∧(∀ F∈Fs,Px.Good F)∧(cat Fs).size+Fs.length≤3 * i∧i≤L.length∧St wr (i:Nat) o 0 0∧P L g (.args Fs) i o=some r) ∨
  ∃ (c p:Int) (a:Option Addr) (m k i:Nat),r=.error (c,p)∧c≠0∧i≤200000∧St wr (i:Nat) o c p∧ov=.slice a m k)
section
variable {L : List Tok} {a : Option Addr} {cc rb : Nat} {w0 : World}
set_option maxHeartbeats 1000000 in
theorem r4Args_none (EV:Hid (EnvOk w0 rb a cc L)) (J o:Nat) (w:World) (hJ:isT L J tRpar=true) (hB:Al rb w0 w) (hR:Rd rb (.slice a L.length cc) w J o 0 0) :
  Calls Tryz.prog 148 #[.pointer (some ⟨rb,0,none⟩)] w fun e w'=>e=.returned (.slice none 0 0)∧Rd rb (.slice a L.length cc) w' ((J:Int)+1) o 0 0∧Al rb w w':=by
 have hJL:=isT_lt hJ
 have hL:=EV.out.len
 have hc:=r4take_yes EV J (by omega) o 0 ⟨#[41]⟩ hJ w hB hR
 clear hJ hB hR EV
 go_enter Tryz.func148,Tryz.ntmps148
 go_wp2_with fail
 refine hc.mono ?_
 rintro r w1 ⟨rfl,hR,hA⟩
 have HR:=Lib.hid hR
 have HA:=Lib.hid hA
 clear hc hR hA
 go_wp2_with fail
 go_ret
 exact⟨rfl,HR.out,HA.out⟩
set_option maxRecDepth 100000 in
set_option maxHeartbeats 4000000 in
theorem r4Args_any (EV:Hid (EnvOk w0 rb a cc L)) (f:Nat) (IH:Hid (∀ g,g<f→LvOk w0 rb a cc L g)) (J o:Nat) (r:Res) (w:World) (hJ:J≤L.length) (hnp:isT L J tRpar=false) (hP:P L f (.args []) J o=some r) (hB:Al rb w0 w) (hR:Rd rb (.slice a L.length cc) w J o 0 0) :
  Calls Tryz.prog 148 #[.pointer (some ⟨rb,0,none⟩)] w (RPosts (Rd rb (.slice a L.length cc)) rb o w r):=by
 have hL:=EV.out.len
 have hlt:=hR.lt
 obtain⟨nb,hnb⟩ : ∃ nb,nb=w.heap.size:=⟨_,rfl⟩
 have HNB:=Lib.hid hnb
 rw[← hnb] at hlt
 have HB:=Lib.hid hB
 have hc:=r4take_no EV J (by omega) o 0 0 ⟨#[41]⟩ (Or.inl hnp) w hB hR
 have HLP:Hid (∀ w1,Below w.heap.size w w1→LpA (Rd rb (.slice a L.length cc)) L rb nb o w (f+1) r (.slice none 0 0) w1):=fun w1 hb =>
  ⟨Al.of hb,Or.inl ⟨[],J,f,by omega,RwE.nil_ _ _,(fun F hF=>by simp at hF),by simp[cat,Fo.size],hJ,hR.below hb,hP⟩⟩
 clear hB hR hP hnp hnb
 go_enter Tryz.func148,Tryz.ntmps148
 go_wp2_with fail
 refine hc.mono ?_
 rintro e w1 ⟨rfl,hb⟩
 have HLP2:=Lib.hid (HLP.out w1 hb)
 clear hc hb HLP
 go_wp2_with fail
 go_loopw [3] (fun ov wr=>LpA (Rd rb (.slice a L.length cc)) L rb nb o w (f+1) r ov wr) (fun _ wr=>mR rb 1 3 L.length wr)
 case atStart=>exact HLP2.out
 case round =>
  obtain⟨hA,⟨Fs,i,g2,hg2,hO,hG,hF,hi,hR,hP⟩ | ⟨c,p,x,n,k,i,hr,hc,hi,hR,rfl⟩⟩:=hrel
  ·have hBr:Al rb w0 wr:=HB.out.next hA
   obtain⟨vs,hO1,hO2⟩:=hO.row
   obtain⟨va,vc,rfl,hvc⟩:=hO.len
   rw[List.length_map] at hO1 hvc ⊢
   obtain⟨fl,hfl⟩ : ∃ fl,fl=Fs.length:=⟨_,rfl⟩
   rw[← hfl] at hO1 hvc ⊢
   have hfr:=mR_ok (N:=L.length) hR.cells.2.1 hR.cells.2.2.2.1
   have HM:=Lib.hid hfr
   obtain⟨g3,rfl,hrest⟩:=args_cases hP
   obtain⟨c0,c1,c2,c3,c4⟩:=hR.cells
   obtain⟨r3,hr3⟩ : ∃ r3,P L g3 (.bin 0) i o=some r3:=by
    rcases hrest with ⟨e,h,_⟩ | ⟨a,i,h,_⟩
    ·exact⟨_,h⟩
    ·exact⟨_,h⟩
   have hcall:=IH.out g3 (by omega) 0 i o r3 wr (by omega) hi hr3 hBr hR
   have hrw:nb≤wr.heap.size:=by rw[HNB.out];exact hA.size
   have hflb:fl≤400000:=by omega
   have HR3:=Lib.hid hr3
   have HRS:=Lib.hid hrest
   have HO1:=Lib.hid hO1
   have HO2:=Lib.hid hO2
   have HOL:=Lib.hid (fun g hg=>(World.ownsRow.lt hO1 g hg).1)
   have HG:=Lib.hid hG
   have HA:=Lib.hid hA
   have HFL:=Lib.hid hfl
   clear hr3 hrest hO hO1 hO2 hG hR hP hfr hfl
   go_wp2_with fail
   refine hcall.mono ?_
   rintro e w3 ⟨hA3,hpost⟩
   have HA3:Hid (Al rb w w3):=HA.out.next hA3
   have hrw3:nb≤w3.heap.size:=by have:=hA3.size;omega
   have hO3:w3.ownsRow nb 54 1 (.slice va fl vc) fl vs:=Fr.ownsRow hA3 HO1.out (fun k hk e=>by have:=HOL.out k hk;omega)
   have HO3:Hid (∀ (i:Nat) (u:Value) (e:List Nd),vs[i]?=some u→(Fs.map (Fo.flat 0))[i]?=some e→OwnE nb w3 u e):=fun i u e hu he=>hA3.ownE (HO2.out i u e hu he) hlt
   clear hcall hA3 c0 c1 c2 c3 c4 hBr hA HO1 HO2
   match r3,hpost with
   | .error (c,p),⟨y,yn,yk,i3,he,hc,hi3,hR4⟩ =>
    subst he
    have HRE:Hid (r=.error (c,p)):=by
     rcases HRS.out with ⟨e,h,h2⟩ | ⟨a,i,h,_⟩
     ·have h3:=HR3.out.symm.trans h;cases h3;exact h2
     ·have h3:=HR3.out.symm.trans h;cases h3
    have HR4:=Lib.hid hR4
    clear hR4
    go_wp2_with (at_builtin;refine wpList_app rowE rfl _ _ rfl nb _ _ _ rfl (hO3.alloc _) ⟨w3.heap.size,0,none⟩ 1 [.slice y yn yk] rfl rfl ?c1 ?c2 ?c3 ?c4 (w3.heap.size+1) ?c5 ?_)
    case c1=>exact World.news_of_block (heap_alloc_new w3 _)
    case c2=>simp[Value.oneCell']
    case c3=>omega
    case c4=>simp;omega
    case c5=>simp
    intro g cap w4 hown hgrow hat hlt4 hcap
    have hgr:Gr w3 (.slice va fl vc) w4 (.slice (some ⟨g,0,none⟩) (fl+1) cap):=gr_append hgrow hat
    have HA4:Hid (Al rb w w4):=Gr.fr HA3.out hgr (fun g hg=>by rw[← HNB.out];exact HOL.out g hg)
    have HR5:Hid (Rd rb (.slice a L.length cc) w4 i3 o c p):=hgr.blk HR4.out (fun h=>by have:=HOL.out rb h;omega)
    clear hown hgrow hat hgr hO3 hlt4 hcap
    have ht:=r4take_no EV i3 hi3 o c p ⟨#[41]⟩ (Or.inr hc) w4 (HB.out.next HA4.out) HR5.out
    go_wp2_with fail
    refine ht.mono ?_
    rintro e w5 ⟨rfl,hb5⟩
    have HR6:=Lib.hid (HR5.out.below hb5)
    have HA6:=Lib.hid (HA4.out.then hb5)
    have hn:=r4need_fault EV i3 hi3 o c p ⟨#[44]⟩ hc w5 (HB.out.next HA6.out) HR6.out
    clear ht hb5
    go_wp2_with fail
    refine hn.mono ?_
    rintro e w6 ⟨rfl,hb6⟩
    have HR7:=Lib.hid (HR6.out.below hb6)
    have HA7:=Lib.hid (HA6.out.then hb6)
    clear hn hb6
    go_wp2_with fail
    go_roundw
    case rel=>exact⟨HA7.out,Or.inr ⟨c,p,_,_,_,i3,HRE.out,hc,hi3,HR7.out,rfl⟩⟩
    case measure=>rw[HM.out,mR_err HR7.out.cells.2.2.2.1 hc];omega
   | .ok (l,j),⟨F,v,hl,he,hO4,hR4⟩ =>
    subst hl he
    obtain⟨k1,k2,k3,k4⟩:=(P_ok EV.out.ok g3).bin hi HR3.out
    obtain⟨ya,yc,rfl,-⟩:=hO4.form
    obtain⟨yl,hyl⟩ : ∃ yl,yl=(F.flat 0).length:=⟨_,rfl⟩
    rw[← hyl] at hO4 ⊢
    have HR4:=Lib.hid hR4
    have HK1:=Lib.hid k1
    have HO4:Hid (OwnE nb w3 (.slice ya yl yc) (F.flat 0)):=hO4.mono hrw
    have HRE:Hid ((isT L j tRpar=true∧r=.ok (Fs++[F],j+1))∨(isT L j tRpar=false∧isT L j tComma=true∧P L g3 (.args (Fs++[F])) (j+1) o=some r)∨(isT L j tRpar=false∧isT L j tComma=false∧r=.error (5,atP L j))):=by
     rcases HRS.out with ⟨e,h,h2⟩ | ⟨a,i,h,h2⟩
     ·have h3:=HR3.out.symm.trans h;cases h3
     ·have h3:=HR3.out.symm.trans h;cases h3;exact h2
    clear hR4 hO4 k1 hyl
    go_wp2_with (at_builtin;refine wpList_app rowE rfl _ _ rfl nb _ _ _ rfl (hO3.alloc _) ⟨w3.heap.size,0,none⟩ 1 [.slice ya yl yc] rfl rfl ?c6 ?c7 ?c8 ?c9 (w3.heap.size+1) ?c10 ?_)
    case c6=>exact World.news_of_block (heap_alloc_new w3 _)
    case c7=>simp[Value.oneCell']
    case c8=>omega
    case c9=>simp;omega
    case c10=>simp
    intro g cap w4 hown hgrow hat hlt4 hcap
    have hgr:Gr w3 (.slice va fl vc) w4 (.slice (some ⟨g,0,none⟩) (fl+1) cap):=gr_append hgrow hat
    have HA4:Hid (Al rb w w4):=Gr.fr HA3.out hgr (fun g hg=>by rw[← HNB.out];exact HOL.out g hg)
    have HR5:Hid (Rd rb (.slice a L.length cc) w4 j o 0 0):=hgr.blk HR4.out (fun h=>by have:=HOL.out rb h;omega)
    have HO5:Hid (RwE nb w4 (.slice (some ⟨g,0,none⟩) (fl+1) cap) ((Fs++[F]).map (Fo.flat 0))):=by
     show RwE _ _ _ _
     rw[List.map_append]
     exact RwE.push (by rw[List.length_map,HFL.out]) hO3 HO3.out HO4.out hown hgrow
    clear hown hgrow hat hgr hO3 hlt4 hcap
    rcases hT:isT L j tRpar with _ | _
    ·have ht:=r4take_no EV j (by omega) o 0 0 ⟨#[41]⟩ (Or.inl hT) w4 (HB.out.next HA4.out) HR5.out
     rcases hT2:isT L j tComma with _ | _
     ·have HRR:Hid (r=.error (5,atP L j)):=by
       rcases HRE.out with h | h | h
       ·exact absurd (hT.symm.trans h.1) (by decide)
       ·exact absurd (hT2.symm.trans h.2.1) (by decide)
       ·exact h.2.2
      have HT2:=Lib.hid hT2
      clear hT hT2
      go_wp2_with fail
      refine ht.mono ?_
      rintro e w5 ⟨rfl,hb5⟩
      have HR6:=Lib.hid (HR5.out.below hb5)
      have HA6:=Lib.hid (HA4.out.then hb5)
      have hn:=r4need_no EV j (by omega) o 0 ⟨#[44]⟩ HT2.out w5 (HB.out.next HA6.out) HR6.out
      clear ht hb5
      go_wp2_with fail
      refine hn.mono ?_
      rintro e w6 ⟨rfl,hR7,hA7⟩
      have HR7:=Lib.hid hR7
      have HA7:=Lib.hid (HA6.out.next hA7)
      clear hn hR7 hA7
      go_wp2_with fail
      go_roundw
      case rel=>exact⟨HA7.out,Or.inr ⟨5,atP L j,_,_,_,j,HRR.out,by decide,by omega,HR7.out,rfl⟩⟩
      case measure=>rw[HM.out,mR_err HR7.out.cells.2.2.2.1 (by decide)];omega
     ·have HRR:Hid (P L g3 (.args (Fs++[F])) (j+1) o=some r):=by
       rcases HRE.out with h | h | h
       ·exact absurd (hT.symm.trans h.1) (by decide)
       ·exact h.2.2
       ·exact absurd (hT2.symm.trans h.2.1) (by decide)
      have hjl:=isT_lt hT2
      have HT2:=Lib.hid hT2
      clear hT hT2
      go_wp2_with fail
      refine ht.mono ?_
      rintro e w5 ⟨rfl,hb5⟩
      have HR6:=Lib.hid (HR5.out.below hb5)
      have HA6:=Lib.hid (HA4.out.then hb5)
      have HO6:=Lib.hid (HO5.out.below hb5)
      have hn:=r4need_yes EV j (by omega) o 0 ⟨#[44]⟩ HT2.out w5 (HB.out.next HA6.out) HR6.out
      clear ht hb5
      go_wp2_with fail
      refine hn.mono ?_
      rintro e w6 ⟨rfl,hR7,hA7⟩
      have HR7:Hid (Rd rb (.slice a L.length cc) w6 ((j+1:Nat):Int) o 0 0):=by show Rd _ _ _ _ _ _ _;simpa using hR7
      have HA7:=Lib.hid (HA6.out.next hA7)
      have HO7:=Lib.hid (HO6.out.fr hA7 (fun g hg e=>by omega))
      have hsz:(cat (Fs++[F])).size+(Fs++[F]).length≤3 * (j+1):=by
       rw[cat_snoc,Fo.size_app,List.length_append,List.length_singleton];omega
      have HSZ:=Lib.hid hsz
      clear hn hR7 hA7 hsz
      go_wp2_with fail
      go_roundw
      case rel=>exact⟨HA7.out,Or.inl ⟨Fs++[F],j+1,g3,by omega,HO7.out,(fun G hG=>by
       rcases List.mem_append.1 hG with h | h
       ·exact HG.out G h
       ·rw[List.mem_singleton.1 h];exact HK1.out),HSZ.out,by omega,HR7.out,HRR.out⟩⟩
      case measure=>rw[HM.out,mR_ok HR7.out.cells.2.1 HR7.out.cells.2.2.2.1];omega
    ·have ht:=r4take_yes EV j (by omega) o 0 ⟨#[41]⟩ hT w4 (HB.out.next HA4.out) HR5.out
     have HRR:Hid (r=.ok (Fs++[F],j+1)):=by
      rcases HRE.out with h | h | h
      ·exact h.2
      ·exact absurd (hT.symm.trans h.1) (by decide)
      ·exact absurd (hT.symm.trans h.1) (by decide)
     clear hT
     go_wp2_with fail
     refine ht.mono ?_
     rintro e w5 ⟨rfl,hR6,hA6⟩
     have HR6:Hid (Rd rb (.slice a L.length cc) w5 ((j+1:Nat):Int) o 0 0):=by show Rd _ _ _ _ _ _ _;simpa using hR6
     have HA7:=Lib.hid (HA4.out.next hA6)
     have HO7:=Lib.hid (HO5.out.fr hA6 (fun g hg e=>by omega))
     clear ht hR6 hA6
     go_wp2_with fail
     go_ret
     rw[HRR.out]
     exact⟨HA7.out,_,rfl,by rw[← HNB.out];exact HO7.out,HR6.out⟩
  ·obtain⟨c0,c1,c2,c3,c4⟩:=hR.cells
   have e0:(c==0)=false:=by simp[hc]
   have e00:(c != 0)=true:=by simp[hc]
   have HE:Hid (RPosts (Rd rb (.slice a L.length cc)) rb o w r (.returned (.slice none 0 0)) wr):=by
    show RPosts _ _ _ _ _ _ _
    rw[hr];exact⟨hA,none,0,0,i,rfl,hc,hi,hR⟩
   clear hA hR hr hc hi
   go_wp2_with fail
   go_ret
   exact HE.out
end
end Go.Proofs.YtmacepicoandkaaGreatDoor
namespace Go.Proofs.YtmacepicoandkaaGreatDoor
open Go.RowKit Go.Shelf Tx Px
def namedS (p:Orc) (L:List Tok) (name:ByteArray) (I o:Nat):Option Res :=
 if isT L (I+1) tLpar then (if isT L (I+2) tRpar then one (joinF 27 0 name []) (I+3) else callS name (p (.args []) (I+2) o)) else one (node 3 0 name .no) (I+1)
section
variable {L : List Tok} {a : Option Addr} {cc rb : Nat} {w0 : World}
theorem r4leaf (op n:Int) (s:ByteArray) (w:World) (h:op=1∨op=2∨op=3) :
  Calls Tryz.prog 62 #[.int .i64 op,.int .i64 n,.string s,.slice none 0 0] w fun r w'=>∃ v',r=.returned v'∧OwnE w.heap.size w' v' ((node op n s .no).flat 0)∧Below w.heap.size w w':=by
 have hj:=rJoin_any op n s [] (.slice none 0 0) w Sg.nil_ (fun F hF=>by simp at hF) (by simp[cat,Fo.size]) (by omega) (fun _=>by
  rw[kids_leaf,if_neg (by omega),if_neg (by omega),if_neg (by omega),if_neg (by omega),if_neg (by omega)];rfl)
 rw[join_nil op n s (by omega)] at hj
 exact hj
theorem r4call0 (s:ByteArray) (w:World) :
  Calls Tryz.prog 62 #[.int .i64 27,.int .i64 0,.string s,.slice none 0 0] w fun r w'=>∃ v',r=.returned v'∧OwnE w.heap.size w' v' ((joinF 27 0 s []).flat 0)∧Below w.heap.size w w' :=
 rJoin_any 27 0 s [] (.slice none 0 0) w Sg.nil_ (fun F hF=>by simp at hF) (by simp[cat,Fo.size]) (by omega) (fun h=>absurd rfl h)
set_option maxRecDepth 100000 in
set_option maxHeartbeats 4000000 in
theorem r4named_any (EV:Hid (EnvOk w0 rb a cc L)) (f:Nat) (IH:Hid (∀ g,g<f→LvOk w0 rb a cc L g)) (I o:Nat) (name:ByteArray) (r:Res) (w:World) (hI:I<L.length) (hP:namedS (P L f) L name I o=some r) (hB:Al rb w0 w) (hR:Rd rb (.slice a L.length cc) w I o 0 0) :
  Calls Tryz.prog 143 #[.pointer (some ⟨rb,0,none⟩),.string name] w (RPost (Rd rb (.slice a L.length cc)) rb o w r):=by
 have hL:=EV.out.len
 have hlt:=hR.lt
 obtain⟨c0,c1,c2,c3,c4⟩:=hR.cells
 obtain⟨f0,f1,f2,f3,f4⟩:=hR.free
 obtain⟨W,hW⟩ : ∃ W,W=w.setCell ⟨rb,1,none⟩ (.int .i64 ((I:Int)+1)):=⟨_,rfl⟩
 have HR1:Hid (Rd rb (.slice a L.length cc) W ((I+1:Nat):Int) o 0 0):=by show Rd _ _ _ _ _ _ _;rw[hW];exact hR.setI _
 have HA1:Hid (Al rb w W):=by show Al _ _ _;rw[hW];exact (Al.refl _ _).set _ _
 have HB:=Lib.hid hB
 have HP:=Lib.hid hP
 have HW:=Lib.hid hW
 have hsz0:=HA1.out.size
 clear hB hP hR hW
 go_enter Tryz.func143,Tryz.ntmps143
 go_wp2_with fail
 rw[← HW.out]
 clear HW c0 c1 c2 c3 c4 f0 f1 f2 f3 f4
 rcases hT:isT L (I+1) tLpar with _ | _
 ·have ht:=r4take_no EV (I+1) (by omega) o 0 0 ⟨#[40]⟩ (Or.inl hT) W (HB.out.next HA1.out) HR1.out
  have HRE:Hid (r=.ok ([node 3 0 name .no],I+1)):=by
   have h:=HP.out
   unfold namedS at h;rw[hT] at h;exact one_some h
  clear hT
  refine ht.mono ?_
  rintro e w2 ⟨rfl,hb⟩
  have HR2:=Lib.hid (HR1.out.below hb)
  have HA2:=Lib.hid (HA1.out.then hb)
  have hj:=r4leaf 3 0 name w2 (Or.inr (Or.inr rfl))
  have hsz2:w.heap.size≤w2.heap.size:=HA2.out.size
  clear ht hb
  go_wp2_with fail
  refine hj.mono ?_
  rintro r4 w9 ⟨v9,rfl,ho,hb⟩
  have HR9:=Lib.hid (HR2.out.below hb)
  have HA9:=Lib.hid (HA2.out.then hb)
  have HO9:=Lib.hid (ho.mono hsz2)
  clear hj ho hb
  go_wp2_with fail
  go_ret
  rw[HRE.out];exact rpost_ok HA9.out HO9.out HR9.out
 ·have ht:=r4take_yes EV (I+1) (by omega) o 0 ⟨#[40]⟩ hT W (HB.out.next HA1.out) HR1.out
  have hil:=isT_lt hT
  have HP2:Hid ((if isT L (I+2) tRpar then one (joinF 27 0 name []) (I+3) else callS name (P L f (.args []) (I+2) o))=some r):=by
   have h:=HP.out
   unfold namedS at h;rw[if_pos hT] at h;exact h
  clear hT
  refine ht.mono ?_
  rintro e w2 ⟨rfl,hR2,hA2⟩
  have HR2:Hid (Rd rb (.slice a L.length cc) w2 ((I+2:Nat):Int) o 0 0):=by
   show Rd _ _ _ _ _ _ _
   rw[show ((I+2:Nat):Int)=((I+1:Nat):Int)+1 by omega];exact hR2
  have HA2:=Lib.hid (HA1.out.next hA2)
  have hsz2:w.heap.size≤w2.heap.size:=HA2.out.size
  clear ht hR2 hA2
  rcases hT2:isT L (I+2) tRpar with _ | _
  ·obtain⟨r3,hr3⟩ : ∃ r3,P L f (.args []) (I+2) o=some r3:=by
    have h:=HP2.out
    rw[hT2] at h
    simp only[Bool.false_eq_true,if_false] at h
    unfold callS at h
    split at h
    ·cases h
    ·rename_i h1;exact⟨_,h1⟩
    ·rename_i h1;exact⟨_,h1⟩
   have HP3:Hid (callS name (some r3)=some r):=by
    have h:=HP2.out
    rw[hT2,hr3] at h
    exact h
   have hcall:=r4Args_any EV f IH (I+2) o r3 w2 (by omega) hT2 hr3 (HB.out.next HA2.out) HR2.out
   have HR3:=Lib.hid hr3
   clear hT2 hr3
   go_wp2_with fail
   refine hcall.mono ?_
   rintro e w3 ⟨hA3,hpost⟩
   have HA3:=Lib.hid (HA2.out.next hA3)
   have hsz3:w.heap.size≤w3.heap.size:=HA3.out.size
   clear hcall hA3
   match r3,hpost with
   | .error (c,p),⟨y,yn,yk,i3,he,hc,hi3,hR4⟩ =>
    subst he
    have HRE:Hid (r=.error (c,p)):=(Option.some.inj HP3.out).symm
    have HR4:=Lib.hid hR4
    obtain⟨c0,c1,c2,c3,c4⟩:=hR4.cells
    have e0:(c != 0)=true:=by simp[hc]
    have e00:(c==0)=false:=by simp[hc]
    clear hR4
    go_wp2_with fail
    go_ret
    rw[HRE.out];exact rpost_err HA3.out hc hi3 HR4.out
   | .ok (l,j),⟨v,he,hO,hR4⟩ =>
    subst he
    have HRE:Hid (r=.ok ([joinF 27 0 name l],j)):=one_some HP3.out
    obtain⟨k1,k2,k3,k4⟩:=P_ok EV.out.ok f (.args []) (I+2) o _ (by omega) (fun F hF=>by simp[Tag.have_] at hF) HR3.out
    simp only[Tag.have_,cat,Fo.size,List.length_nil] at k4
    have hj:=rJoin_any 27 0 name l v w3 (hO.sg fun u F h=>⟨u,rfl,h.isE⟩) (fun F hF=>(k1 F hF).one) (by omega) (by omega) (fun h=>absurd rfl h)
    obtain⟨va,vc,hv,-⟩:=hO.len
    rw[List.length_map] at hv
    subst hv
    have HR4:=Lib.hid hR4
    obtain⟨c0,c1,c2,c3,c4⟩:=hR4.cells
    clear hR4 hO k1 k4
    go_wp2_with fail
    refine hj.mono ?_
    rintro r4 w9 ⟨v9,rfl,ho,hb⟩
    have HR9:=Lib.hid (HR4.out.below hb)
    have HA9:=Lib.hid (HA3.out.then hb)
    have HO9:=Lib.hid (ho.mono hsz3)
    clear hj ho hb c0 c1 c2 c3 c4
    go_wp2_with fail
    go_ret
    rw[HRE.out];exact rpost_ok HA9.out HO9.out HR9.out
  ·have hcall:=r4Args_none EV (I+2) o w2 hT2 (HB.out.next HA2.out) HR2.out
   have HRE:Hid (r=.ok ([joinF 27 0 name []],I+3)):=by
    have h:=HP2.out
    rw[if_pos hT2] at h;exact one_some h
   clear hT2
   go_wp2_with fail
   refine hcall.mono ?_
   rintro e w3 ⟨rfl,hR3,hA3⟩
   have HR3:Hid (Rd rb (.slice a L.length cc) w3 ((I+3:Nat):Int) o 0 0):=by
    show Rd _ _ _ _ _ _ _
    rw[show ((I+3:Nat):Int)=((I+2:Nat):Int)+1 by omega];exact hR3
   have HA3:=Lib.hid (HA2.out.next hA3)
   have hsz3:w.heap.size≤w3.heap.size:=HA3.out.size
   have hj:=r4call0 name w3
   obtain⟨c0,c1,c2,c3,c4⟩:=HR3.out.cells
   clear hcall hR3 hA3
   go_wp2_with fail
   refine hj.mono ?_
   rintro r4 w9 ⟨v9,rfl,ho,hb⟩
   have HR9:=Lib.hid (HR3.out.below hb)
   have HA9:=Lib.hid (HA3.out.then hb)
   have HO9:=Lib.hid (ho.mono hsz3)
   clear hj ho hb c0 c1 c2 c3 c4
   go_wp2_with fail
   go_ret
   rw[HRE.out];exact rpost_ok HA9.out HO9.out HR9.out
end
end Go.Proofs.YtmacepicoandkaaGreatDoor
namespace Go.Proofs.YtmacepicoandkaaGreatDoor
open Go.RowKit Go.Shelf Tx
set_option maxRecDepth 100000 in
set_option maxHeartbeats 4000000 in
theorem Equal_any (e f:List Nd) (u v:Value) (w:World) (he:e.length≤1000000000) (hf:f.length≤1000000000) (hu:IsE w u e) (hv:IsE w v f) :
  Calls Tryz.prog 78 #[u,v] w fun r w'=>r=.returned (.bool (decide (e=f)))∧∃ k,w'=w.drewN k:=by
 obtain⟨a,c,rfl,hc,hx⟩:=hu.form
 obtain⟨a2,c2,rfl,hc2,hx2⟩:=hv.form
 obtain⟨n,hn⟩ : ∃ n,n=e.length:=⟨_,rfl⟩
 obtain⟨m,hm⟩ : ∃ m,m=f.length:=⟨_,rfl⟩
 have HX:=Lib.hid hx
 have HX2:=Lib.hid hx2
 rw[← hn] at he hc ⊢
 rw[← hm] at hf hc2 ⊢
 have HN:=Lib.hid hn
 have HM:=Lib.hid hm
 clear hu hv hx hx2 hn hm
 by_cases hl:n=m
 ·subst hl
  have e0:((n:Int) != (n:Int))=false:=by simp
  go_enter Tryz.func78,Tryz.ntmps78
  go_wp2_with fail
  go_loopw [13] (fun i wr=>∃ t:Nat,i=.int .i64 t∧t≤n∧(∀ j,j<t→e[j]?=f[j]?)∧∃ k,wr=w.drewN k) (fun i _=>n - (intOf i).toNat)
  case atStart=>exact⟨0,rfl,Nat.zero_le _,fun j h=>by omega,0,rfl⟩
  case round =>
   obtain⟨t,rfl,ht,hok,k,hk⟩:=hrel
   by_cases hlt:t<n
   ·obtain⟨x,hx⟩ : ∃ x,e[t]?=some x:=⟨_,List.getElem?_eq_getElem (by have:=HN.out;omega)⟩
    obtain⟨y,hy⟩ : ∃ y,f[t]?=some y:=⟨_,List.getElem?_eq_getElem (by have:=HM.out;omega)⟩
    have hbw:Below w.heap.size w wr:=by rw[hk];exact below_drawn (Below.refl _ _) k
    have hbd:Below w.heap.size w wr.drew:=hbw.drew
    obtain⟨b,o,rfl,hcell⟩:=HX.out _ hbd t x hx
    obtain⟨c0,c1,c2,c3,c4,c5⟩:=nd_cells hcell
    obtain⟨b2,o2,rfl,hcell2⟩:=HX2.out _ hbd t y hy
    obtain⟨d0,d1,d2,d3,d4,d5⟩:=nd_cells hcell2
    obtain⟨q,hq⟩ : ∃ q,q=decide (x=y):=⟨_,rfl⟩
    have HEQ:∀ W,(Op.equalIn 10000 85 (.agg #[.int .i64 x.op,.int .i64 x.a,.int .i64 x.b,.int .i64 x.c,.int .i64 x.n,.string x.s]) (.agg #[.int .i64 y.op,.int .i64 y.a,.int .i64 y.b,.int .i64 y.c,.int .i64 y.n,.string y.s])).run Tryz.prog W=.ok q W:=fun W=>by rw[hq];exact eqNd x y W
    have HXX:=Lib.hid hx
    have HYY:=Lib.hid hy
    have HQ:=Lib.hid hq
    have HOK:=Lib.hid hok
    have HK:=Lib.hid hk
    have htn:(t:Int)<(n:Int):=by omega
    have ht0:(0:Int)≤(t:Int):=by omega
    clear hx hy hq hok hk hcell hcell2 hbw hbd
    cases q
    ·have HF:Hid (decide (e=f)=false):=by
      show _=_
      rw[decide_eq_false_iff_not]
      intro h
      have h1:=HXX.out
      rw[h,HYY.out] at h1
      have h2:=HQ.out
      rw[Option.some.inj h1] at h2
      simp at h2
     go_wp2_with fail
     go_region
     all_goals
      go_wp2_with fail
      go_ret
      exact⟨ret_bool' HF.out.symm,k+1,by rw[HK.out];rfl⟩
    ·have HALL:Hid (∀ j,j<t+1→e[j]?=f[j]?):=fun j hj=>by
      by_cases h:j=t
      ·subst h
       rw[HXX.out,HYY.out]
       have:=HQ.out
       rw[of_decide_eq_true this.symm]
      ·exact HOK.out j (by omega)
     go_wp2_with fail
     go_region
     all_goals
      go_wp2_with fail
      go_roundw
      case rel=>exact⟨t+1,by go_num,by omega,HALL.out,k+1,by rw[HK.out];rfl⟩
      case measure=>simp[intOf];omega
   ·have hte:t=n:=by omega
    subst hte
    have HF:Hid (decide (e=f)=true):=by
     show _=_
     rw[decide_eq_true_iff]
     apply List.ext_getElem?
     intro j
     rcases Nat.lt_or_ge j t with h | h
     ·exact hok j h
     ·rw[List.getElem?_eq_none (by have:=HN.out;omega),List.getElem?_eq_none (by have:=HM.out;omega)]
    have HK:=Lib.hid hk
    clear hok hk
    go_wp2_with fail
    go_ret
    exact⟨ret_bool' HF.out.symm,k,HK.out⟩
 ·have e0:((n:Int) != (m:Int))=true:=by rw[bne_iff_ne];omega
  have HF:Hid (decide (e=f)=false):=by
   show _=_
   rw[decide_eq_false_iff_not]
   intro h
   exact hl (by rw[HN.out,HM.out,h])
  clear hl
  go_enter Tryz.func78,Tryz.ntmps78
  go_wp2_with fail
  go_ret
  exact⟨ret_bool' HF.out.symm,0,rfl⟩
def firstI {α:Type} (p:α→Bool) (l:List α):Int:=match l.findIdx? p with
 | some k=>k
 | none=>-1
theorem firstI_at {α:Type} {p:α→Bool} {l:List α} {k:Nat} {x:α} (hk:l[k]?=some x) (hp:p x=true) (hno:(l.take k).any p=false):firstI p l=(k:Int):=by
 unfold firstI
 have:l.findIdx? p=some k:=by
  rw[List.findIdx?_eq_some_iff_getElem]
  obtain⟨h1,h2⟩:=List.getElem?_eq_some_iff.1 hk
  refine⟨h1,by rw[h2];exact hp,fun j hj=>?_⟩
  have h3 := List.any_eq_false.1 hno (l[j]'(by omega)) (by
   rw[List.mem_take_iff_getElem];exact⟨j,by omega,rfl⟩)
  simpa using h3
 rw[this]
theorem firstI_none {α:Type} {p:α→Bool} {l:List α} (hno:l.any p=false):firstI p l = -1:=by
 unfold firstI
 have:l.findIdx? p=none:=by
  rw[List.findIdx?_eq_none_iff]
  intro x hx
  have:=List.any_eq_false.1 hno x hx
  simpa using this
 rw[this]
theorem any_upTo {α:Type} (p:α→Bool) {l:List α} {k:Nat} {x:α} (h:l[k]?=some x):(l.take (k+1)).any p=((l.take k).any p || p x):=by
 rw[take_at h,List.any_append];simp
theorem firstI_sign {α:Type} (p:α→Bool) (l:List α):decide (0≤firstI p l)=l.any p:=by
 cases h:l.any p with
 | false=>rw[firstI_none h];rfl
 | true =>
  unfold firstI
  cases hq:l.findIdx? p with
  | none =>
   rw[List.findIdx?_eq_none_iff] at hq
   obtain⟨x,hx,hp⟩:=List.any_eq_true.1 h
   have:=hq x hx
   rw[hp] at this;cases this
  | some k=>simp
theorem cutFn_any (x y:List Nd) (xb:Nat) (xv u:Value) (w:World) (hxb:w.cell? ⟨xb,0,none⟩=some xv) (hxl:x.length≤1000000000) (hyl:y.length≤1000000000) (hx:IsE w xv x) (hy:IsE w u y) :
  Calls Tryz.prog 77 #[u,.pointer (some ⟨xb,0,none⟩)] w fun r w'=>r=.returned (.bool (decide (x=y)))∧∃ k,w'=w.drewN k:=by
 have hE:=Equal_any x y xv u w hxl hyl hx hy
 obtain⟨a,c,rfl,-,-⟩:=hx.form
 clear hx hy
 go_enter Tryz.func77,Tryz.ntmps77
 go_wp2_with fail
 refine hE.mono ?_
 rintro r w1 ⟨rfl,k,rfl⟩
 clear hE
 go_wp2_with fail
 go_ret
 exact⟨rfl,k,rfl⟩
set_option maxRecDepth 100000 in
set_option maxHeartbeats 1000000 in
theorem indexCut_any (A:List (List Nd)) (x:List Nd) (v:Value) (xb:Nat) (xv:Value) (w:World) (hl:A.length≤1000000) (hv:Sg 1 IsL w v A) (hxb:w.cell? ⟨xb,0,none⟩=some xv) (hxl:x.length≤1000000000) (hA:∀ y∈A,y.length≤1000000000) (hx:IsE w xv x) :
  Calls Tryz.prog 73 #[v,.func (.func 77) #[] #[.pointer (some ⟨xb,0,none⟩)]] w fun r w'=>r=.returned (.int .i64 (firstI (fun y=>decide (x=y)) A))∧∃ k,w'=w.drewN k:=by
 obtain⟨a,c,rfl,hc,hcell⟩:=hv.form keepsL
 obtain⟨n,hn⟩ : ∃ n,n=A.length:=⟨_,rfl⟩
 rw[← hn] at hc hl ⊢
 have HN:=Lib.hid hn
 have HC:=Lib.hid hcell
 have HXB:=Lib.hid hxb
 have HX:=Lib.hid hx
 clear hn hv hcell hxb hx
 go_enter Tryz.func73,Tryz.ntmps73
 go_wp2_with fail
 go_loopw [8] (fun i wr=>∃ k:Nat,i=.int .i64 k∧k≤n∧(A.take k).any (fun y=>decide (x=y))=false∧∃ q,wr=w.drewN q) (fun i _=>n - (intOf i).toNat)
 case atStart=>exact⟨0,rfl,Nat.zero_le _,rfl,0,rfl⟩
 case round =>
  obtain⟨k,rfl,hk,hno,q,hW⟩:=hrel
  have hbw:Below w.heap.size w wr:=by rw[hW];exact below_drawn (Below.refl _ _) q
  by_cases hlt:k<n
  ·obtain⟨y,hi⟩ : ∃ y,A[k]?=some y:=⟨_,List.getElem?_eq_getElem (by have:=HN.out;omega)⟩
   obtain⟨b,o,cs,rfl,⟨u,rfl,hu⟩,g⟩:=HC.out wr hbw k y hi
   have cx:=g 0 _ rfl
   simp only[Nat.mul_one,Nat.add_zero] at cx
   have hkn:(k:Int)<(n:Int):=by omega
   have hk0:(0:Int)≤(k:Int):=by omega
   have hf:=cutFn_any x y xb xv u wr (by rw[hW];exact HXB.out) hxl (hA y (List.mem_of_getElem? hi)) (Sl.below HX.out hbw) hu
   obtain⟨d,hd⟩ : ∃ d,d=decide (x=y):=⟨_,rfl⟩
   rw[← hd] at hf
   have HD:=Lib.hid hd
   have HI:=Lib.hid hi
   have HNO:=Lib.hid hno
   have HW:=Lib.hid hW
   obtain⟨ua,uc,rfl,-,-⟩:=hu.form
   clear g hi hno hu hbw hd hW
   go_wp2_with fail
   refine hf.mono ?_
   rintro r w1 ⟨rfl,q2,hq2⟩
   have HQ2:=Lib.hid hq2
   clear hf hq2
   cases d
   ·have HF:Hid ((A.take (k+1)).any (fun y=>decide (x=y))=false):=by show _=_;rw[any_upTo _ HI.out,HNO.out,← HD.out];rfl
    go_wp2_with fail
    go_roundw
    case rel=>exact⟨k+1,by go_num,by omega,HF.out,q+q2,by rw[HQ2.out,HW.out,World.drewN_drewN]⟩
    case measure=>simp[intOf];omega
   ·have HF:Hid (firstI (fun y=>decide (x=y)) A=(k:Int)):=firstI_at HI.out HD.out.symm HNO.out
    go_wp2_with fail
    go_ret
    exact⟨by rw[HF.out];rfl,q+q2,by rw[HQ2.out,HW.out,World.drewN_drewN]⟩
  ·have hke:k=n:=by omega
   subst hke
   have HF:Hid (firstI (fun y=>decide (x=y)) A = -1):=by
    rw[List.take_of_length_le (by have:=HN.out;omega)] at hno
    exact firstI_none hno
   have HW:=Lib.hid hW
   clear hno hW hbw
   go_wp2_with fail
   go_ret
   exact⟨by rw[HF.out];rfl,q,HW.out⟩
theorem mayFn_any (y:List Nd) (u:Value) (w:World) (hyl:y.length≤1000000000) (hy:IsE w u y) :
  Calls Tryz.prog 49 #[u] w fun r w'=>r=.returned (.bool (!mayB y))∧Below w.heap.size w w':=by
 have hE:=May_any y u w hyl hy
 obtain⟨a,c,rfl,-,-⟩:=hy.form
 clear hy
 go_enter Tryz.func49,Tryz.ntmps49
 go_wp2_with fail
 refine hE.mono ?_
 rintro r w1 ⟨rfl,hb⟩
 have HB:=Lib.hid hb
 clear hE hb
 go_wp2_with fail
 go_ret
 exact⟨rfl,HB.out⟩
set_option maxRecDepth 100000 in
set_option maxHeartbeats 1000000 in
theorem indexMay_any (A:List (List Nd)) (v:Value) (w:World) (hl:A.length≤1000000) (hv:Sg 1 IsL w v A) (hA:∀ y∈A,y.length≤1000000000) :
  Calls Tryz.prog 73 #[v,.func (.func 49) #[] #[]] w fun r w'=>r=.returned (.int .i64 (firstI (fun y=>!mayB y) A))∧Below w.heap.size w w':=by
 obtain⟨a,c,rfl,hc,hcell⟩:=hv.form keepsL
 obtain⟨n,hn⟩ : ∃ n,n=A.length:=⟨_,rfl⟩
 rw[← hn] at hc hl ⊢
 have HN:=Lib.hid hn
 have HC:=Lib.hid hcell
 obtain⟨nb,hnb⟩ : ∃ nb,nb=w.heap.size:=⟨_,rfl⟩
 have HNB:=Lib.hid hnb
 clear hn hv hcell
 go_enter Tryz.func73,Tryz.ntmps73
 go_wp2_with fail
 go_loopw [8] (fun i wr=>∃ k:Nat,i=.int .i64 k∧k≤n∧(A.take k).any (fun y=>!mayB y)=false∧Below nb w wr) (fun i _=>n - (intOf i).toNat)
 case atStart=>exact⟨0,rfl,Nat.zero_le _,rfl,Below.refl _ _⟩
 case round =>
  obtain⟨k,rfl,hk,hno,hW⟩:=hrel
  have hbw:Below w.heap.size w wr:=by rw[hnb] at hW;exact hW
  have HBW:=Lib.hid hbw
  by_cases hlt:k<n
  ·obtain⟨y,hi⟩ : ∃ y,A[k]?=some y:=⟨_,List.getElem?_eq_getElem (by have:=HN.out;omega)⟩
   obtain⟨b,o,cs,rfl,⟨u,rfl,hu⟩,g⟩:=HC.out wr hbw k y hi
   have cx:=g 0 _ rfl
   simp only[Nat.mul_one,Nat.add_zero] at cx
   have hkn:(k:Int)<(n:Int):=by omega
   have hk0:(0:Int)≤(k:Int):=by omega
   have hf:=mayFn_any y u wr (hA y (List.mem_of_getElem? hi)) hu
   obtain⟨d,hd⟩ : ∃ d,d = !mayB y:=⟨_,rfl⟩
   rw[← hd] at hf
   have HD:=Lib.hid hd
   have HI:=Lib.hid hi
   have HNO:=Lib.hid hno
   obtain⟨ua,uc,rfl,-,-⟩:=hu.form
   clear g hi hno hu hbw hd hW hnb
   go_wp2_with fail
   refine hf.mono ?_
   rintro r w1 ⟨rfl,hb⟩
   have HB2:=Lib.hid (below_next HBW.out hb)
   clear hf hb
   cases d
   ·have HF:Hid ((A.take (k+1)).any (fun y=>!mayB y)=false):=by show _=_;rw[any_upTo _ HI.out,HNO.out,← HD.out];rfl
    go_wp2_with fail
    go_roundw
    case rel=>exact⟨k+1,by go_num,by omega,HF.out,by rw[HNB.out];exact HB2.out⟩
    case measure=>simp[intOf];omega
   ·have HF:Hid (firstI (fun y=>!mayB y) A=(k:Int)):=firstI_at HI.out HD.out.symm HNO.out
    go_wp2_with fail
    go_ret
    exact⟨by rw[HF.out];rfl,HB2.out⟩
  ·have hke:k=n:=by omega
   subst hke
   have HF:Hid (firstI (fun y=>!mayB y) A = -1):=by
    rw[List.take_of_length_le (by have:=HN.out;omega)] at hno
    exact firstI_none hno
   clear hno hW hbw hnb
   go_wp2_with fail
   go_ret
   exact⟨by rw[HF.out];rfl,HBW.out⟩
theorem containsMay_any (A:List (List Nd)) (v:Value) (w:World) (hl:A.length≤1000000) (hv:Sg 1 IsL w v A) (hA:∀ y∈A,y.length≤1000000000) :
  Calls Tryz.prog 48 #[v,.func (.func 49) #[] #[]] w fun r w'=>r=.returned (.bool (A.any (fun y=>!mayB y)))∧Below w.heap.size w w':=by
 have hI:=indexMay_any A v w hl hv hA
 have hs:=firstI_sign (fun y=>!mayB y) A
 obtain⟨n,hn⟩ : ∃ n,n=firstI (fun y=>!mayB y) A:=⟨_,rfl⟩
 rw[← hn] at hI hs
 have HS:=Lib.hid hs
 obtain⟨a,c,rfl,-,-⟩:=hv.form keepsL
 clear hs hn hv
 go_enter Tryz.func48,Tryz.ntmps48
 go_wp2_with fail
 refine hI.mono ?_
 rintro r w1 ⟨rfl,hb⟩
 have HB:=Lib.hid hb
 clear hI hb
 go_wp2_with fail
 go_ret
 exact⟨ret_bool HS.out,HB.out⟩
set_option maxHeartbeats 1000000 in
theorem isLogic_any (op:Int) (w:World):Calls Tryz.prog 75 #[.int .i64 op] w fun r w'=>r=.returned (.bool (Ux.isLogic op))∧w'=w:=by
 have HF:Hid (Ux.isLogic op=((op==2) || (op==4) || (op==6) || (op==7) || (op==8) || (op==9) || (op==26))):=by
  show _=_
  unfold Ux.isLogic
  rw[Bool.eq_iff_iff];simp;omega
 go_enter Tryz.func75,Tryz.ntmps75
 go_wp2_with fail
 all_goals
  go_ret
  exact⟨ret_bool (by rw[HF.out];simp_all),rfl⟩
end Go.Proofs.YtmacepicoandkaaGreatDoor
