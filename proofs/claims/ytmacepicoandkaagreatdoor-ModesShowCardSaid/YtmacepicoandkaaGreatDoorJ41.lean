/- The parts of a contract, as the reference finds them: the walk. few, truths of the laws of modes; Nodes: the walks. -/
import Derived.Test.YtmacepicoandkaaGreatDoorJ36
import Derived.Test.YtmacepicoandkaaGreatDoorJ37
import Derived.Test.YtmacepicoandkaaGreatDoorJ38
set_option linter.unusedVariables false
set_option linter.unusedSimpArgs false
namespace Go.Proofs.YtmacepicoandkaaGreatDoor
open Go.RowKit Go.Shelf Tx
set_option maxRecDepth 100000 in
set_option maxHeartbeats 4000000 in
theorem rParts_any (l:List It) (v:Value) (w:World) (hl:l.length≤1000) (hv:Sg 6 IsIt w v l) :
  Calls Tryz.prog 16 #[v] w (PartsPost l w):=by
 obtain⟨a,c,rfl,hc,hx⟩:=hv.form keepsIt
 obtain⟨n,hn⟩ : ∃ n,n=l.length:=⟨_,rfl⟩
 have HX:=Lib.hid hx
 have HN:=Lib.hid hn
 rw[← hn] at hl hc ⊢
 clear hv hx hn
 go_enter Tryz.func16,Tryz.ntmps16
 go_wp2_with fail
 go_loopw [5,6,7,8] (fun a r m i wr=>∃ t:Nat,i=.int .i64 t∧t≤n∧PartsAt l w t wr a r m) (fun _ _ _ i _=>n - (intOf i).toNat)
 case atStart=>exact⟨0,rfl,Nat.zero_le _,PartsAt.start l w⟩
 case round =>
  obtain⟨t,rfl,ht,hP⟩:=hrel
  by_cases hlt:t<n
  ·obtain⟨x,hxt⟩ : ∃ x,l[t]?=some x:=⟨_,List.getElem?_eq_getElem (by have:=HN.out;omega)⟩
   obtain⟨b,o,cs,rfl,⟨ea,fa,ga,ec,fn,fc,gn,gc,hcs,hE⟩,hcell⟩:=HX.out wr hP.below t x hxt
   obtain⟨b0,o0,cs0,e0,⟨ea',fa',ga',ec',fn',fc',gn',gc',hcs0,hE0⟩,hcell0⟩:=HX.out w (Below.refl _ _) t x hxt
   cases e0
   obtain⟨c0,c1,c2,c3,c4,c5⟩:=six_it hcell hcs
   have hbl:b<w.heap.size:=by
    have h0:=hcell0 0 _ (by rw[hcs0];rfl)
    exact World.block_lt_of_cell? w _ h0
   have hu:IsE w (.slice ea x.e.length ec) x.e:=by
    have h0:=hcell0 3 _ (by rw[hcs0];rfl)
    have h1:=(hP.below.cell (p:=⟨b,o+t * 6+3,none⟩) hbl).trans h0
    rw[c3] at h1
    have h2:=Option.some.inj h1
    rw[h2];exact hE0
   have htn:(t:Int)<(n:Int):=by omega
   have ht0:(0:Int)≤(t:Int):=by omega
   have HXT:=Lib.hid hxt
   have HU:=Lib.hid hu
   have HP:=Lib.hid hP
   have hfew:=few_take l t
   have hnl:=nms_len (l.take t)
   rw[← HN.out] at hfew
   obtain⟨el,hel⟩ : ∃ el,el=x.e.length:=⟨_,rfl⟩
   rw[← hel] at c3 HU
   obtain⟨nb,hnb⟩ : ∃ nb,nb=w.heap.size:=⟨_,rfl⟩
   have hwr:nb≤wr.heap.size:=by rw[hnb];exact hP.below.size
   have HNB:=Lib.hid hnb
   clear hxt hcs hcs0 hE hE0 hcell hcell0 hu hel hnb
   by_cases hk1:x.kind=1
   ·obtain⟨us,h1,h2,h3⟩:=HP.out.ra
    have e1:(x.kind==1)=true:=by simp[hk1]
    have HK:=Lib.hid hk1
    have H1:=Lib.hid h1
    have H2:=Lib.hid h2
    have H3:=Lib.hid h3
    obtain⟨k,hk⟩ : ∃ k,k=(asmL (l.take t)).length:=⟨_,rfl⟩
    have h1':Hid (wr.ownsRow nb 54 1 u5 k us):=by show World.ownsRow _ _ _ _ _ _ _;rw[HNB.out,hk];exact H1.out
    have hkn:k≤n:=by rw[hk];exact hfew.1
    have HKK:=Lib.hid hk
    clear hk1 h1 h2 h3 hk hP hfew hnl
    go_wp2_with (at_builtin;refine wpList_app rowE rfl _ _ rfl nb u5 k us rfl (h1'.out.alloc _) ⟨wr.heap.size,0,none⟩ 1 [.slice ea el ec] rfl rfl (cell_one_at _ _ _ _ (by simp)) (by simp[Value.oneCell']) (by omega) (by simp;omega) (wr.heap.size+1) (by simp) ?_)
    intro g cap w4 hown hgrow hat _ _
    have hF:PartsAt l w (t+1) w4 (.slice (some ⟨g,0,none⟩) (k+1) cap) u6 u7:=by
     have hQ:=HP.out.alloc (.cells #[.slice ea el ec] 54)
     have:=hQ.assume HXT.out HK.out HU.out (by rw[← HKK.out,← HNB.out];exact h1'.out.alloc _) H2.out H3.out (cap:=cap) (g:=g) (by rw[← HKK.out,← HNB.out];exact hown) hgrow (by rcases hat with h | h;exact Or.inl h;right;rw[h,World.size_alloc])
     rw[← HKK.out] at this;exact this
    have HF:=Lib.hid hF
    have c0':w4.cell? ⟨b,o+t * 6,none⟩=some (.int .i64 x.kind):=(hF.below.cell (p:=⟨b,o+t * 6,none⟩) hbl).trans ((HP.out.below.cell (p:=⟨b,o+t * 6,none⟩) hbl).symm.trans c0)
    have e4:(x.kind==4)=false:=by rw[HK.out];rfl
    clear hown hgrow hat hF HP h1' H1 H2 H3
    go_wp2_with fail
    go_roundw
    case rel=>exact⟨t+1,by go_num,by omega,HF.out⟩
    case measure=>simp[intOf];omega
   ·have e1:(x.kind==1)=false:=by simpa using hk1
    have HK1:=Lib.hid hk1
    clear hk1
    by_cases hk4:x.kind=4
    ·obtain⟨us,h1,h2,h3⟩:=HP.out.rr
     have e4:(x.kind==4)=true:=by simp[hk4]
     have HK:=Lib.hid hk4
     have H2:=Lib.hid h2
     have H3:=Lib.hid h3
     have hrn:=HP.out.rn
     have HO3:Hid (∀ q,u6.ownBlock=some q→q<wr.heap.size):=fun q hq=>(hP.rr.own_lt q hq).2
     obtain⟨k,hk⟩ : ∃ k,k=(reqL (l.take t)).length:=⟨_,rfl⟩
     have h1':Hid (wr.ownsRow nb 54 1 u6 k us):=by show World.ownsRow _ _ _ _ _ _ _;rw[HNB.out,hk];exact h1
     have hn':Hid (wr.ownsRow nb 9 1 u7 k ((nmsL (l.take t)).map Value.string)):=by show World.ownsRow _ _ _ _ _ _ _;rw[HNB.out,hk,← hnl];exact hrn
     have HNL:Hid ((nmsL (l.take t)).length=k):=by show _=_;rw[hnl,hk]
     have hkn:k≤n:=by rw[hk];exact hfew.2
     have HKK:=Lib.hid hk
     clear hk4 h1 h2 h3 hk hP hfew hnl hrn
     go_wp2_with (at_builtin;refine wpList_app rowE rfl _ _ rfl nb u6 k us rfl (h1'.out.alloc _) ⟨wr.heap.size,0,none⟩ 1 [.slice ea el ec] rfl rfl (cell_one_at _ _ _ _ (by simp)) (by simp[Value.oneCell']) (by omega) (by simp;omega) (wr.heap.size+1) (by simp) ?_)
     intro g cap w4 hown hgrow hat _ _
     have hown0:=Lib.hid hown
     have hq1:=hn'.out.alloc (.cells #[.slice ea el ec] 54)
     have hq2:=h1'.out.alloc (.cells #[.slice ea el ec] 54)
     have hn4:Hid (w4.ownsRow nb 9 1 u7 k ((nmsL (l.take t)).map Value.string)):=World.ownsRow.kept hq1 hgrow (row_apart hq1 hq2 (by decide))
     have hb14:Below w.heap.size w w4:=(HP.out.below.alloc HP.out.below.size _).trans (below_growth hgrow (by have:=HP.out.below.size;simp;omega) (fun q hq=>by rw[← HNB.out];exact (hq2.lt q hq).1))
     have hc4:w4.cell? ⟨b,o+t * 6+1,none⟩=some (.string x.name):=(hb14.cell (p:=⟨b,o+t * 6+1,none⟩) hbl).trans ((HP.out.below.cell (p:=⟨b,o+t * 6+1,none⟩) hbl).symm.trans c1)
     have hsz4:wr.heap.size+1≤w4.heap.size:=by have:=hgrow.size;rw[World.size_alloc] at this;omega
     have HG4:=Lib.hid hgrow
     have HAT:=Lib.hid hat
     clear hq1 hq2 hb14 hown hgrow hat
     go_wp2_with (at_builtin;refine wpList_app rowStr rfl _ _ rfl nb u7 k _ rfl (hn4.out.alloc _) ⟨w4.heap.size,0,none⟩ 1 [.string x.name] rfl rfl (cell_one_new _ _ _) (by simp[Value.oneCell']) (by omega) (by simp;omega) (w4.heap.size+1) (by simp) ?_)
     intro g2 cap2 w5 hown2 hgrow2 _ _ _
     have hF:PartsAt l w (t+1) w5 u5 (.slice (some ⟨g,0,none⟩) (k+1) cap) (.slice (some ⟨g2,0,none⟩) (k+1) cap2):=by
      have hQ:=HP.out.alloc (.cells #[.slice ea el ec] 54)
      have:=hQ.require HXT.out HK.out HU.out (by rw[← HKK.out,← HNB.out];exact h1'.out.alloc _) H2.out H3.out (cap:=cap) (g:=g) (by rw[← HKK.out,← HNB.out];exact hown0.out) HG4.out (by rcases HAT.out with h | h;exact Or.inl h;right;rw[h,World.size_alloc])
       (g2:=g2) (cap2:=cap2) (o:=.cells #[.string x.name] 9) (by rw[HNL.out,← HNB.out];exact hown2) hgrow2
      rw[← HKK.out,HNL.out] at this;exact this
     have HF:=Lib.hid hF
     clear hown2 hgrow2 hF HP h1' H2 H3 hn' hn4 hc4 HG4 HAT hown0 HO3
     go_wp2_with fail
     go_roundw
     case rel=>exact⟨t+1,by go_num,by omega,HF.out⟩
     case measure=>simp[intOf];omega
    ·have e4:(x.kind==4)=false:=by simpa using hk4
     have hF:=HP.out.pass HXT.out HK1.out hk4
     have HF:=Lib.hid hF
     clear hk4 hF hP hfew hnl HP
     go_wp2_with fail
     go_roundw
     case rel=>exact⟨t+1,by go_num,by omega,HF.out⟩
     case measure=>simp[intOf];omega
  ·have hte:t=n:=by omega
   subst hte
   have hF:PartsAt l w l.length wr u5 u6 u7:=by rw[← HN.out];exact hP
   have HF:=Lib.hid hF
   clear hP hF
   go_wp2_with fail
   go_ret3
   exact⟨_,_,_,rfl,HF.out⟩
end Go.Proofs.YtmacepicoandkaaGreatDoor
namespace Go.Proofs.YtmacepicoandkaaGreatDoor
open Go.RowKit Go.Shelf Tx
def fewI (l:List It):Bool:=decide (l.length≤12)&&l.all fun x=>decide (x.e.length≤100)
set_option maxRecDepth 100000 in
set_option maxHeartbeats 2000000 in
theorem few22_any (l:List It) (v:Value) (w:World) (hlm:l.length≤maxLen) (hM:∀ x∈l,x.e.length≤maxLen) (hv:Sg 6 IsIt w v l) :
  Calls Tryz.prog 7 #[v] w fun r w'=>r=.returned (.bool (fewI l))∧w'=w:=by
 unfold maxLen at hlm hM
 obtain⟨a,c,rfl,hc,hx⟩:=hv.form keepsIt
 have hx:=hx w (Below.refl _ _)
 obtain⟨n,hn⟩ : ∃ n,n=l.length:=⟨_,rfl⟩
 have HX:=Lib.hid hx
 have HM:=Lib.hid hM
 rw[← hn] at hlm hc ⊢
 have HN:=Lib.hid hn
 clear hv hx hM hn
 by_cases h12:n≤12
 ·go_enter Tryz.func7,Tryz.ntmps7
  go_wp2_with fail
  go_loop [3] (fun iv=>∃ t:Nat,iv=.int .i64 t∧t≤n∧(∀ (j:Nat) (x:It),j<t→l[j]?=some x→x.e.length≤100)) (fun iv=>n - (intOf iv).toNat)
  case atStart=>exact⟨0,rfl,Nat.zero_le _,fun j x h=>by omega⟩
  case round =>
   obtain⟨t,rfl,ht,hok⟩:=hrel
   have HOK:=Lib.hid hok
   clear hok
   by_cases hlt:t<n
   ·obtain⟨x,hxt⟩ : ∃ x,l[t]?=some x:=⟨_,List.getElem?_eq_getElem (by have:=HN.out;omega)⟩
    obtain⟨b,o,cs,rfl,⟨ea,fa,ga,ec,fn,fc,gn,gc,hcs,-⟩,hcell⟩:=HX.out t x hxt
    obtain⟨-,-,-,c3,-,-⟩:=six_it hcell hcs
    have hxm:=HM.out x (List.mem_of_getElem? hxt)
    obtain⟨el,hel⟩ : ∃ el,el=x.e.length:=⟨_,rfl⟩
    rw[← hel] at c3 hxm
    have HEL:=Lib.hid hel
    have HXT:=Lib.hid hxt
    have htn:(t:Int)<(n:Int):=by omega
    have ht0:(0:Int)≤(t:Int):=by omega
    clear hxt hcs hcell hel
    by_cases h100:el≤100
    ·have HO2:Hid (∀ (j:Nat) (y:It),j<t+1→l[j]?=some y→y.e.length≤100):=fun j y hj hy=>by
      by_cases h:j=t
      ·subst h;rw[HXT.out] at hy;cases hy;rw[← HEL.out];exact h100
      ·exact HOK.out j y (by omega) hy
     go_wp2_with fail
     go_round
     case rel=>exact⟨t+1,by go_num,by omega,HO2.out⟩
     case measure=>simp[intOf];omega
    ·have h100':100<el:=by omega
     have HF:Hid (fewI l=false):=by
      show _=_
      unfold fewI
      rw[Bool.and_eq_false_iff];right
      rw[List.all_eq_false]
      exact⟨x,List.mem_of_getElem? HXT.out,by rw[← HEL.out];simpa using h100'⟩
     clear h100
     go_wp2_with fail
     go_ret
     exact⟨by rw[HF.out];rfl,rfl⟩
   ·have hte:t=n:=by omega
    subst hte
    have HF:Hid (fewI l=true):=by
     show _=_
     unfold fewI
     rw[Bool.and_eq_true]
     refine⟨by rw[← HN.out];simpa using h12,List.all_eq_true.2 fun x hx=>?_⟩
     obtain⟨j,hj⟩:=List.mem_iff_getElem?.1 hx
     simpa using HOK.out j x (by have:=(List.getElem?_eq_some_iff.1 hj).1;have:=HN.out;omega) hj
    go_wp2_with fail
    go_ret
    exact⟨by rw[HF.out];rfl,rfl⟩
 ·have h12':12<n:=by omega
  have HF:Hid (fewI l=false):=by
   show _=_
   unfold fewI
   rw[Bool.and_eq_false_iff];left
   rw[← HN.out];simpa using h12'
  clear h12
  go_enter Tryz.func7,Tryz.ntmps7
  go_wp2_with fail
  go_ret
  exact⟨by rw[HF.out];rfl,rfl⟩
end Go.Proofs.YtmacepicoandkaaGreatDoor
