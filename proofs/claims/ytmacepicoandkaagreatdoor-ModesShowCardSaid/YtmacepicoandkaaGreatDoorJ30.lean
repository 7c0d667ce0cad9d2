/- The number of an atom's name, as the program reads it: the walk. How an expression over atoms is reckoned: the plain mathematics of the rounds. The reference's atoms: few expressions, the same expressions, an atom's number, expressions over atoms: the walk. May an expression be one over so many atoms, as the reference finds it: the walk. -/
import Derived.Test.YtmacepicoandkaaGreatDoorJ25
import Derived.Test.YtmacepicoandkaaGreatDoorJ28
import Derived.Test.YtmacepicoandkaaGreatDoorJ29
set_option linter.unusedVariables false
set_option linter.unusedSimpArgs false
namespace Go.Proofs.YtmacepicoandkaaGreatDoor
open Go.RowKit Go.Shelf Tx
theorem below_bytes (B:Nat) (w:World) (e:TypeId) (s:ByteArray) (h:B≤w.heap.size):Below B w (Lib.bytesWorld w e s) :=
 ⟨rfl,rfl,rfl,by rw[Lib.bytesWorld_size];omega,fun k hk=>Lib.bytesWorld_at_old w e s k (by omega)⟩
theorem numP_is (s:ByteArray):Ux.numP s=if Lib.hasPrefix s.data.toList [63] then match Lib.atoiAll (Lib.trimPrefix s.data.toList [63]) with
  | .ok v=>if Lib.itoa v=Lib.trimPrefix s.data.toList [63] then some v else none
  | _=>none else none:=by
 unfold Ux.numP
 generalize s.data.toList=l
 cases l with
 | nil=>rfl
 | cons c r =>
  by_cases h:c=63
  ·subst h
   have:Lib.trimPrefix (63 :: r) [63]=r:=rfl
   have h2:Lib.hasPrefix (63 :: r) [63]=true:=rfl
   rw[this,h2]
   rfl
  ·have h1:Lib.hasPrefix (c :: r) [63]=false:=by
    show ([63].isPrefixOf (c :: r))=false
    simp[List.isPrefixOf];exact fun q=>h q.symm
   rw[h1]
   simp only[Bool.false_eq_true,if_false]
   split
   ·rename_i d hd;cases hd;exact absurd rfl h
   ·rfl
set_option maxRecDepth 100000 in
set_option maxHeartbeats 2000000 in
theorem number_any (s:ByteArray) (w:World) (hs:s.size≤281474976710656) (G:Gl w):Calls Tryz.prog 52 #[.string s] w fun e w'=>∃ v,e=.returned (.tuple #[.int .i64 v,.bool (Ux.numP s).isSome])∧(∀ m,Ux.numP s=some m→m=v)∧Below w.heap.size w w':=by
 obtain⟨D,hD⟩ : ∃ D:ByteArray,D=⟨(Lib.trimPrefix s.data.toList [63]).toArray⟩:=⟨_,rfl⟩
 have hDl:D.data.toList=Lib.trimPrefix s.data.toList [63]:=by rw[hD]
 have hds:D.size≤281474976710656:=by
  rw[← list_size,hDl];unfold Lib.trimPrefix
  have:=list_size s
  split
  ·rw[List.length_drop];omega
  ·omega
 have hcut:∀ W,Calls Tryz.prog 80 #[.string s,.string ⟨#[63]⟩] W fun e w'=>e=.returned (.tuple #[.string D,.bool (Lib.hasPrefix s.data.toList [63])])∧W=w':=fun W=>by
  have:=Tryz.strings_CutPrefix s ⟨#[63]⟩ W
  rw[hD];exact this.mono fun _ _ h=>⟨h.1,h.2.symm⟩
 have hnp:=numP_is s
 rw[← hDl] at hnp
 obtain⟨q1,q2,hsv⟩:=G.syn
 obtain⟨q3,q4,hrv⟩:=G.ran
 clear hD hDl
 generalize Lib.hasPrefix s.data.toList [63]=h at hcut hnp
 generalize Ux.numP s=N at hnp ⊢
 have HN:=Lib.hid hnp
 clear hnp
 cases ha:Lib.atoiAll D.data.toList with
 | ok v =>
  have hbd:=Lib.atoiAll_bounds ha
  have hA:=Tryz.strconv_Atoi_ok D (by omega) v ha w
  have HV:=Lib.hid ha
  clear hsv hrv ha
  cases h
  ·have HF:Hid (N=none):=HN.out
   go_enter Tryz.func52,Tryz.ntmps52
   go_wp2_with fail
   refine (hcut w).mono ?_
   rintro e w1 ⟨rfl,rfl⟩
   go_wp2_with fail
   refine hA.mono ?_
   rintro e w1 ⟨rfl,hw1⟩
   have hb1:Below w.heap.size w w1:=by
    rcases hw1 with rfl | ⟨t,rfl⟩
    ·exact Below.refl _ _
    ·exact below_bytes _ _ _ _ (Nat.le_refl _)
   clear hw1 hA
   go_wp2_with fail
   go_ret2
   exact⟨_,by rw[HF.out];rfl,fun m hm=>(by rw[HF.out] at hm;cases hm),hb1⟩
  ·obtain⟨T,hT⟩ : ∃ T:ByteArray,T=⟨(Lib.itoa v).toArray⟩:=⟨_,rfl⟩
   obtain⟨d,hd⟩ : ∃ d,d=(T.toList==D.toList):=⟨_,rfl⟩
   have hI:∀ w',Gl w'→Calls Tryz.prog 79 #[.int .i64 v] w' fun e w''=>e=.returned (.string T)∧Below w'.heap.size w' w'':=fun w' G'=>by
    rw[hT];exact itoa_int v (by omega) (by omega) w' G'
   have HF:Hid (N=if d=true then some v else none):=by
    show _=_
    rw[HN.out,HV.out]
    simp only[if_true]
    by_cases hq:Lib.itoa v=D.data.toList
    ·rw[if_pos hq,if_pos]
     rw[hd,Lib.toList_data,Lib.toList_data,hT,← hq];simp
    ·rw[if_neg hq,if_neg]
     rw[hd,Lib.toList_data,Lib.toList_data,hT]
     simpa using hq
   have hdd:=hd.symm
   clear hT hd
   go_enter Tryz.func52,Tryz.ntmps52
   go_wp2_with fail
   refine (hcut w).mono ?_
   rintro e w1 ⟨rfl,rfl⟩
   go_wp2_with fail
   refine hA.mono ?_
   rintro e w1 ⟨rfl,hw1⟩
   have hb1:Below w.heap.size w w1:=by
    rcases hw1 with rfl | ⟨t,rfl⟩
    ·exact Below.refl _ _
    ·exact below_bytes _ _ _ _ (Nat.le_refl _)
   clear hw1 hA
   have G1:=G.below hb1
   go_wp2_with fail
   refine (hI _ G1).mono ?_
   rintro e w2 ⟨rfl,hb2⟩
   have B2:=below_next hb1 hb2
   cases d
   ·go_wp2_with fail
    go_ret2
    exact⟨_,by rw[HF.out];rfl,fun m hm=>(by rw[HF.out] at hm;cases hm),B2⟩
   ·go_wp2_with fail
    go_ret2
    exact⟨_,by rw[HF.out];rfl,fun m hm=>(by rw[HF.out] at hm;cases hm;rfl),B2⟩
 | range =>
  have hA:=Tryz.strconv_Atoi_range_var D (by omega) ha q3 q4 w hrv
  have HF:Hid (N=none):=by show _=_;rw[HN.out,ha];simp
  clear hsv hrv
  generalize Lib.atoiSat D.data.toList=v at hA
  cases h
  all_goals
   go_enter Tryz.func52,Tryz.ntmps52
   go_wp2_with fail
   refine (hcut w).mono ?_
   rintro e w1 ⟨rfl,rfl⟩
   go_wp2_with fail
   refine hA.mono ?_
   rintro e w1 ⟨N1,rfl,hN,hB1,hb1⟩
   clear hA
   go_wp2_with fail
   go_ret2
   exact⟨_,by rw[HF.out];rfl,fun m hm=>(by rw[HF.out] at hm;cases hm),hb1⟩
 | _ =>
  have hA:=Tryz.strconv_Atoi_syntax_var D (by omega) (fun v q=>by rw[ha] at q;cases q) (fun q=>by rw[ha] at q;cases q) q1 q2 w hsv
  have HF:Hid (N=none):=by show _=_;rw[HN.out,ha];simp
  clear hsv hrv
  cases h
  all_goals
   go_enter Tryz.func52,Tryz.ntmps52
   go_wp2_with fail
   refine (hcut w).mono ?_
   rintro e w1 ⟨rfl,rfl⟩
   go_wp2_with fail
   refine hA.mono ?_
   rintro e w1 ⟨N1,rfl,hN,hB1,hb1⟩
   clear hA
   go_wp2_with fail
   go_ret2
   exact⟨_,by rw[HF.out];rfl,fun m hm=>(by rw[HF.out] at hm;cases hm),hb1⟩
end Go.Proofs.YtmacepicoandkaaGreatDoor
namespace Go.Proofs.YtmacepicoandkaaGreatDoor
open Go.RowKit Go.Shelf Tx
namespace Ux
theorem set_here {α:Type} {A B:List α} {z y:α} {i:Nat} (h:A.length=i):(A++z :: B).set i y=(A++[y])++B:=by
 subst h;rw[List.set_append_right _ _ (Nat.le_refl _)];simp
def mid {α:Type} (g:List α→Nd→α) (f:Nd→α) (e:List Nd) (i:Nat):List α:=(e.take i).foldl (fun vs x=>vs++[g vs x]) []++(e.drop i).map f
section
variable {α : Type} {g : List α → Nd → α} {f : Nd → α} {e : List Nd} {i : Nat} {x : Nd}
def pre (g:List α→Nd→α) (e:List Nd):List α:=e.foldl (fun vs x=>vs++[g vs x]) []
theorem pre_snoc (e:List Nd) (x:Nd):pre g (e++[x])=pre g e++[g (pre g e) x]:=by simp[pre,List.foldl_append]
theorem pre_len (e:List Nd):(pre g e).length=e.length:=by
 induction e using snoc_ind with
 | h0=>rfl
 | h1 e x ih=>rw[pre_snoc];simp[ih]
theorem mid_is:mid g f e i=pre g (e.take i)++(e.drop i).map f:=rfl
theorem mid_zero:mid g f e 0=e.map f:=by simp[mid_is,pre]
theorem mid_next (h:e[i]?=some x):mid g f e (i+1)=(mid g f e i).set i (g (pre g (e.take i)) x):=by
 have hi:=(List.getElem?_eq_some_iff.1 h).1
 have hx:=(List.getElem?_eq_some_iff.1 h).2
 rw[mid_is,mid_is,take_at h,pre_snoc,List.drop_eq_getElem_cons hi,List.map_cons,set_here (by rw[pre_len,List.length_take];omega)]
theorem mid_self (h:e[i]?=some x):(mid g f e i)[i]?=some (f x):=by
 have hi:=(List.getElem?_eq_some_iff.1 h).1
 have hx:=(List.getElem?_eq_some_iff.1 h).2
 rw[mid_is,List.drop_eq_getElem_cons hi,List.map_cons,List.getElem?_append_right (by rw[pre_len,List.length_take];omega),pre_len,List.length_take,Nat.min_eq_left (by omega),Nat.sub_self,hx];rfl
theorem mid_at {j:Nat} (hj:j<i) (hi:i≤e.length) (d:α):(mid g f e i)[j]?=some ((pre g (e.take i)).getD j d):=by
 have hl:j<(pre g (e.take i)).length:=by rw[pre_len,List.length_take];omega
 rw[mid_is,List.getElem?_append_left hl,List.getD_eq_getElem?_getD,List.getElem?_eq_getElem hl];rfl
theorem mid_full:mid g f e e.length=pre g e:=by simp[mid_is]
theorem pre_one (h:e[i]?=some x):pre g (e.take (i+1))=pre g (e.take i)++[g (pre g (e.take i)) x]:=by rw[take_at h,pre_snoc]
end
theorem vals_pre (l:List Bool) (e:List Nd):vals l e=pre (valN l) e:=rfl
def badP (x:Nd):Bool:=!isLogic x.op&&(x.op != 3 || (numP x.s).isNone)
def av (l:List Bool) (x:Nd):Bool:=if x.op=3 then l.getD ((numOf x.s l.length).getD 0) false else false
theorem valN_atom {l vs:List Bool} {x:Nd} (h:x.op=3):valN l vs x=av l x:=by unfold valN av;rw[if_pos h,if_pos h]
theorem numP_numOf {s:ByteArray} {most k:Nat} (hm:most≤1000000000) (h:numOf s most=some k):numP s=some (k:Int)∧k<most:=(num_both hm k).1 h
theorem av_at {l:List Bool} (hl:l.length≤1000000000) {x:Nd} {k:Nat} (h3:x.op=3) (hv:numP x.s=some (k:Int)) (hk:k<l.length):av l x=l.getD k false∧numOf x.s l.length=some k:=by
 have:=(num_both hl k).2 ⟨hv,hk⟩
 unfold av;rw[if_pos h3,this];exact⟨rfl,rfl⟩
theorem valL_at {l:List Bool} {e:List Nd} {n:Nat} (hn:n=e.length) (h1:1≤n):(pre (valN l) e)[n - 1]?=some (valL l e):=by
 unfold valL
 rw[vals_pre,List.getLastD_eq_getLast?,List.getLast?_eq_getElem?,pre_len,← hn]
 have:n - 1<(pre (valN l) e).length:=by rw[pre_len];omega
 rw[List.getElem?_eq_getElem this];rfl
theorem kids_ahead {e:List Nd} {i:Nat} {x:Nd} (hm:mayB e=true) (hx:e[i]?=some x):∀ k∈kids x,∃ j:Nat,k=(j:Int)∧j<i:=by
 intro k hk
 have:=((mayB_iff e).1 hm).inR i x hx k hk
 exact⟨k.toNat,by omega,by omega⟩
end Ux
end Go.Proofs.YtmacepicoandkaaGreatDoor
namespace Go.Proofs.YtmacepicoandkaaGreatDoor
open Go.RowKit Go.Shelf Tx
def numI (s:ByteArray) (most:Nat):Int:=match Ux.numOf s most with
 | some k=>k
 | none=>-1
theorem numI_at {s:ByteArray} {most k:Nat} (hk:k<most) (h:Ux.atomName k=s):numI s most=(k:Int):=by
 unfold numI;rw[Ux.numOf_some.2 ⟨hk,h⟩]
theorem numI_none {s:ByteArray} {most:Nat} (h:∀ k,k<most→Ux.atomName k≠s):numI s most = -1:=by
 unfold numI
 have:Ux.numOf s most=none:=by
  cases hq:Ux.numOf s most with
  | none=>rfl
  | some k=>obtain⟨h1,h2⟩:=Ux.numOf_some.1 hq;exact absurd h2 (h k h1)
 rw[this]
set_option maxRecDepth 100000 in
set_option maxHeartbeats 1000000 in
theorem Number_any (s:ByteArray) (most:Nat) (hm:most≤1000000) (w:World) :
  Calls Tryz.prog 67 #[.string s,.int .i64 most] w fun r w'=>r=.returned (.int .i64 (numI s most))∧Below w.heap.size w w':=by
 obtain⟨nb,hnb⟩ : ∃ nb,nb=w.heap.size:=⟨_,rfl⟩
 have HNB:=Lib.hid hnb
 clear hnb
 go_enter Tryz.func67,Tryz.ntmps67
 go_wp2_with fail
 go_loopw [5] (fun iv wr=>∃ t:Nat,iv=.int .i64 t∧t≤most∧(∀ j,j<t→Ux.atomName j≠s)∧Below nb w wr) (fun iv _=>most - (intOf iv).toNat)
 case atStart=>exact⟨0,rfl,Nat.zero_le _,(fun j h=>by omega),Below.refl _ _⟩
 case round =>
  obtain⟨t,rfl,ht,hno,hb⟩:=hrel
  have HNO:=Lib.hid hno
  have HB:Hid (Below w.heap.size w wr):=by show Below _ _ _;rw[← HNB.out];exact hb
  clear hno hb
  by_cases hlt:t<most
  ·have hit:=rDigits_any t (by omega) wr
   have htn:(t:Int)<(most:Int):=by omega
   have ht0:(0:Int)≤(t:Int):=by omega
   go_wp2_with fail
   refine hit.mono ?_
   rintro r w5 ⟨tx,rfl,htx,hb5⟩
   have htxs:tx.size≤20:=by
    have h5:=(Fx.dec_is t).2.2.2.2 9 (by omega)
    rw[← list_size,htx];omega
   have hnm:(⟨#[63]⟩ : ByteArray)++tx=Ux.atomName t:=by
    refine bytes_ext ?_
    rw[concat_bytes,htx];simp[Ux.atomName]
   obtain⟨nm,hnme⟩ : ∃ nm,nm=(⟨#[63]⟩ : ByteArray)++tx:=⟨_,rfl⟩
   obtain⟨d,hd⟩ : ∃ d,d=(s.toList==((⟨#[63]⟩ : ByteArray)++tx).toList):=⟨_,rfl⟩
   have hd2:d=decide (s=Ux.atomName t):=by
    rw[hd,← hnm,Bool.eq_iff_iff,beq_iff_eq,decide_eq_true_eq,Lib.toList_data,Lib.toList_data]
    exact⟨fun h=>bytes_ext h,fun h=>by rw[h]⟩
   have HB5:=Lib.hid (below_next HB.out hb5)
   have HD:=Lib.hid hd2
   have hdd:=hd.symm
   clear hit hb5 htx hnm hnme hd hd2
   cases d
   ·have HNN:Hid (∀ j,j<t+1→Ux.atomName j≠s):=fun j hj=>by
     by_cases h:j=t
     ·subst h;have:=of_decide_eq_false HD.out.symm;exact fun e=>this e.symm
     ·exact HNO.out j (by omega)
    go_wp2_with fail
    go_roundw
    case rel=>exact⟨t+1,by go_num,by omega,HNN.out,by rw[HNB.out];exact HB5.out⟩
    case measure=>simp[intOf];omega
   ·have HF:Hid (numI s most=(t:Int)):=numI_at hlt (of_decide_eq_true HD.out.symm).symm
    go_wp2_with fail
    go_ret
    exact⟨by rw[HF.out];rfl,HB5.out⟩
  ·have hte:t=most:=by omega
   subst hte
   have HF:Hid (numI s t = -1):=numI_none HNO.out
   go_wp2_with fail
   go_ret
   exact⟨by rw[HF.out];rfl,HB.out⟩
end Go.Proofs.YtmacepicoandkaaGreatDoor
namespace Go.Proofs.YtmacepicoandkaaGreatDoor
open Go.RowKit Go.Shelf Tx
theorem numI_case (s:ByteArray) (most:Nat):(∃ k,k<most∧Ux.numOf s most=some k∧numI s most=(k:Int))∨(Ux.numOf s most=none∧numI s most = -1):=by
 unfold numI
 cases h:Ux.numOf s most with
 | none=>exact Or.inr ⟨rfl,rfl⟩
 | some k=>exact Or.inl ⟨k,(Ux.numOf_some.1 h).1,rfl,rfl⟩
theorem mayA_no {e:List Nd} {most t:Nat} {x:Nd} (hx:e[t]?=some x) (h:Ux.nodeA most x=false):Ux.mayA e most=false:=by
 cases hq:Ux.mayA e most with
 | false=>rfl
 | true =>
  unfold Ux.mayA at hq
  rw[Bool.and_eq_true] at hq
  have h1:=List.all_eq_true.1 hq.2 x (List.mem_of_getElem? hx)
  rw[h] at h1;cases h1
theorem mayA_yes {e:List Nd} {most:Nat} (hm:mayB e=true) (h:∀ (j:Nat) (x:Nd),e[j]?=some x→Ux.nodeA most x=true):Ux.mayA e most=true:=by
 unfold Ux.mayA
 rw[hm,Bool.true_and,List.all_eq_true]
 intro x hx
 obtain⟨j,hj⟩:=List.mem_iff_getElem?.1 hx
 exact h j x hj
set_option maxRecDepth 100000 in
set_option maxHeartbeats 4000000 in
theorem rMayA_any (e:List Nd) (v:Value) (most:Nat) (w:World) (he:e.length≤1000000000) (hm:most≤1000000) (hv:IsE w v e) :
  Calls Tryz.prog 66 #[v,.int .i64 most] w fun r w'=>r=.returned (.bool (Ux.mayA e most))∧Below w.heap.size w w':=by
 have hmay:=rMay_any e v w he hv
 obtain⟨a,c,rfl,hcl,hx⟩:=hv.form
 obtain⟨n,hn⟩ : ∃ n,n=e.length:=⟨_,rfl⟩
 rw[← hn] at hcl he hmay ⊢
 have HN:=Lib.hid hn
 have HX:=Lib.hid hx
 obtain⟨nb,hnb⟩ : ∃ nb,nb=w.heap.size:=⟨_,rfl⟩
 have HNB:=Lib.hid hnb
 clear hn hx hv hnb
 cases hmy:mayB e with
 | false =>
  have HF:Hid (Ux.mayA e most=false):=by unfold Ux.mayA;rw[hmy];rfl
  rw[hmy] at hmay
  clear hmy
  go_enter Tryz.func66,Tryz.ntmps66
  go_wp2_with fail
  refine hmay.mono ?_
  rintro r w1 ⟨rfl,hb1⟩
  clear hmay
  go_wp2_with fail
  go_ret
  exact⟨by rw[HF.out];rfl,hb1⟩
 | true =>
  have HMY:=Lib.hid hmy
  rw[hmy] at hmay
  clear hmy
  go_enter Tryz.func66,Tryz.ntmps66
  go_wp2_with fail
  refine hmay.mono ?_
  rintro r w1 ⟨rfl,hb1⟩
  clear hmay
  have HB1:Hid (Below nb w w1):=by show Below _ _ _;rw[HNB.out];exact hb1
  clear hb1
  go_wp2_with fail
  go_loopw [5] (fun iv wr=>∃ t:Nat,iv=.int .i64 t∧t≤n∧(∀ (j:Nat) (x:Nd),j<t→e[j]?=some x→Ux.nodeA most x=true)∧Below nb w wr) (fun iv _=>n - (intOf iv).toNat)
  case atStart=>exact⟨0,rfl,Nat.zero_le _,fun j x h=>by omega,HB1.out⟩
  case round =>
   obtain⟨t,rfl,ht,hok,hB⟩:=hrel
   have HOK:=Lib.hid hok
   have HB:Hid (Below w.heap.size w wr):=by show Below _ _ _;rw[← HNB.out];exact hB
   clear hok hB
   by_cases hlt:t<n
   ·obtain⟨x,hx⟩ : ∃ x,e[t]?=some x:=⟨_,List.getElem?_eq_getElem (by have:=HN.out;omega)⟩
    obtain⟨b,o,rfl,hcell⟩:=HX.out wr HB.out t x hx
    obtain⟨c0,c1,c2,c3,c4,c5⟩:=nd_cells hcell
    have HXX:=Lib.hid hx
    have htn:(t:Int)<(n:Int):=by omega
    have ht0:(0:Int)≤(t:Int):=by omega
    clear hx hcell c1 c2 c3 c4
    have hlog:=R.rIs_any x.op wr
    obtain⟨L,hL⟩ : ∃ L,L=Ux.isLogic x.op:=⟨_,rfl⟩
    rw[← hL] at hlog
    have HLL:=Lib.hid hL
    clear hL
    obtain⟨q,hq⟩ : ∃ q,q=(x.op != 3):=⟨_,rfl⟩
    have HQ:=Lib.hid hq
    have hqq:=hq.symm
    clear hq
    have HND:Hid (Ux.nodeA most x=(L || (!q&&(Ux.numOf x.s most).isSome))):=by
     show _=_
     unfold Ux.nodeA;rw[HLL.out,HQ.out];simp only[bne,Bool.not_not]
    have HOKS:Hid (Ux.nodeA most x=true→∀ (j:Nat) (y:Nd),j<t+1→e[j]?=some y→Ux.nodeA most y=true):=fun h0 j y hj hy=>by
     by_cases h:j=t
     ·subst h;rw[HXX.out] at hy;cases hy;exact h0
     ·exact HOK.out j y (by omega) hy
    cases L
    ·cases q
     ·have hnum:=Number_any x.s most hm wr
      rcases numI_case x.s most with ⟨k,hk,h1,h2⟩ | ⟨h1,h2⟩
      ·rw[h2] at hnum
       have HT:Hid (Ux.nodeA most x=true):=by show _=_;rw[HND.out,h1];rfl
       have HO2:=Lib.hid (HOKS.out HT.out)
       have hk0:¬ ((k:Int)<0):=by omega
       clear h1 h2
       go_wp2_with fail
       refine hlog.mono ?_
       rintro r w3 ⟨rfl,rfl⟩
       go_wp2_with fail
       refine hnum.mono ?_
       rintro r w4 ⟨rfl,hb4⟩
       have HB4:=Lib.hid (below_next HB.out hb4)
       clear hb4 hnum hlog
       go_wp2_with fail
       go_roundw
       case rel=>exact⟨t+1,by go_num,by omega,HO2.out,by rw[HNB.out];exact HB4.out⟩
       case measure=>simp[intOf];omega
      ·rw[h2] at hnum
       have HF:Hid (Ux.mayA e most=false):=mayA_no HXX.out (by rw[HND.out,h1];rfl)
       clear h1 h2
       go_wp2_with fail
       refine hlog.mono ?_
       rintro r w3 ⟨rfl,rfl⟩
       go_wp2_with fail
       refine hnum.mono ?_
       rintro r w4 ⟨rfl,hb4⟩
       have HB4:=Lib.hid (below_next HB.out hb4)
       clear hb4 hnum hlog
       go_wp2_with fail
       go_ret
       exact⟨by rw[HF.out];rfl,HB4.out⟩
     ·have HF:Hid (Ux.mayA e most=false):=mayA_no HXX.out (by rw[HND.out];rfl)
      go_wp2_with fail
      refine hlog.mono ?_
      rintro r w3 ⟨rfl,rfl⟩
      go_wp2_with fail
      go_ret
      exact⟨by rw[HF.out];rfl,HB.out⟩
    ·have HT:Hid (Ux.nodeA most x=true):=by show _=_;rw[HND.out];rfl
     have HO2:=Lib.hid (HOKS.out HT.out)
     go_wp2_with fail
     refine hlog.mono ?_
     rintro r w3 ⟨rfl,rfl⟩
     go_wp2_with fail
     go_roundw
     case rel=>exact⟨t+1,by go_num,by omega,HO2.out,by rw[HNB.out];exact HB.out⟩
     case measure=>simp[intOf];omega
   ·have hte:t=n:=by omega
    subst hte
    have HT:Hid (Ux.mayA e most=true):=mayA_yes HMY.out fun j x hj=>HOK.out j x (by have:=(List.getElem?_eq_some_iff.1 hj).1;have:=HN.out;omega) hj
    go_wp2_with fail
    go_ret
    exact⟨by rw[HT.out];rfl,HB.out⟩
end Go.Proofs.YtmacepicoandkaaGreatDoor
