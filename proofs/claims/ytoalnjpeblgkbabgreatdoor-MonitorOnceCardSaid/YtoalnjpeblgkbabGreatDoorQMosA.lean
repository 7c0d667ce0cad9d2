/- What the law of MosA needs of its own. -/
import Derived.Orders
import Derived.Tactics
import Derived.Laws.IdiomCopy
import Derived.Laws.Cells
import Derived.Below
import Derived.Laws.Entries
import Derived.Laws.Strings
import Derived.Laws.StructEq
import Derived.Laws.RangeString
import Derived.Laws.Runes
import Derived.Laws.Append
import Derived.KernelRfl
import Derived.Test.YtoalnjpeblgkbabGreatDoorChecked
import Derived.Recover
import Derived.Test.YtoalnjpeblgkbabGreatDoorProg
import Derived.WalkKit
import Derived.WalkSpells
import Derived.Deep.Onto
import Derived.Deep.AppendLies
import Derived.Deep.Draws
import Derived.OwnWalk
import Derived.Shelf.Abstract
import Derived.Lib.Strings
import Derived.WalkLawsBesides
import Derived.Outline
import Derived.Laws.EntriesVeiled
import Derived.Deep.RegionHeld3
import Derived.Deep.QuietTactic
import Derived.BigQuiet
import Derived.StillTailTactics
import Derived.Laws.OwnMore
import Derived.Lib.SliceRun
import Derived.Lib.Walk
import Derived.Lib.Hide
import Derived.IntWalk
import Derived.Deep.Cut
import Derived.Deep.RegionLawGrows
import Derived.Test.YtoalnjpeblgkbabGreatDoorRows
import Derived.ProofKit
import Derived.OpenShut
import Derived.Lib.SmallJoins
import Derived.Deep.Slices
import Derived.Deep.Matrix
import Derived.ChangeSlices
import Derived.Test.YtoalnjpeblgkbabGreatDoorTie
import Derived.Lib.LaidU8
import Derived.SliceStrings
import Derived.LaidLaws
import Derived.HandedShaped
import Derived.Lay
import Derived.SevenTiedAt
import Derived.Test.YtoalnjpeblgkbabGreatDoorJ1
import Derived.Test.YtoalnjpeblgkbabGreatDoorJ2
import Derived.Test.YtoalnjpeblgkbabGreatDoorJ3
import Derived.Test.YtoalnjpeblgkbabGreatDoorJ4
import Derived.Test.YtoalnjpeblgkbabGreatDoorJ5
import Derived.Test.YtoalnjpeblgkbabGreatDoorJ6
import Derived.Test.YtoalnjpeblgkbabGreatDoorJ7
import Derived.Test.YtoalnjpeblgkbabGreatDoorJ8
import Derived.Test.YtoalnjpeblgkbabGreatDoorJ9
import Derived.Test.YtoalnjpeblgkbabGreatDoorJ10
import Derived.Test.YtoalnjpeblgkbabGreatDoorJ11
import Derived.Test.YtoalnjpeblgkbabGreatDoorJ12
import Derived.Test.YtoalnjpeblgkbabGreatDoorJ13
import Derived.Test.YtoalnjpeblgkbabGreatDoorJ14
import Derived.Test.YtoalnjpeblgkbabGreatDoorJ15
import Derived.Test.YtoalnjpeblgkbabGreatDoorJ16
import Derived.Test.YtoalnjpeblgkbabGreatDoorJ17
import Derived.Test.YtoalnjpeblgkbabGreatDoorJ18
import Derived.Test.YtoalnjpeblgkbabGreatDoorJ19
import Derived.Test.YtoalnjpeblgkbabGreatDoorJ20
import Derived.Test.YtoalnjpeblgkbabGreatDoorJ21
import Derived.Test.YtoalnjpeblgkbabGreatDoorJ22
import Derived.Test.YtoalnjpeblgkbabGreatDoorJ23
import Derived.Test.YtoalnjpeblgkbabGreatDoorJ24
import Derived.Test.YtoalnjpeblgkbabGreatDoorJ25
import Derived.Test.YtoalnjpeblgkbabGreatDoorJ26
import Derived.Test.YtoalnjpeblgkbabGreatDoorJ27
import Derived.Test.YtoalnjpeblgkbabGreatDoorJ28
import Derived.Test.YtoalnjpeblgkbabGreatDoorJ29
import Derived.Test.YtoalnjpeblgkbabGreatDoorJ30
import Derived.Test.YtoalnjpeblgkbabGreatDoorJ31
import Derived.Test.YtoalnjpeblgkbabGreatDoorJ32
import Derived.Test.YtoalnjpeblgkbabGreatDoorJ33
import Derived.Test.YtoalnjpeblgkbabGreatDoorJ34
import Derived.Test.YtoalnjpeblgkbabGreatDoorJ35
import Derived.Test.YtoalnjpeblgkbabGreatDoorJ36
import Derived.Test.YtoalnjpeblgkbabGreatDoorJ37
import Derived.Test.YtoalnjpeblgkbabGreatDoorJ38
import Derived.Test.YtoalnjpeblgkbabGreatDoorJ39
import Derived.Test.YtoalnjpeblgkbabGreatDoorJ40
set_option linter.unusedVariables false
set_option linter.unusedSimpArgs false
namespace Go.Proofs.YtoalnjpeblgkbabGreatDoor
theorem failedTo_zero (l:List Chk) (fs:List Int) (row:List Int):failedTo l fs row 0=[]:=rfl
end Go.Proofs.YtoalnjpeblgkbabGreatDoor
namespace Go.Proofs.YtoalnjpeblgkbabGreatDoor
def addOne (L:List Int) (x:Int):List Int:=L.set x.toNat (L.getD x.toNat 0+1)
def addAll (L F:List Int):List Int:=F.foldl addOne L
theorem addOne_len (L:List Int) (x:Int):(addOne L x).length=L.length:=by simp[addOne]
theorem addAll_len:∀ (F L:List Int),(addAll L F).length=L.length
 | [],L=>rfl
 | x :: F,L=>(addAll_len F (addOne L x)).trans (addOne_len L x)
theorem addAll_snoc (L F:List Int) (x:Int):addAll L (F++[x])=addOne (addAll L F) x:=by simp[addAll]
theorem addOne_bound {L:List Int} {B:Int} (h:∀ e∈L,0≤e∧e≤B) (x:Int):∀ e∈addOne L x,0≤e∧e≤B+1:=by
 intro e he
 unfold addOne at he
 rcases List.mem_or_eq_of_mem_set he with he | he
 ·have:=h e he;omega
 ·subst he
  by_cases hx:x.toNat<L.length
  ·have:=h _ (List.getElem_mem hx)
   rw[List.getD_eq_getElem?_getD,List.getElem?_eq_getElem hx]
   simp only[Option.getD_some];omega
  ·have h0:L.set x.toNat (L.getD x.toNat 0+1)=L:=List.set_eq_of_length_le (by omega)
   rw[h0] at he
   have:=h _ he;omega
theorem addAll_bound:∀ (F L:List Int) (B:Int),(∀ e∈L,0≤e∧e≤B)→∀ e∈addAll L F,0≤e∧e≤B+F.length
 | [],L,B,h=>by intro e he;have:=h e he;simpa using this
 | x :: F,L,B,h=>by
  intro e he
  have:=addAll_bound F (addOne L x) (B+1) (addOne_bound h x) e he
  simp only[List.length_cons];omega
def plusTo (l:List Chk) (fs:List Int) (row:List Int) (L:List Int) (k:Nat):List Int:=(List.range L.length).map fun i=>if i<k∧newly l fs row i=true then L.getD i 0+1 else L.getD i 0
theorem plusTo_get (l:List Chk) (fs:List Int) (row L:List Int) (k i:Nat) (hi:i<L.length):(plusTo l fs row L k)[i]?=some (if i<k∧newly l fs row i=true then L.getD i 0+1 else L.getD i 0):=by
 unfold plusTo;rw[List.getElem?_map,List.getElem?_range hi];rfl
theorem plusTo_len (l:List Chk) (fs:List Int) (row L:List Int) (k:Nat):(plusTo l fs row L k).length=L.length:=by simp[plusTo]
theorem addAll_failed (l:List Chk) (fs:List Int) (row L:List Int):∀ k,k≤L.length→addAll L (failedTo l fs row k)=plusTo l fs row L k
 | 0,_=>by
  rw[failedTo_zero]
  apply List.ext_getElem?
  intro i
  by_cases hi:i<L.length
  ·rw[plusTo_get _ _ _ _ _ _ hi,if_neg (by omega)]
   show L[i]?=_
   rw[List.getElem?_eq_getElem hi,List.getD_eq_getElem?_getD,List.getElem?_eq_getElem hi];rfl
  ·rw[List.getElem?_eq_none (l:=plusTo l fs row L 0) (by rw[plusTo_len];omega)];exact List.getElem?_eq_none (by show L.length≤i;omega)
 | k+1,hk=>by
  have ih:=addAll_failed l fs row L k (by omega)
  rw[failedTo_succ]
  by_cases h:newly l fs row k=true
  ·rw[if_pos h,addAll_snoc,ih]
   apply List.ext_getElem?
   intro i
   by_cases hi:i<L.length
   ·unfold addOne
    rw[Int.toNat_natCast,List.getElem?_set,plusTo_len,plusTo_get _ _ _ _ _ _ hi,plusTo_get _ _ _ _ _ _ hi]
    by_cases e:k=i
    ·subst e
     rw[if_pos rfl,if_pos hi,if_pos ⟨by omega,h⟩,List.getD_eq_getElem?_getD (l:=plusTo l fs row L k),plusTo_get _ _ _ _ _ _ hi,if_neg (by omega)];rfl
    ·rw[if_neg e]
     congr 1
     have:(i<k+1∧newly l fs row i=true)↔(i<k∧newly l fs row i=true):=by
      constructor <;> rintro ⟨a,b⟩ <;> exact⟨by omega,b⟩
     simp only[this]
   ·rw[List.getElem?_eq_none (by rw[addOne_len,plusTo_len];omega),List.getElem?_eq_none (by rw[plusTo_len];omega)]
  ·rw[if_neg h,List.append_nil,ih]
   apply List.ext_getElem?
   intro i
   by_cases hi:i<L.length
   ·rw[plusTo_get _ _ _ _ _ _ hi,plusTo_get _ _ _ _ _ _ hi]
    congr 1
    by_cases e:i=k
    ·subst e;simp[h]
    ·have:(i<k+1∧newly l fs row i=true)↔(i<k∧newly l fs row i=true):=by
      constructor <;> rintro ⟨a,b⟩ <;> exact⟨by omega,b⟩
     simp only[this]
   ·rw[List.getElem?_eq_none (by rw[plusTo_len];omega),List.getElem?_eq_none (by rw[plusTo_len];omega)]
def toldS (fs:List Int):List Int:=fs.map fun f=>if f = -1 then 0 else 1
theorem toldS_len (fs:List Int):(toldS fs).length=fs.length:=by simp[toldS]
theorem toldS_bound (fs:List Int):∀ e∈toldS fs,0≤e∧e≤1:=by
 intro e he
 obtain⟨f,_,rfl⟩:=List.mem_map.1 he
 split <;> omega
theorem toldS_start (n:Nat):toldS (List.replicate n (-1))=List.replicate n 0:=by simp[toldS]
theorem told_next (l:List Chk) (rows:List (List Int)) (t:Nat) (r:List Int) (hr:rows[t]?=some r):addAll (toldS (firstL l (rows.take t))) (failedTo l (firstL l (rows.take t)) r l.length)=toldS (firstL l (rows.take (t+1))):=by
 rw[addAll_failed _ _ _ _ _ (by rw[toldS_len,firstL_len];exact Nat.le_refl _)]
 have ht:=(List.getElem?_eq_some_iff.1 hr).1
 apply List.ext_getElem?
 intro i
 by_cases hi:i<l.length
 ·have hc:l[i]?=some l[i]:=List.getElem?_eq_getElem hi
  rw[plusTo_get _ _ _ _ _ _ (by rw[toldS_len,firstL_len];exact hi),newly_first l _ r i l[i] hc]
  have e1:(toldS (firstL l (rows.take t))).getD i 0=if firstD l[i].holds (rows.take t) 0 = -1 then 0 else 1:=by
   unfold toldS firstL;rw[List.getD_eq_getElem?_getD,List.getElem?_map,List.getElem?_map,hc];rfl
  have e2:(toldS (firstL l (rows.take (t+1))))[i]?=some (if firstD l[i].holds (rows.take (t+1)) 0 = -1 then 0 else 1):=by
   unfold toldS firstL;rw[List.getElem?_map,List.getElem?_map,hc];rfl
  have e3:rows.take (t+1)=rows.take t++[r]:=by rw[List.take_add_one,hr];rfl
  rw[e1,e2,e3,firstD_snoc]
  congr 1
  by_cases h1:firstD l[i].holds (rows.take t) 0 = -1
  ·rw[if_pos h1,if_pos h1,h1]
   cases holdsB l[i].holds r <;> simp[hi] <;> omega
  ·rw[if_neg h1,if_neg h1,if_neg h1,if_neg (by simp[h1])]
 ·rw[List.getElem?_eq_none (by rw[plusTo_len,toldS_len,firstL_len];omega),List.getElem?_eq_none (by rw[toldS_len,firstL_len];omega)]
theorem failedTo_mem {l:List Chk} {fs row:List Int} {k:Nat} {x:Int} (h:x∈failedTo l fs row k):∃ i:Nat,x=(i:Int)∧i<k:=by
 unfold failedTo at h
 obtain⟨i,hi,rfl⟩:=List.mem_map.1 h
 exact⟨i,rfl,by have:=(List.mem_filter.1 hi).1;simpa using this⟩
theorem once_cases (h:Int) (rows:List (List Int)) (t:Nat) (r:List Int) (hr:rows[t]?=some r) :
  (firstD h (rows.take t) 0≠-1∧firstD h (rows.take (t+1)) 0=firstD h (rows.take t) 0)∨(firstD h (rows.take t) 0 = -1∧firstD h (rows.take (t+1)) 0 = -1)∨(firstD h (rows.take t) 0 = -1∧firstD h (rows.take (t+1)) 0=(t:Int)):=by
 have ht:=(List.getElem?_eq_some_iff.1 hr).1
 have e3:rows.take (t+1)=rows.take t++[r]:=by rw[List.take_add_one,hr];rfl
 rw[e3,firstD_snoc]
 by_cases h1:firstD h (rows.take t) 0 = -1
 ·right
  rw[if_pos h1]
  cases holdsB h r
  ·right;refine⟨h1,?_⟩;simp;omega
  ·left;exact⟨h1,by simp⟩
 ·left;rw[if_neg h1];exact⟨h1,rfl⟩
end Go.Proofs.YtoalnjpeblgkbabGreatDoor
namespace Go.Proofs.YtoalnjpeblgkbabGreatDoor
open Go.RowKit
theorem sln_of {V V':World} {x:Value} {fs:List Int} {M:List Nat} (h:∀ M:List Nat,(∀ i∈M,i<V.heap.size)→SlN intC 1 M V' x fs) (h0:fs≠[]→∀ i∈M,i<V.heap.size):SlN intC 1 M V' x fs:=by
 by_cases e:fs=[]
 ·exact sln_empty (h [] (fun i hi=>by cases hi)).sl e
 ·exact h M (h0 e)
theorem len_ne {α β:Type} {a:List α} {b:List β} (h:a.length=b.length) (ha:a≠[]):b≠[]:=fun e=>ha (List.eq_nil_of_length_eq_zero (by rw[h,e];rfl))
theorem getD_at {l:List Int} {k:Nat} (hk:k<l.length):l[k]?=some (l.getD k 0):=by rw[List.getD_eq_getElem?_getD,List.getElem?_eq_getElem hk];rfl
set_option maxRecDepth 100000 in
set_option maxHeartbeats 4000000 in
theorem monitorOnce_any (l:List Chk) (v:Value) (rows:List (List Int)) (vr:Value) (w:World) (G:GlM w) (hv:Sl chkC 4 w v l) (hr:Sg 1 RwP w vr rows) :
  Calls Tryz.prog 4 #[v,vr] w fun e w'=>e=.returned (.bool true)∧Below w.heap.size w w':=by
 have HG:=Lib.hid G
 clear G
 obtain⟨pa,ca,rfl,hcl,-⟩:=hv.form
 obtain⟨qa,qc,rfl,hql,hqa⟩:=hr.form RwP.keeps
 obtain⟨n,hn⟩ : ∃ n,n=l.length:=⟨_,rfl⟩
 obtain⟨m,hmm⟩ : ∃ m,m=rows.length:=⟨_,rfl⟩
 rw[← hn] at hv hcl ⊢
 rw[← hmm] at hr hql ⊢
 have HN:=Lib.hid hn
 have HM:=Lib.hid hmm
 have HV:=Lib.hid hv
 have HR:=Lib.hid hr
 have HQ:=Lib.hid hqa
 clear hv hr hn hmm hqa
 by_cases hn60:n≤60
 ·by_cases hm30:m≤30
  ·have hown:=Own_any l (by rw[← HN.out];omega) _ w HV.out
   obtain⟨i0,hi,hz0,hz1,hz2⟩:=info_parts (show (Tryz.prog.info? 3).map (fun i=>(i.zero,i.size,i.bytes))=some (some (.int .i64 0),1,8) by kernel_rfl)
   go_enter Tryz.func4,Tryz.ntmps4
   go_wp2_with fail
   refine hown.mono ?_
   rintro e W1 ⟨u,rfl,hb1,hs1⟩
   obtain⟨ua,uc,rfl,-,-⟩:=hs1.form
   have hnew:=New_any l (by rw[← HN.out];exact hn60) _ W1 hs1 (HG.out.below hb1).h4
   rw[← HN.out] at hnew ⊢
   have HB1:=Lib.hid hb1
   clear hown hb1 hs1
   go_wp2_with fail
   refine hnew.mono ?_
   rintro e W2 ⟨b,fb,fo,rfl,hW,hbb,hfb,hb2⟩
   have HB2:=Lib.hid (below_next HB1.out hb2)
   have hbw:w.heap.size≤b:=Nat.le_trans HB1.out.size hbb
   have hfw:w.heap.size≤fb:=Nat.le_trans HB1.out.size hfb
   have hW0:WatchAt W2 [b,fb] b fb fo l (firstL l (rows.take 0)) ((0:Nat):Int):=by rw[List.take_zero,firstL_nil,← HN.out];exact hW
   have HW0:=Lib.hid hW0
   have HBW:=Lib.hid hbw
   have HFW:=Lib.hid hfw
   clear hnew hb2 hW hW0 hbb hfb hbw hfw
   go_wp2_with (at_make;refine wpList_make_full _ rfl _ _ 29 rfl W2.heap.size 3 i0 (.int .i64 0) 1 Tryz.underlying29 hi hz0 hz1 _ _ _ _ n rfl rfl rfl rfl ?_ ?_ ?_ ?_;rotate_right;intro W3 hown3 hgrow3)
   case refine_1=>rw[hz2];omega
   case refine_2=>unfold maxLen;omega
   case refine_3=>exact Nat.le_refl _
   have hb3:Below W2.heap.size W2 W3:=(Below.refl _ _).grown hgrow3 (Nat.le_refl _) (by simp)
   obtain⟨tb,htb⟩ : ∃ tb,tb=W2.heap.size:=⟨_,rfl⟩
   have hT:RegsL W3 tb 0 (.slice (some ⟨tb,0,none⟩) n n) (toldS (firstL l (rows.take 0))):=by
    rw[List.take_zero,firstL_nil,toldS_start,← HN.out]
    simp only[Value.cells,Nat.mul_one,toList_madeCells_one] at hown3
    rw[← htb] at hown3
    refine Or.inr ⟨n,by rw[List.length_replicate],by rw[List.length_replicate];exact Nat.le_refl _,(hown3.lt tb rfl).2,fun i x hi=>?_⟩
    rw[List.getElem?_replicate] at hi
    split at hi
    ·rename_i hin
     cases hi
     have h1:=hown3.cellAt i (by simpa using hin)
     rw[List.getElem?_replicate,if_pos hin] at h1
     rw[Nat.zero_add]
     exact⟨h1,hown3.frozenAt i⟩
    ·cases hi
   have HW3:=Lib.hid ((HW0.out.more (Nat.le_of_eq htb.symm)).below hb3)
   have HB3:=Lib.hid (below_next HB2.out hb3)
   have HT3:=Lib.hid hT
   have HTW:Hid (w.heap.size≤tb):=by show _≤_;rw[htb];exact HB2.out.size
   have HTN:Hid (tb≠b∧(l≠[]→tb≠fb)):=by
    obtain⟨_,_,q1,_,q3⟩:=HW0.out.ex
    have q4:=q1.lt
    refine⟨by omega,fun h0=>?_⟩
    have q5:=q3.lt (fun e=>h0 (by have:=congrArg List.length e;rw[firstL_len] at this;exact List.eq_nil_of_length_eq_zero this))
    omega
   rw[← htb]
   have hn00:((0:Nat):Int)=0:=rfl
   clear hown3 hgrow3 hb3 hT hi hz0 hz1 hz2 htb
   go_wp2_with fail
   go_loopw [7] (fun iv wr=>∃ t:Nat,iv=.int .i64 t∧t≤m∧Below w.heap.size w wr∧WatchAt wr [tb,b,fb] b fb fo l (firstL l (rows.take t)) (t:Int)∧RegsL wr tb 0 (.slice (some ⟨tb,0,none⟩) n n) (toldS (firstL l (rows.take t)))) (fun iv _=>m - (intOf iv).toNat)
   case atStart=>exact⟨0,rfl,Nat.zero_le _,HB3.out,HW3.out,HT3.out⟩
   case round =>
    obtain⟨t,rfl,ht,hB,hW,hT⟩:=hrel
    obtain⟨w1,rfl⟩ : ∃ w1,w1=wr:=⟨_,rfl⟩
    have HB:=Lib.hid hB
    have HW:=Lib.hid hW
    have HT:=Lib.hid hT
    have ht0:(0:Int)≤(t:Int):=by omega
    clear hB hW hT
    by_cases hlt:t<m
    ·obtain⟨r,hr⟩ : ∃ r,rows[t]?=some r:=⟨_,List.getElem?_eq_getElem (by have:=HM.out;omega)⟩
     obtain⟨rb,ro,rcs,rfl,⟨ru,rfl,hru⟩,hrc⟩:=HQ.out w (Below.refl _ _) t r hr
     have hc0:w.cell? ⟨rb,ro+t * 1+0,none⟩=some ru:=hrc 0 _ rfl
     rw[Nat.mul_one,Nat.add_zero] at hc0
     have hrs:SlN intC 1 [b,fb] w ru r:=hru.apart (fun i hi=>by
      simp only[List.mem_cons,List.not_mem_nil,or_false] at hi
      have:=HBW.out;have:=HFW.out
      rcases hi with rfl | rfl <;> omega)
     obtain⟨ra,rc,rfl,-,-⟩:=hru.form
     obtain⟨rn,hrn⟩ : ∃ rn,rn=r.length:=⟨_,rfl⟩
     rw[← hrn] at hc0 hrs
     have hrbw:rb<w.heap.size:=World.block_lt_of_cell? w _ hc0
     have htm:(t:Int)<(m:Int):=by omega
     have HRR:=Lib.hid hr
     have HRS:=Lib.hid hrs
     have hP:=pFirst_any HW.out (by rw[firstL_len,← HN.out];omega)
     clear hru hrc hrs hrn hr
     go_wp2_with fail
     refine hP.mono ?_
     rintro e w2 ⟨av,rfl,hA0,hb2⟩
     have hlts:l≠[]→∀ i ∈ [tb,b,fb],i<w1.heap.size:=fun h0 i hi=>by
      obtain⟨_,_,q1,_,q3⟩:=HW.out.ex
      have q4:=q1.lt
      have q5:=q3.lt (fun e=>h0 (List.eq_nil_of_length_eq_zero (by rw[← firstL_len l (rows.take t),e];rfl)))
      have q6:=HT.out.lt (fun e=>h0 (List.eq_nil_of_length_eq_zero (by rw[← firstL_len l (rows.take t),← toldS_len,e];rfl)))
      simp only[List.mem_cons,List.not_mem_nil,or_false] at hi
      rcases hi with rfl | rfl | rfl <;> assumption
     have hA2:SlN intC 1 [tb,b,fb] w2 av (firstL l (rows.take t)):=sln_of hA0 (fun e=>hlts (len_ne (firstL_len _ _) e))
     have hb2s:=hb2.size
     obtain⟨aa,ac,rfl,-,-⟩:=hA2.form
     rw[firstL_len,← HN.out] at hA2 ⊢
     have hstep:=Step_any (HW.out.below hb2) (by rw[firstL_len]) (by rw[← HN.out];exact hn60) (by omega) r _ (HRS.out.below (below_next HB.out hb2))
     rw[← HN.out] at hstep
     have hc2:w2.cell? ⟨rb,ro+t,none⟩=some (.slice ra rn rc):=((below_next HB.out hb2).cell (p:=⟨rb,ro+t,none⟩) hrbw).trans hc0
     have HA2:=Lib.hid hA2
     have HB2':=Lib.hid (below_next HB.out hb2)
     have HT2:=Lib.hid (HT.out.below hb2)
     have HLTS:Hid (l≠[]→∀ i ∈ [tb,b,fb],i<w2.heap.size):=fun h0 i hi=>Nat.lt_of_lt_of_le (hlts h0 i hi) hb2s
     clear hP hA0 hb2 hA2 hlts hb2s hc0 hrbw
     go_wp2_with fail
     refine hstep.mono ?_
     rintro e w3 ⟨fv,rfl,hF3,hW3,hF0⟩
     rw[stepTo_take HRR.out HN.out] at hW3
     have hbfm:∀ i ∈ [b,fb],i ∈ [tb,b,fb]:=fun i hi=>List.mem_cons_of_mem _ hi
     obtain⟨F,hF⟩ : ∃ F,F=failedTo l (firstL l (rows.take t)) r n:=⟨_,rfl⟩
     have hFl:SlN intC 1 [tb,b,fb] w3 fv (failedTo l (firstL l (rows.take t)) r n):=sln_of hF0 (fun e=>HLTS.out (fun e0=>e (by rw[HN.out,e0];rfl)))
     obtain⟨fa,fc,rfl,-,-⟩:=hFl.form
     rw[← hF] at hFl ⊢
     obtain⟨fn,hfn⟩ : ∃ fn,fn=F.length:=⟨_,rfl⟩
     rw[← hfn] at hFl ⊢
     have HF:=Lib.hid hF
     have HFN:=Lib.hid hfn
     have HFL:=Lib.hid hFl
     have hfnn:fn≤n:=by rw[hfn,hF];exact failedTo_len _ _ _ _
     have HA3:=Lib.hid (HA2.out.fr hF3 hbfm)
     have HT3':Hid (RegsL w3 tb 0 (.slice (some ⟨tb,0,none⟩) n n) (toldS (firstL l (rows.take t)))):=HT2.out.fr hF3 (fun e q=>by
      have h1:=HTN.out
      simp only[List.mem_cons,List.not_mem_nil,or_false] at q
      rcases q with q | q
      ·exact h1.1 q
      ·exact h1.2 (fun e0=>e (by rw[e0];rfl)) q)
     have HB3':Hid (Below w.heap.size w w3):=FrS.below HB2'.out hF3 HB2'.out.size (fun i hi=>by
      simp only[List.mem_cons,List.not_mem_nil,or_false] at hi
      have:=HBW.out;have:=HFW.out
      rcases hi with rfl | rfl <;> omega)
     have HW3':=Lib.hid hW3
     clear hstep hF3 hW3 hF0 hF hfn hFl hbfm hc2
     go_wp2_with fail
     go_loopw [10] (fun kv wr=>∃ j:Nat,kv=.int .i64 j∧j≤fn∧FrS [tb] w3 wr∧RegsL wr tb 0 (.slice (some ⟨tb,0,none⟩) n n) (addAll (toldS (firstL l (rows.take t))) (F.take j))) (fun kv _=>fn - (intOf kv).toNat)
     case atStart=>exact⟨0,rfl,Nat.zero_le _,FrS.refl _ _,HT3'.out⟩
     case round =>
      obtain⟨j,rfl,hj,hFr,hTj⟩:=hrel
      obtain⟨w4,rfl⟩ : ∃ w4,w4=wr:=⟨_,rfl⟩
      have HFr:=Lib.hid hFr
      have HTj:=Lib.hid hTj
      have hj0:(0:Int)≤(j:Int):=by omega
      clear hFr hTj
      by_cases hjn:j<fn
      ·obtain⟨x,hx⟩ : ∃ x,F[j]?=some x:=⟨_,List.getElem?_eq_getElem (by have:=HFN.out;omega)⟩
       obtain⟨i,rfl,hin⟩:=failedTo_mem (by rw[← HF.out];exact List.mem_of_getElem? hx)
       obtain⟨a',c',he,-,hfc⟩:=HFL.out.form
       have e1:fa=a':=by injection he
       rw[← e1] at hfc
       obtain⟨fb',fo',rfl,-,-,hcell⟩:=hfc w4 [tb] HFr.out (fun i hi=>Or.inl (by rw[List.mem_singleton.1 hi];simp)) j _ hx
       have cx:w4.cell? ⟨fb',fo'+j,none⟩=some (.int .i64 i):=by have:=hcell 0 _ rfl;simpa using this
       have hTl:(addAll (toldS (firstL l (rows.take t))) (F.take j)).length=n:=by rw[addAll_len,toldS_len,firstL_len];exact HN.out.symm
       obtain⟨_,_,-,-,-,htc⟩:=HTj.out.form
       obtain⟨vT,hvT⟩ : ∃ vT,vT=(addAll (toldS (firstL l (rows.take t))) (F.take j)).getD i 0:=⟨_,rfl⟩
       have hgt:=getD_at (l:=addAll (toldS (firstL l (rows.take t))) (F.take j)) (k:=i) (by rw[hTl];exact hin)
       rw[← hvT] at hgt
       obtain⟨ct,zt⟩:=htc i vT hgt
       rw[Nat.zero_add] at ct zt
       have hbd:=addAll_bound (F.take j) _ 1 (toldS_bound (firstL l (rows.take t))) vT (List.mem_of_getElem? hgt)
       have hFj:(F.take j).length≤fn:=by rw[List.length_take,HFN.out];omega
       have hwr:wrap64 (vT+1)=vT+1:=by unfold wrap64;omega
       have hin':(i:Int)<(n:Int):=by omega
       have hi0:(0:Int)≤(i:Int):=by omega
       have hjn':(j:Int)<(fn:Int):=by omega
       have HX:=Lib.hid hx
       have HVT:=Lib.hid hvT
       have HWR:=Lib.hid hwr
       clear hx he e1 hfc hcell hTl htc hvT hgt hbd hFj hwr
       go_wp2_with fail
       go_roundw
       case rel =>
        refine⟨j+1,by go_num,by omega,HFr.out.setCell (Or.inl (by simp)) _,?_⟩
        rw[List.take_add_one,HX.out]
        show RegsL _ _ _ _ (addAll _ (_++[_]))
        rw[addAll_snoc]
        unfold addOne
        rw[Int.toNat_natCast,← HVT.out,HWR.out]
        have:=HTj.out.set i (vT+1)
        rw[Nat.zero_add] at this
        exact this
       case measure=>simp[intOf];omega
      ·have hje:j=fn:=by omega
       subst hje
       have hTF:RegsL w4 tb 0 (.slice (some ⟨tb,0,none⟩) n n) (toldS (firstL l (rows.take (t+1)))):=by
        have h1:=HTj.out
        have e5:F.take j=F:=List.take_of_length_le (by rw[HFN.out];exact Nat.le_refl _)
        rw[e5,HF.out] at h1
        have h2:=told_next l rows t r HRR.out
        rw[← HN.out] at h2
        rw[h2] at h1
        exact h1
       have hW4:WatchAt w4 [tb,b,fb] b fb fo l (firstL l (rows.take (t+1))) ((t:Int)+1):=HW3'.out.fr HFr.out (fun i hi=>by rw[List.mem_singleton.1 hi];simp) (fun q=>HTN.out.1 (List.mem_singleton.1 q).symm) (fun e q=>HTN.out.2 (len_ne (firstL_len _ _) e) (List.mem_singleton.1 q).symm)
       have hA4:SlN intC 1 [tb,b,fb] w4 (.slice aa n ac) (firstL l (rows.take t)):=HA3.out.fr HFr.out (fun i hi=>by rw[List.mem_singleton.1 hi];simp)
       have hB4:Below w.heap.size w w4:=FrS.below HB3'.out HFr.out HB3'.out.size (fun i hi=>by rw[List.mem_singleton.1 hi];exact HTW.out)
       have hP:=pFirst_any hW4 (by rw[firstL_len,← HN.out];omega)
       have HTF:=Lib.hid hTF
       have HW4:=Lib.hid hW4
       have HA4:=Lib.hid hA4
       have HB4:=Lib.hid hB4
       clear hTF hW4 hA4 hB4
       go_wp2_with fail
       refine hP.mono ?_
       rintro e w5 ⟨nv,rfl,hN0,hb5⟩
       have hN5:=(hN0 [] (fun i hi=>by cases hi)).sl
       have hA5:=(HA4.out.below hb5).sl
       have hT5:=HTF.out.below hb5
       obtain⟨na,nc,rfl,-,-⟩:=hN5.form
       rw[firstL_len,← HN.out] at hN5 ⊢
       have HB5:=Lib.hid (below_next HB4.out hb5)
       have HW5:=Lib.hid (HW4.out.below hb5)
       have HN5:=Lib.hid hN5
       have HA5:=Lib.hid hA5
       have HT5:=Lib.hid hT5
       have hnn:((n:Int) != (n:Int))=false:=by simp
       clear hP hN0 hb5 hN5 hA5 hT5
       go_wp2_with fail
       go_loopw [12] (fun kv wr=>∃ k:Nat,kv=.int .i64 k∧k≤n∧∃ q,wr=w5.drewN q) (fun kv _=>n - (intOf kv).toNat)
       case atStart=>exact⟨0,rfl,Nat.zero_le _,0,rfl⟩
       case round =>
        obtain⟨k,rfl,hk,q0,hWq⟩:=hrel
        have HWq:Hid (wr=w5.drewN q0):=hWq
        clear hWq
        have hk0:(0:Int)≤(k:Int):=by omega
        by_cases hkn:k<n
        ·obtain⟨c,hc⟩ : ∃ c,l[k]?=some c:=⟨_,List.getElem?_eq_getElem (by have:=HN.out;omega)⟩
         have hBq:Below w5.heap.size w5 (w5.drewN q0):=below_drawn (Below.refl _ _) _
         have f1:(firstL l (rows.take t))[k]?=some (firstD c.holds (rows.take t) 0):=by unfold firstL;rw[List.getElem?_map,hc];rfl
         have f2:(firstL l (rows.take (t+1)))[k]?=some (firstD c.holds (rows.take (t+1)) 0):=by unfold firstL;rw[List.getElem?_map,hc];rfl
         have f3:(toldS (firstL l (rows.take (t+1))))[k]?=some (if firstD c.holds (rows.take (t+1)) 0 = -1 then 0 else 1):=by unfold toldS;rw[List.getElem?_map,f2];rfl
         obtain⟨a1,c1,he1,-,hfc1⟩:=HA5.out.form
         have e1:aa=a1:=by injection he1
         rw[← e1] at hfc1
         obtain⟨a2,c2,he2,-,hfc2⟩:=HN5.out.form
         have e2:na=a2:=by injection he2
         rw[← e2] at hfc2
         obtain⟨b1,o1,rfl,g1⟩:=hfc1 _ hBq k _ f1
         obtain⟨b2,o2,rfl,g2⟩:=hfc2 _ hBq k _ f2
         obtain⟨_,_,-,-,-,g3⟩:=(HT5.out.drawn q0).form
         obtain⟨ct,-⟩:=g3 k _ f3
         rw[Nat.zero_add] at ct
         have cA:(w5.drewN q0).cell? ⟨b1,o1+k,none⟩=some (.int .i64 (firstD c.holds (rows.take t) 0)):=by have:=g1 0 _ rfl;simpa using this
         have cZ:(w5.drewN q0).cell? ⟨b2,o2+k,none⟩=some (.int .i64 (firstD c.holds (rows.take (t+1)) 0)):=by have:=g2 0 _ rfl;simpa using this
         have hkn':(k:Int)<(n:Int):=by omega
         have h3:=once_cases c.holds rows t r HRR.out
         generalize firstD c.holds (rows.take t) 0=A at cA h3
         generalize firstD c.holds (rows.take (t+1)) 0=Z at cZ ct h3
         rw[← HWq.out] at cA cZ ct
         clear f1 f2 f3 he1 hfc1 e1 he2 hfc2 e2 g1 g2 g3 hBq hc
         rcases h3 with ⟨h1,h2⟩ | ⟨h1,h2⟩ | ⟨h1,h2⟩
         ·subst h2
          rw[if_neg h1] at ct
          have x1:(Z != -1)=true:=by simpa using h1
          have x2:(Z == -1)=false:=by simpa using h1
          have x3:(Z != Z)=false:=by simp
          clear h1
          go_wp2_with fail
          go_quiet (fail)
          go_wp2_with fail
          go_roundw
          case rel=>exact⟨k+1,by go_num,by omega,_,by rw[HWq.out,World.drewN_drewN]⟩
          case measure=>simp[intOf];omega
         ·subst h1 h2
          rw[if_pos rfl] at ct
          go_wp2_with fail
          go_quiet (fail)
          go_wp2_with fail
          go_roundw
          case rel=>exact⟨k+1,by go_num,by omega,_,by rw[HWq.out,World.drewN_drewN]⟩
          case measure=>simp[intOf];omega
         ·subst h1 h2
          rw[if_neg (by omega)] at ct
          have x1:((t:Int) != -1)=true:=by simp only[bne_iff_ne,ne_eq];omega
          have x3:((t:Int) != (t:Int))=false:=by simp
          go_wp2_with fail
          go_quiet (fail)
          go_wp2_with fail
          go_roundw
          case rel=>exact⟨k+1,by go_num,by omega,_,by rw[HWq.out,World.drewN_drewN]⟩
          case measure=>simp[intOf];omega
        ·have hke:k=n:=by omega
         subst hke
         go_wp2_with fail
         go_roundw
         case rel=>exact⟨t+1,by go_num,by omega,by rw[HWq.out];exact below_drawn HB5.out _,by rw[HWq.out];exact HW5.out.drawn q0,by rw[HWq.out];exact HT5.out.drawn q0⟩
         case measure=>simp[intOf];omega
    ·have hte:t=m:=by omega
     subst hte
     clear HW3 HW0 HT3
     go_wp2_with fail
     refine (live_any (HG.out.below HB.out)).mono ?_
     rintro e w7 ⟨rfl,hb7⟩
     have HB7:=Lib.hid (below_next HB.out hb7)
     clear hb7
     go_wp2_with fail
     go_ret
     exact⟨rfl,HB7.out⟩
  ·go_enter Tryz.func4,Tryz.ntmps4
   go_wp2_with fail
   refine (live_any HG.out).mono ?_
   rintro e w7 ⟨rfl,hb7⟩
   have HB7:=Lib.hid hb7
   clear hb7
   go_wp2_with fail
   go_ret
   exact⟨rfl,HB7.out⟩
 ·go_enter Tryz.func4,Tryz.ntmps4
  go_wp2_with fail
  refine (live_any HG.out).mono ?_
  rintro e w7 ⟨rfl,hb7⟩
  have HB7:=Lib.hid hb7
  clear hb7
  go_wp2_with fail
  go_ret
  exact⟨rfl,HB7.out⟩
end Go.Proofs.YtoalnjpeblgkbabGreatDoor
