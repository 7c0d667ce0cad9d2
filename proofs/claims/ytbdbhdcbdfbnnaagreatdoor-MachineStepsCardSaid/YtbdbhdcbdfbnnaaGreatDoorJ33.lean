/- Machine: the registers that an instruction reads, by the document: the walk. Machine: plain mathematics: registers hold numbers that fit. -/
import Derived.Test.YtbdbhdcbdfbnnaaGreatDoorJ11
import Derived.Test.YtbdbhdcbdfbnnaaGreatDoorJ22
set_option linter.unusedVariables false
set_option linter.unusedSimpArgs false
namespace Go.Proofs.YtbdbhdcbdfbnnaaGreatDoor
open Go.RowKit
theorem new_ints {W w':World} {b:Nat} {l:List Int} (hb:Blk w' b (l.map (Value.int .i64)).toArray 3) {k c:Nat} (hk:k≤l.length) (hc:l.length≤c) (hW:W.heap.size≤b):∀ M:List Nat,(∀ i∈M,i<W.heap.size)→SlN intC 1 M w' (.slice (some ⟨b,0,none⟩) k c) (l.take k):=by
 intro M hM
 refine Or.inr ⟨b,0,c,by rw[List.length_take,Nat.min_eq_left hk],by rw[List.length_take];omega,hb.lt,fun q=>by have:=hM b q;omega,fun i x hi j u hu=>?_⟩
 rw[List.getElem?_take] at hi
 split at hi
 ·cases j with
  | succ j=>simp[intC] at hu
  | zero =>
   simp[intC] at hu;subst hu
   rw[Nat.zero_add,Nat.mul_one,Nat.add_zero]
   exact hb.c (by simp[hi])
 ·cases hi
def ReadsPost (x:Cx.In) (w:World) (e:Ending) (w':World):Prop :=
 ∃ u,e=.returned (.tuple #[u,.bool (decide (0≤Cx.readsN x.op))])∧(∀ M:List Nat,(∀ i∈M,i<w.heap.size)→SlN intC 1 M w' u (Cx.rds x))∧Below w.heap.size w w'
theorem rds_of {x:Cx.In} {k:Nat} (h:Cx.readsN x.op=k):Cx.rds x=[x.a,x.b,x.c].take k:=by unfold Cx.rds;rw[h];rfl
set_option maxRecDepth 100000 in
set_option maxHeartbeats 1000000 in
theorem Reads_any (op d a b c n:Int) (w:World) :
  Calls Tryz.prog 23 #[.agg #[.int .i64 op,.int .i64 d,.int .i64 a,.int .i64 b,.int .i64 c,.int .i64 n]] w (ReadsPost ⟨op,d,a,b,c,n⟩ w):=by
 have HB:=Lib.hid ((Below.refl w.heap.size w).alloc (Nat.le_refl _) (.cells #[.int .i64 op,.int .i64 d,.int .i64 a,.int .i64 b,.int .i64 c,.int .i64 n] 74))
 have hnil:∀ w':World,Below w.heap.size w w'→Cx.readsN op=0→ReadsPost ⟨op,d,a,b,c,n⟩ w (.returned (.tuple #[.slice none 0 0,.bool true])) w':=fun w' hb h0 =>
  ⟨_,by rw[show (decide (0≤Cx.readsN op))=true by rw[h0];rfl],fun M _=>by rw[rds_of (k:=0) h0];exact Or.inl ⟨rfl,_,_,rfl⟩,hb⟩
 by_cases h0:op=3∨op=1∨op=2∨op=21
 ·have hr:Cx.readsN op=0:=by unfold Cx.readsN;rw[if_pos h0]
  have HR:=Lib.hid (hnil _ HB.out hr)
  clear hnil hr
  rcases h0 with rfl | rfl | rfl | rfl
  all_goals
   go_enter Tryz.func23,Tryz.ntmps23
   go_wp2_with fail
   go_ret2
   exact HR.out
 ·by_cases h30:op=30
  ·subst h30
   clear hnil h0
   go_enter Tryz.func23,Tryz.ntmps23
   go_wp2_with fail
   go_ret2
   refine⟨_,rfl,?_,HB.out.alloc HB.out.size _⟩
   rw[rds_of (k:=1) rfl]
   have hk:=Blk.new (w.alloc (.cells #[.int .i64 30,.int .i64 d,.int .i64 a,.int .i64 b,.int .i64 c,.int .i64 n] 74)) #[.int .i64 a] 3
   have h1:=new_ints (W:=w) (l:=[a]) hk (k:=1) (c:=1) (by simp) (by simp) HB.out.size
   simpa using h1
  ·by_cases h19:op=19
   ·subst h19
    clear hnil h0
    go_enter Tryz.func23,Tryz.ntmps23
    go_wp2_with fail
    go_ret2
    refine⟨_,rfl,?_,HB.out.alloc HB.out.size _⟩
    rw[rds_of (k:=2) rfl]
    have hk:=Blk.new (w.alloc (.cells #[.int .i64 19,.int .i64 d,.int .i64 a,.int .i64 b,.int .i64 c,.int .i64 n] 74)) #[.int .i64 a,.int .i64 b] 3
    have h1:=new_ints (W:=w) (l:=[a,b]) hk (k:=2) (c:=2) (by simp) (by simp) HB.out.size
    simpa using h1
   ·have hrd:Cx.readsN op=Cx.opsN op:=by unfold Cx.readsN;rw[if_neg h0,if_neg h30,if_neg h19]
    have e3:(op==3)=false:=by simp;omega
    have e1:(op==1)=false:=by simp;omega
    have e2:(op==2)=false:=by simp;omega
    have e21:(op==21)=false:=by simp;omega
    have e30:(op==30)=false:=by simpa using h30
    have e19:(op==19)=false:=by simpa using h19
    have hO:=fun W=>rOperands_any op W
    have hk:=(Blk.new (w.alloc (.cells #[.int .i64 op,.int .i64 d,.int .i64 a,.int .i64 b,.int .i64 c,.int .i64 n] 74)) #[.int .i64 a,.int .i64 b,.int .i64 c] 3)
    have HN0:=fun k (h3:k≤3)=>new_ints (W:=w) (l:=[a,b,c]) hk (k:=k) (c:=3) (by simpa using h3) (by simp) HB.out.size
    simp only[World.size_alloc] at HN0
    have HN:=Lib.hid HN0
    clear HN0
    have HRD:Hid (Cx.readsN (Cx.In.mk op d a b c n).op=Cx.opsN op):=hrd
    have hcs:=Cx.opsN_cases op
    generalize Cx.opsN op=o at hO HRD hcs
    have hcs2:o=1∨o=2∨o=3∨o = -1:=by omega
    clear hnil h0 h30 h19 hrd hk hcs
    rcases hcs2 with rfl | rfl | rfl | rfl
    all_goals
     go_enter Tryz.func23,Tryz.ntmps23
     go_wp2_with fail
     refine (hO _).mono ?_
     rintro e w1 ⟨rfl,rfl⟩
     go_wp2_with fail
     go_ret2
    ·exact⟨_,by rw[show (decide (0≤Cx.readsN (Cx.In.mk op d a b c n).op))=true by rw[HRD.out];rfl];rfl,by rw[rds_of (k:=1) HRD.out];exact HN.out 1 (by omega),HB.out.alloc HB.out.size _⟩
    ·exact⟨_,by rw[show (decide (0≤Cx.readsN (Cx.In.mk op d a b c n).op))=true by rw[HRD.out];rfl];rfl,by rw[rds_of (k:=2) HRD.out];exact HN.out 2 (by omega),HB.out.alloc HB.out.size _⟩
    ·exact⟨_,by rw[show (decide (0≤Cx.readsN (Cx.In.mk op d a b c n).op))=true by rw[HRD.out];rfl];rfl,by rw[rds_of (k:=3) HRD.out];exact HN.out 3 (by omega),HB.out.alloc HB.out.size _⟩
    ·exact⟨_,by rw[show (decide (0≤Cx.readsN (Cx.In.mk op d a b c n).op))=false by rw[HRD.out];rfl];rfl,fun M _=>by unfold Cx.rds;rw[HRD.out];exact Or.inl ⟨rfl,_,_,rfl⟩,HB.out⟩
end Go.Proofs.YtbdbhdcbdfbnnaaGreatDoor
namespace Go.Proofs.YtbdbhdcbdfbnnaaGreatDoor
namespace Cx
theorem fits_of {n:Int} (h : -2147483648≤n∧n≤2147483647):fits n=true:=by simpa [fits] using h
theorem fits_tr (b:Bool):fits (trI b)=true:=by cases b <;> rfl
theorem fits_ovr (n:Int):fits (ovr n).1=true:=by
 unfold ovr
 split
 ·assumption
 ·rfl
theorem doV_fits {op a b c:Int} (ha:fits a=true) (hb:fits b=true) (hc:fits c=true):fits (doV op a b c).1=true:=by
 unfold doV
 by_cases h4:op=4
 ·rw[if_pos h4]
  exact fits_tr _
 rw[if_neg h4]
 by_cases h5:op=5
 ·rw[if_pos h5]
  exact fits_ovr _
 rw[if_neg h5]
 by_cases h6:op=6
 ·rw[if_pos h6]
  exact fits_tr _
 rw[if_neg h6]
 by_cases h7:op=7
 ·rw[if_pos h7]
  exact fits_tr _
 rw[if_neg h7]
 by_cases h8:op=8
 ·rw[if_pos h8]
  exact fits_tr _
 rw[if_neg h8]
 by_cases h9:op=9
 ·rw[if_pos h9]
  exact fits_tr _
 rw[if_neg h9]
 by_cases h10:op=10
 ·rw[if_pos h10]
  exact fits_tr _
 rw[if_neg h10]
 by_cases h11:op=11
 ·rw[if_pos h11]
  exact fits_tr _
 rw[if_neg h11]
 by_cases h12:op=12
 ·rw[if_pos h12]
  exact fits_tr _
 rw[if_neg h12]
 by_cases h13:op=13
 ·rw[if_pos h13]
  exact fits_tr _
 rw[if_neg h13]
 by_cases h14:op=14
 ·rw[if_pos h14]
  exact fits_ovr _
 rw[if_neg h14]
 by_cases h15:op=15
 ·rw[if_pos h15]
  exact fits_ovr _
 rw[if_neg h15]
 by_cases h16:op=16
 ·rw[if_pos h16]
  exact fits_ovr _
 rw[if_neg h16]
 by_cases h17:op=17
 ·rw[if_pos h17]
  by_cases hb0:b=0
  ·rw[if_pos hb0];rfl
  ·rw[if_neg hb0];exact fits_ovr _
 rw[if_neg h17]
 by_cases h18:op=18
 ·rw[if_pos h18]
  by_cases hb0:b=0
  ·rw[if_pos hb0];rfl
  ·rw[if_neg hb0]
   refine fits_of ?_
   have h1:=fits_lim ha
   have h2:(a.tmod b).natAbs≤a.natAbs:=by rw[Int.natAbs_tmod];exact Nat.mod_le _ _
   show -2147483648≤a.tmod b∧a.tmod b≤2147483647
   rcases Int.le_total 0 a with h0 | h0
   ·have h3:0≤a.tmod b:=Int.tmod_nonneg b h0
    omega
   ·have h4:(-(-a)).tmod b = -((-a).tmod b):=Int.neg_tmod _ _
    rw[Int.neg_neg] at h4
    have h3:0≤(-a).tmod b:=Int.tmod_nonneg b (by omega)
    omega
 rw[if_neg h18]
 by_cases h26:op=26
 ·rw[if_pos h26]
  show fits (if a=0 then c else b)=true
  by_cases ha0:a=0
  ·rw[if_pos ha0];exact hc
  ·rw[if_neg ha0];exact hb
 rw[if_neg h26]
 rfl
theorem ovr_err (n:Int):0≤(ovr n).2:=by
 unfold ovr
 split
 ·exact Int.le_refl _
 ·show (0:Int)≤2;decide
theorem doV_err (op a b c:Int):0≤(doV op a b c).2:=by
 unfold doV
 by_cases h4:op=4
 ·rw[if_pos h4]
  exact Int.le_refl _
 rw[if_neg h4]
 by_cases h5:op=5
 ·rw[if_pos h5]
  exact ovr_err _
 rw[if_neg h5]
 by_cases h6:op=6
 ·rw[if_pos h6]
  exact Int.le_refl _
 rw[if_neg h6]
 by_cases h7:op=7
 ·rw[if_pos h7]
  exact Int.le_refl _
 rw[if_neg h7]
 by_cases h8:op=8
 ·rw[if_pos h8]
  exact Int.le_refl _
 rw[if_neg h8]
 by_cases h9:op=9
 ·rw[if_pos h9]
  exact Int.le_refl _
 rw[if_neg h9]
 by_cases h10:op=10
 ·rw[if_pos h10]
  exact Int.le_refl _
 rw[if_neg h10]
 by_cases h11:op=11
 ·rw[if_pos h11]
  exact Int.le_refl _
 rw[if_neg h11]
 by_cases h12:op=12
 ·rw[if_pos h12]
  exact Int.le_refl _
 rw[if_neg h12]
 by_cases h13:op=13
 ·rw[if_pos h13]
  exact Int.le_refl _
 rw[if_neg h13]
 by_cases h14:op=14
 ·rw[if_pos h14]
  exact ovr_err _
 rw[if_neg h14]
 by_cases h15:op=15
 ·rw[if_pos h15]
  exact ovr_err _
 rw[if_neg h15]
 by_cases h16:op=16
 ·rw[if_pos h16]
  exact ovr_err _
 rw[if_neg h16]
 by_cases h17:op=17
 ·rw[if_pos h17]
  by_cases hb0:b=0
  ·rw[if_pos hb0];decide
  ·rw[if_neg hb0];exact ovr_err _
 rw[if_neg h17]
 by_cases h18:op=18
 ·rw[if_pos h18]
  by_cases hb0:b=0
  ·rw[if_pos hb0];decide
  ·rw[if_neg hb0];exact Int.le_refl _
 rw[if_neg h18]
 by_cases h26:op=26
 ·rw[if_pos h26]
  exact Int.le_refl _
 rw[if_neg h26]
 show (0:Int)≤1;decide
theorem getD_fits {l:List Int} (h:∀ y∈l,fits y=true) (k:Nat):fits (l.getD k 0)=true:=by
 rw[List.getD_eq_getElem?_getD]
 cases e:l[k]? with
 | none=>rfl
 | some x=>exact h x (List.mem_of_getElem? e)
theorem doS_made {op a b c:Int} (ha:fits a=true) (hb:fits b=true) (hc:fits c=true):doS op a b c=doV op a b c:=doS_fits ha hb hc
theorem madeS_fits {x:In} {inp r sl:List Int} {first:Bool} (hi:∀ y∈inp,fits y=true) (hr:∀ y∈r,fits y=true) (hs:∀ y∈sl,fits y=true) (hn:x.op=1∨x.op=2→fits x.n=true):fits (madeS x inp r sl first).1=true:=by
 unfold madeS
 split
 ·exact getD_fits hi _
 ·split
  ·rename_i h;exact hn h
  ·split
   ·exact getD_fits hs _
   ·split
    ·cases first
     ·exact getD_fits hr _
     ·exact getD_fits hr _
    ·have h0:fits 0=true:=rfl
     have h2:fits (if readsN x.op ≥ 2 then r.getD x.b.toNat 0 else 0)=true:=by split;exact getD_fits hr _;rfl
     have h3:fits (if readsN x.op ≥ 3 then r.getD x.c.toNat 0 else 0)=true:=by split;exact getD_fits hr _;rfl
     rw[doS_made (getD_fits hr _) h2 h3]
     exact doV_fits (getD_fits hr _) h2 h3
theorem doS_err (op a b c:Int):0≤(doS op a b c).2:=by
 unfold doS
 split
 ·exact doV_err _ _ _ _
 ·simp
theorem madeS_err (x:In) (inp r sl:List Int) (first:Bool):0≤(madeS x inp r sl first).2:=by
 unfold madeS
 split
 ·simp
 ·split
  ·simp
  ·split
   ·simp
   ·split
    ·simp
    ·exact doS_err _ _ _ _
theorem set_fits {l:List Int} (h:∀ y∈l,fits y=true) {k:Nat} {v:Int} (hv:fits v=true):∀ y∈l.set k v,fits y=true:=by
 intro y hy
 rcases List.mem_or_eq_of_mem_set hy with hy | rfl
 ·exact h y hy
 ·exact hv
structure RsOk (R S:Nat) (s:Rs):Prop where
 r:s.r.length=R
 nx:s.nx.length=S
 rf:∀ y∈s.r,fits y=true
 nf:∀ y∈s.nx,fits y=true
 f:0≤s.f
theorem run1_ok {inp sl:List Int} {first:Bool} {R S:Nat} {s:Rs} {x:In} (h:RsOk R S s) (hi:∀ y∈inp,fits y=true) (hs:∀ y∈sl,fits y=true) (hn:x.op=1∨x.op=2→fits x.n=true):RsOk R S (run1 inp sl first s x):=by
 have hl:=run1_len inp sl first s x
 refine⟨hl.1.trans h.r,hl.2.trans h.nx,?_,?_,?_⟩
 ·unfold run1;split
  ·exact h.rf
  ·exact set_fits h.rf (madeS_fits hi h.rf hs hn)
 ·unfold run1;split
  ·exact set_fits h.nf (getD_fits h.rf _)
  ·exact h.nf
 ·unfold run1;split
  ·exact h.f
  ·exact least_le h.f (madeS_err _ _ _ _ _)
theorem runS_ok {inp sl:List Int} {first:Bool} {R S:Nat} (hi:∀ y∈inp,fits y=true) (hs:∀ y∈sl,fits y=true):∀ {l:List In} {s:Rs},(∀ x∈l,(x.op=1∨x.op=2→fits x.n=true))→RsOk R S s→RsOk R S (runS inp sl first s l)
 | [],_,_,h=>h
 | x :: l,s,hn,h=>by
  have:=runS_ok (first:=first) (l:=l) (s:=run1 inp sl first s x) hi hs (fun y hy=>hn y (List.mem_cons_of_mem _ hy)) (run1_ok h hi hs (hn x List.mem_cons_self))
  exact this
theorem zero_ok {R S:Nat} {sl:List Int} (h:sl.length=S) (hs:∀ y∈sl,fits y=true):RsOk R S ⟨List.replicate R 0,sl,0⟩ :=
 ⟨by simp,h,fun y hy=>by rw[(List.mem_replicate.1 hy).2];rfl,hs,Int.le_refl _⟩
theorem runS_at {inp sl:List Int} {first:Bool} {s:Rs} {l:List In} {t:Nat} {x:In} (h:l[t]?=some x):runS inp sl first s (l.take (t+1))=run1 inp sl first (runS inp sl first s (l.take t)) x:=by
 rw[List.take_add_one,h];exact runS_snoc _ _ _ _ _ _
theorem frame_fits {inputs inp:List Int} (h:frameS inputs inp=true):inp.length=inputs.length∧∀ y∈inp,fits y=true:=by
 unfold frameS at h
 rw[Bool.and_eq_true,decide_eq_true_eq] at h
 refine⟨h.1,fun y hy=>?_⟩
 obtain⟨i,hi⟩:=List.mem_iff_getElem?.1 hy
 have h1:=List.all_eq_true.1 h.2 i (List.mem_range.2 (List.getElem?_eq_some_iff.1 hi).1)
 rw[List.getD_eq_getElem?_getD,hi] at h1
 simp only[Option.getD_some,Bool.and_eq_true] at h1
 exact h1.1
end Cx
end Go.Proofs.YtbdbhdcbdfbnnaaGreatDoor
