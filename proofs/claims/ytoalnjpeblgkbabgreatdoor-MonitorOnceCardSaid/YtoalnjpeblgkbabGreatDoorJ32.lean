/- The walks: the program's holds. slices.Clone: the walks. (Printed.) slices.Clone of checks: the walk. (Printed.) -/
import Derived.Lib.Walk
import Derived.Lib.Hide
import Derived.Lib.SliceRun
import Derived.Test.YtoalnjpeblgkbabGreatDoorJ30
import Derived.Test.YtoalnjpeblgkbabGreatDoorJ31
set_option linter.unusedVariables false
set_option linter.unusedSimpArgs false
namespace Go.Proofs.YtoalnjpeblgkbabGreatDoor
open Go.RowKit
structure Chk where
 kind:Int
 name:ByteArray
 holds:Int
 active:Int
def chkC (c:Chk):List Value:=[.int .i64 c.kind,.string c.name,.int .i64 c.holds,.int .i64 c.active]
theorem chkC_len (c:Chk):(chkC c).length=4:=rfl
set_option maxHeartbeats 400000 in
theorem holds_any (l:List Chk) (i:Nat) (hi:i<l.length) (row:List Int) (vl vr:Value) (w:World) (hl:Sl chkC 4 w vl l) (hr:Sl intC 1 w vr row) :
  Calls Tryz.prog 18 #[vl,.int .i64 i,vr] w fun e w'=>e=.returned (.bool (holdsB l[i].holds row))∧w'=w:=by
 obtain⟨pa,ca,rfl,hcl,hca⟩:=hr.form
 obtain⟨pl,cl,rfl,hcl2,hcal⟩:=hl.form
 clear hr hl
 obtain⟨bl,ol,rfl,hcell2⟩:=hcal w (Below.refl _ _) i l[i] (List.getElem?_eq_getElem hi)
 have hc2:=hcell2 2 (.int .i64 l[i].holds) rfl
 clear hcell2 hcal
 generalize l[i].holds=h at hc2 ⊢
 by_cases h0:(0:Int)≤h
 ·by_cases h1:h<(row.length:Int)
  ·obtain⟨j,rfl⟩:=Int.eq_ofNat_of_zero_le h0
   have hj:j<row.length:=by omega
   obtain⟨bb,oo,rfl,hcell⟩:=hca w (Below.refl _ _) j row[j] (List.getElem?_eq_getElem hj)
   have hc:=hcell 0 (.int .i64 row[j]) rfl
   simp only[Nat.mul_one,Nat.add_zero] at hc
   have hd:holdsB j row = !(row[j]==0):=by simp[holdsB,hj];rfl
   have HD:Hid (_=_):=hd
   clear hd hca hcell
   go_enter Tryz.func18,Tryz.ntmps18
   go_wp2_with fail
   go_ret
   rw[HD.out]
   exact⟨rfl,rfl⟩
  ·have hd:holdsB h row=false:=by simp[holdsB];omega
   rw[hd]
   go_enter Tryz.func18,Tryz.ntmps18
   go_wp2_with fail
   go_ret
   exact⟨rfl,rfl⟩
 ·have hd:holdsB h row=false:=by simp[holdsB];omega
  rw[hd]
  go_enter Tryz.func18,Tryz.ntmps18
  go_wp2_with fail
  go_ret
  exact⟨rfl,rfl⟩
end Go.Proofs.YtoalnjpeblgkbabGreatDoor
namespace Go.Proofs.YtoalnjpeblgkbabGreatDoor
open Go.RowKit
theorem flat_at {α:Type} {enc:α→List Value} {k:Nat} (hk:∀ x,(enc x).length=k) (h0:0<k):∀ (l:List α) (j:Nat) (u:Value),(l.flatMap enc)[j]?=some u→∃ i q x,l[i]?=some x∧(enc x)[q]?=some u∧i * k+q=j
 | [],j,u,h=>by simp at h
 | y :: r,j,u,h=>by
  rw[List.flatMap_cons] at h
  by_cases hj:j<k
  ·rw[List.getElem?_append_left (by rw[hk];exact hj)] at h
   exact⟨0,j,y,rfl,h,by omega⟩
  ·rw[List.getElem?_append_right (by rw[hk];omega),hk] at h
   obtain⟨i,q,x,h1,h2,h3⟩:=flat_at hk h0 r (j - k) u h
   exact⟨i+1,q,x,by simpa using h1,h2,by rw[Nat.add_mul];omega⟩
theorem rowIM:RowTy Tryz.prog 29 3 1 8:=RowTy.mk' (z:=.int .i64 0) Tryz.underlying29 (by kernel_rfl) rfl (by omega)
set_option maxRecDepth 100000 in
theorem cloneI_any (l:List Int) (v:Value) (w:World) (hv:Sl intC 1 w v l) (hl:l.length≤1000000) :
  Calls Tryz.prog 19 #[v] w fun e w'=>∃ u,e=.returned u∧w'.ownsRow w.heap.size 3 1 u l.length (l.flatMap intC)∧Below w.heap.size w w':=by
 obtain⟨a,c,rfl,hc,hx⟩:=hv.form
 have hq:∀ (w:World) (a:Option Addr) (n c n' c':Nat),(binOp .eql 29 (.slice a n c) (.slice none n' c')).run Tryz.prog w=.ok (.bool a.isNone) w:=fun w a n c n' c'=>Lib.run_eql_slice_nil w _ _ a n c n' c' Tryz.underlying29
 have H1:Hid (∀ (w':World),Below w.heap.size w w'→∀ j u,(l.flatMap intC)[j]?=some u→∃ ad,a=some ad∧w'.cell? (ad.add j)=some u):=by
  intro w' hw' j u hu
  obtain⟨i,q,x,hi,hq1,hj⟩:=flat_at (k:=1) intC_len (by decide) l j u hu
  obtain⟨b,o,e,h2⟩:=hx w' hw' i x hi
  exact⟨_,e,by rw[← hj,Addr.add_lit,← Nat.add_assoc];exact h2 q u hq1⟩
 have H2:Hid (a=none→l=[]):=fun e=>by
  show _=_
  cases l with
  | nil=>rfl
  | cons x r=>obtain⟨b,o,e2,_⟩:=hx w (Below.refl _ _) 0 x rfl;rw[e] at e2;cases e2
 have H3:Hid ((l.flatMap intC).length=l.length * 1):=flatMap_len intC_len l
 have H4:Hid (∀ u∈l.flatMap intC,u.oneCell'=true):=by
  intro u hu
  obtain⟨x,_,hx⟩:=List.mem_flatMap.1 hu
  simp[intC] at hx
  simp_all [Value.oneCell']
 obtain⟨n,hn⟩ : ∃ n,n=l.length:=⟨_,rfl⟩
 rw[← hn] at hc hl H3 ⊢
 clear hx hv
 cases a with
 | none =>
  have hl0:=H2.out rfl
  have hn0:n=0:=by rw[hn,hl0];rfl
  subst hn0
  have HL:=Lib.hid hl0
  clear hn hl0
  go_enter Tryz.func19,Tryz.ntmps19
  go_wp2_with fail
  go_ret
  refine⟨_,rfl,?_,Below.refl _ _⟩
  rw[HL.out]
  exact World.ownsRow_nil _ _ _ _
 | some ad =>
  have HN:=Lib.hid hn
  clear hn
  obtain⟨i0,z,hi,hz,hs1,hby,hzs⟩:=rowIM.ex
  go_enter Tryz.func19,Tryz.ntmps19
  go_wp2_with (at_builtin;refine wpList_append_own _ rfl _ _ 29 rfl w.heap.size 3 i0 z 1 8 Tryz.underlying29 hi hz hs1 hby hzs (by decide) _ _ _ rfl (World.ownsRow_made w #[] 0 (Nat.le_refl _) (Nat.zero_le _) (by simp)) ad n c (l.flatMap intC) rfl ?qc1 ?qc2 ?qc3 ?qc4 ?qc5 ?qc6 ?_)
  case qc1=>exact H3.out
  case qc2 =>
   intro j u hj
   obtain⟨ad',e,h⟩:=H1.out w (Below.refl _ _) j u hj
   cases e
   exact Lib.cell?_alloc_some _ h
  case qc3=>exact H4.out
  case qc4=>simp[maxLen];omega
  case qc5=>omega
  case qc6=>simp
  intro v' w1 hown hgrow hnil
  go_wp2_with fail
  go_ret
  refine⟨v',rfl,by simpa using hown,?_⟩
  exact ((Below.refl _ w).alloc (Nat.le_refl _) _).grown hgrow (by simp) (by intro k hk;simp[Value.ownBlock] at hk;omega)
end Go.Proofs.YtoalnjpeblgkbabGreatDoor
namespace Go.Proofs.YtoalnjpeblgkbabGreatDoor
open Go.RowKit
theorem rowC:RowTy Tryz.prog 27 53 4 40:=RowTy.mk' Tryz.underlying27 (z:=.agg #[.int .i64 0,.string ByteArray.empty,.int .i64 0,.int .i64 0]) (by kernel_rfl) rfl (by decide)
set_option maxRecDepth 100000 in
theorem cloneC_any (l:List Chk) (v:Value) (w:World) (hv:Sl chkC 4 w v l) (hl:l.length≤1000000) :
  Calls Tryz.prog 15 #[v] w fun e w'=>∃ u,e=.returned u∧w'.ownsRow w.heap.size 53 4 u l.length (l.flatMap chkC)∧Below w.heap.size w w':=by
 obtain⟨a,c,rfl,hc,hx⟩:=hv.form
 have hq:∀ (w:World) (a:Option Addr) (n c n' c':Nat),(binOp .eql 27 (.slice a n c) (.slice none n' c')).run Tryz.prog w=.ok (.bool a.isNone) w:=fun w a n c n' c'=>Lib.run_eql_slice_nil w _ _ a n c n' c' Tryz.underlying27
 have H1:Hid (∀ (w':World),Below w.heap.size w w'→∀ j u,(l.flatMap chkC)[j]?=some u→∃ ad,a=some ad∧w'.cell? (ad.add j)=some u):=by
  intro w' hw' j u hu
  obtain⟨i,q,x,hi,hq1,hj⟩:=flat_at (k:=4) chkC_len (by decide) l j u hu
  obtain⟨b,o,e,h2⟩:=hx w' hw' i x hi
  exact⟨_,e,by rw[← hj,Addr.add_lit,← Nat.add_assoc];exact h2 q u hq1⟩
 have H2:Hid (a=none→l=[]):=fun e=>by
  show _=_
  cases l with
  | nil=>rfl
  | cons x r=>obtain⟨b,o,e2,_⟩:=hx w (Below.refl _ _) 0 x rfl;rw[e] at e2;cases e2
 have H3:Hid ((l.flatMap chkC).length=l.length * 4):=flatMap_len chkC_len l
 have H4:Hid (∀ u∈l.flatMap chkC,u.oneCell'=true):=by
  intro u hu
  obtain⟨x,_,hx⟩:=List.mem_flatMap.1 hu
  simp only[chkC,List.mem_cons,List.not_mem_nil,or_false] at hx
  rcases hx with rfl | rfl | rfl | rfl <;> rfl
 obtain⟨n,hn⟩ : ∃ n,n=l.length:=⟨_,rfl⟩
 rw[← hn] at hc hl H3 ⊢
 clear hx hv
 cases a with
 | none =>
  have hl0:=H2.out rfl
  have hn0:n=0:=by rw[hn,hl0];rfl
  subst hn0
  have HL:=Lib.hid hl0
  clear hn hl0
  go_enter Tryz.func15,Tryz.ntmps15
  go_wp2_with fail
  go_ret
  refine⟨_,rfl,?_,Below.refl _ _⟩
  rw[HL.out]
  exact World.ownsRow_nil _ _ _ _
 | some ad =>
  have HN:=Lib.hid hn
  clear hn
  obtain⟨i0,z,hi,hz,hs1,hby,hzs⟩:=rowC.ex
  go_enter Tryz.func15,Tryz.ntmps15
  go_wp2_with (at_builtin;refine wpList_append_own _ rfl _ _ 27 rfl w.heap.size 53 i0 z 4 40 Tryz.underlying27 hi hz hs1 hby hzs (by decide) _ _ _ rfl (World.ownsRow_made w #[] 0 (Nat.le_refl _) (Nat.zero_le _) (by simp)) ad n c (l.flatMap chkC) rfl ?qc1 ?qc2 ?qc3 ?qc4 ?qc5 ?qc6 ?_)
  case qc1=>exact H3.out
  case qc2 =>
   intro j u hj
   obtain⟨ad',e,h⟩:=H1.out w (Below.refl _ _) j u hj
   cases e
   exact Lib.cell?_alloc_some _ h
  case qc3=>exact H4.out
  case qc4=>simp[maxLen];omega
  case qc5=>omega
  case qc6=>simp
  intro v' w1 hown hgrow hnil
  go_wp2_with fail
  go_ret
  refine⟨v',rfl,by simpa using hown,?_⟩
  exact ((Below.refl _ w).alloc (Nat.le_refl _) _).grown hgrow (by simp) (by intro k hk;simp[Value.ownBlock] at hk;omega)
end Go.Proofs.YtoalnjpeblgkbabGreatDoor
