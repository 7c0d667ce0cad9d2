/- Machine: a copy: the walk. slices.Clone of instructions: the walk. (Printed.) Machine: what may be asked of the laws: the walks. -/
import Derived.Test.YtdmelebgdaiinaaGreatDoorJ5
import Derived.Test.YtdmelebgdaiinaaGreatDoorJ24
import Derived.Test.YtdmelebgdaiinaaGreatDoorJ39
set_option linter.unusedVariables false
set_option linter.unusedSimpArgs false
namespace Go.Proofs.YtdmelebgdaiinaaGreatDoor
open Go.RowKit
set_option maxRecDepth 100000
theorem MachAt.more {w:World} {M M':List Nat} {mb rb:Nat} {c:Cx.Co} {m:Cx.Ms} (h:MachAt w M mb rb c m) (h1:∀ i∈M,i∈M') (h2:∀ i∈M',i∈M∨w.heap.size≤i):MachAt w M' mb rb c m:=by
 obtain⟨vi,vo,vn,vr,vs,r,k1,k2,k3,k4,k5,k6,k7⟩:=h.ex
 exact⟨⟨vi,vo,vn,vr,vs,r,k1,k2.more h2,k3.more h2,k4.more h2,k5,k6,k7.more h2⟩,h1 _ h.hb,h1 _ h.hr,h.ne⟩
end Go.Proofs.YtdmelebgdaiinaaGreatDoor
namespace Go.Proofs.YtdmelebgdaiinaaGreatDoor
open Go.RowKit
theorem rowXM:RowTy Tryz.prog 34 72 6 48:=RowTy.mk' Tryz.underlying34 (z:=.agg #[.int .i64 0,.int .i64 0,.int .i64 0,.int .i64 0,.int .i64 0,.int .i64 0]) (by kernel_rfl) rfl (by decide)
set_option maxRecDepth 100000 in
theorem cloneX_any (l:List Cx.In) (v:Value) (w:World) (hv:Sl Cx.inL 6 w v l) (hl:l.length≤1000000) :
  Calls Tryz.prog 25 #[v] w fun e w'=>∃ u,e=.returned u∧w'.ownsRow w.heap.size 72 6 u l.length (l.flatMap Cx.inL)∧Below w.heap.size w w':=by
 obtain⟨a,c,rfl,hc,hx⟩:=hv.form
 have hq:∀ (w:World) (a:Option Addr) (n c n' c':Nat),(binOp .eql 34 (.slice a n c) (.slice none n' c')).run Tryz.prog w=.ok (.bool a.isNone) w:=fun w a n c n' c'=>Lib.run_eql_slice_nil w _ _ a n c n' c' Tryz.underlying34
 have H1:Hid (∀ (w':World),Below w.heap.size w w'→∀ j u,(l.flatMap Cx.inL)[j]?=some u→∃ ad,a=some ad∧w'.cell? (ad.add j)=some u):=by
  intro w' hw' j u hu
  obtain⟨i,q,x,hi,hq1,hj⟩:=flat_at (k:=6) Cx.inL_len (by decide) l j u hu
  obtain⟨b,o,e,h2⟩:=hx w' hw' i x hi
  exact⟨_,e,by rw[← hj,Addr.add_lit,← Nat.add_assoc];exact h2 q u hq1⟩
 have H2:Hid (a=none→l=[]):=fun e=>by
  show _=_
  cases l with
  | nil=>rfl
  | cons x r=>obtain⟨b,o,e2,_⟩:=hx w (Below.refl _ _) 0 x rfl;rw[e] at e2;cases e2
 have H3:Hid ((l.flatMap Cx.inL).length=l.length * 6):=flatMap_len Cx.inL_len l
 have H4:Hid (∀ u∈l.flatMap Cx.inL,u.oneCell'=true):=by
  intro u hu
  obtain⟨x,_,hx⟩:=List.mem_flatMap.1 hu
  simp only[Cx.inL,List.mem_cons,List.not_mem_nil,or_false] at hx
  rcases hx with rfl | rfl | rfl | rfl | rfl | rfl <;> rfl
 obtain⟨n,hn⟩ : ∃ n,n=l.length:=⟨_,rfl⟩
 rw[← hn] at hc hl H3 ⊢
 clear hx hv
 cases a with
 | none =>
  have hl0:=H2.out rfl
  have hn0:n=0:=by rw[hn,hl0];rfl
  subst hn0
  have HL:=Lib.hid hl0
  clear hn hl0
  go_enter Tryz.func25,Tryz.ntmps25
  go_wp2_with fail
  go_ret
  refine⟨_,rfl,?_,Below.refl _ _⟩
  rw[HL.out]
  exact World.ownsRow_nil _ _ _ _
 | some ad =>
  have HN:=Lib.hid hn
  clear hn
  obtain⟨i0,z,hi,hz,hs1,hby,hzs⟩:=rowXM.ex
  go_enter Tryz.func25,Tryz.ntmps25
  go_wp2_with (at_builtin;refine wpList_append_own _ rfl _ _ 34 rfl w.heap.size 72 i0 z 6 48 Tryz.underlying34 hi hz hs1 hby hzs (by decide) _ _ _ rfl (World.ownsRow_made w #[] 0 (Nat.le_refl _) (Nat.zero_le _) (by simp)) ad n c (l.flatMap Cx.inL) rfl ?qc1 ?qc2 ?qc3 ?qc4 ?qc5 ?qc6 ?_)
  case qc1=>exact H3.out
  case qc2 =>
   intro j u hj
   obtain⟨ad',e,h⟩:=H1.out w (Below.refl _ _) j u hj
   cases e
   exact Lib.cell?_alloc_some _ h
  case qc3=>exact H4.out
  case qc4=>simp[maxLen];omega
  case qc5=>omega
  case qc6=>simp
  intro v' w1 hown hgrow hnil
  go_wp2_with fail
  go_ret
  refine⟨v',rfl,by simpa using hown,?_⟩
  exact ((Below.refl _ w).alloc (Nat.le_refl _) _).grown hgrow (by simp) (by intro k hk;simp[Value.ownBlock] at hk;omega)
end Go.Proofs.YtdmelebgdaiinaaGreatDoor
namespace Go.Proofs.YtdmelebgdaiinaaGreatDoor
open Go.RowKit
set_option maxRecDepth 100000
def smallC (c:Cx.Co):Bool:=decide (c.ins.length≤600)&&decide (c.regs≤300)&&decide (c.slots≤300)&&decide (c.outs.length≤60)&&decide (c.inputs.length≤60)
def smallR (rows:List (List Int)):Bool:=decide (rows.length≤20)&&rows.all fun r=>decide (r.length≤60)
set_option maxHeartbeats 1000000 in
theorem smallC_any (w:World) (c:Cx.Co) (ia oa na:Option Addr) (ic oc nc:Nat) :
  Calls Tryz.prog 8 #[.agg #[.slice ia c.ins.length ic,.int .i64 c.regs,.int .i64 c.slots,.slice oa c.outs.length oc,.slice na c.inputs.length nc]] w fun e w'=>e=.returned (.bool (smallC c))∧Below w.heap.size w w':=by
 have HB0:=Lib.hid ((Below.refl w.heap.size w).alloc (Nat.le_refl _) (.cells #[.slice ia c.ins.length ic,.int .i64 c.regs,.int .i64 c.slots,.slice oa c.outs.length oc,.slice na c.inputs.length nc] 25))
 have HS:Hid (smallC c=(decide (c.ins.length≤600)&&decide (c.regs≤300)&&decide (c.slots≤300)&&decide (c.outs.length≤60)&&decide (c.inputs.length≤60))):=rfl
 generalize smallC c=B at HS ⊢
 obtain⟨n1,hn1⟩ : ∃ n,n=c.ins.length:=⟨_,rfl⟩
 obtain⟨n2,hn2⟩ : ∃ n,n=c.outs.length:=⟨_,rfl⟩
 obtain⟨n3,hn3⟩ : ∃ n,n=c.inputs.length:=⟨_,rfl⟩
 rw[← hn1,← hn2,← hn3] at HS HB0 ⊢
 clear hn1 hn2 hn3
 by_cases a1:n1≤600
 ·by_cases a2:c.regs≤300
  ·by_cases a3:c.slots≤300
   ·by_cases a4:n2≤60
    ·by_cases a5:n3≤60
     all_goals
      go_enter Tryz.func8,Tryz.ntmps8
      go_wp2_with fail
      go_ret
      rw[HS.out]
      exact⟨by simp[a1,a2,a3,a4,a5];omega,HB0.out⟩
    ·go_enter Tryz.func8,Tryz.ntmps8
     go_wp2_with fail
     go_ret
     rw[HS.out]
     exact⟨by simp <;> (intros;omega),HB0.out⟩
   ·go_enter Tryz.func8,Tryz.ntmps8
    go_wp2_with fail
    go_ret
    rw[HS.out]
    exact⟨by simp <;> (intros;omega),HB0.out⟩
  ·go_enter Tryz.func8,Tryz.ntmps8
   go_wp2_with fail
   go_ret
   rw[HS.out]
   exact⟨by simp <;> (intros;omega),HB0.out⟩
 ·go_enter Tryz.func8,Tryz.ntmps8
  go_wp2_with fail
  go_ret
  rw[HS.out]
  exact⟨by simp <;> (intros;omega),HB0.out⟩
set_option maxHeartbeats 1000000 in
theorem smallR_any (w:World) (rows:List (List Int)) (vr:Value) (hr:Sg 1 RwP w vr rows) :
  Calls Tryz.prog 9 #[.slice none 0 0,vr] w fun e w'=>e=.returned (.bool (smallR rows))∧w'=w:=by
 obtain⟨ra,rc,rfl,hrc,hrx⟩:=hr.form RwP.keeps
 have HRX:=Lib.hid hrx
 clear hr hrx
 have HS:Hid (smallR rows=(decide (rows.length≤20)&&rows.all fun r=>decide (r.length≤60))):=rfl
 generalize smallR rows=B at HS ⊢
 by_cases a1:rows.length≤20
 ·go_enter Tryz.func9,Tryz.ntmps9
  go_wp2_with fail
  go_loopw [5] (fun iv wr=>iv=.int .i64 0∧wr=w) (fun _ _=>0)
  case atStart=>exact⟨rfl,rfl⟩
  case round =>
   obtain⟨rfl,rfl⟩:=hrel
   go_wp2_with fail
   go_loopw [6] (fun iv wr'=>∃ k:Nat,iv=.int .i64 k∧k≤rows.length∧wr'=wr∧(rows.take k).all (fun r=>decide (r.length≤60))=true) (fun iv _=>rows.length - (intOf iv).toNat)
   case atStart=>exact⟨0,rfl,Nat.zero_le _,rfl,rfl⟩
   case round =>
    obtain⟨k,rfl,hk,rfl,hall⟩:=hrel
    by_cases hlt:k<rows.length
    ·obtain⟨r,hr⟩ : ∃ r,rows[k]?=some r:=⟨_,List.getElem?_eq_getElem hlt⟩
     obtain⟨b,o,cs,rfl,⟨u,rfl,hu⟩,hcl⟩:=HRX.out _ (Below.refl _ _) k r hr
     obtain⟨ra',rc',rfl,-,-⟩:=hu.form
     have c0:=hcl 0 _ rfl
     rw[Nat.mul_one,Nat.add_zero] at c0
     have hk0:(0:Int)≤(k:Int):=by omega
     have hkl:(k:Int)<(rows.length:Int):=by omega
     have hall2:(rows.take (k+1)).all (fun r=>decide (r.length≤60))=decide (r.length≤60):=by rw[List.take_add_one,hr];simp[hall]
     have HNO:Hid (¬ r.length≤60→rows.all (fun r=>decide (r.length≤60))=false):=fun q=>by
      show _=_
      rw[List.all_eq_false]
      exact⟨r,List.mem_of_getElem? hr,by simpa using q⟩
     have HALL:=Lib.hid hall2
     generalize r.length=rl at c0 HALL HNO ⊢
     clear hall hall2 hr hcl hu
     by_cases hrl:rl≤60
     ·go_wp2_with fail
      go_roundw
      case rel=>exact⟨k+1,by go_num,by omega,by first | rfl | trivial,by rw[HALL.out];simpa using hrl⟩
      case measure=>simp[intOf];omega
     ·go_wp2_with fail
      go_ret
      rw[HS.out]
      exact⟨by rw[HNO.out hrl];simp,by first | rfl | trivial⟩
    ·have hke:k=rows.length:=by omega
     subst hke
     rw[List.take_length] at hall
     have HALL:=Lib.hid hall
     clear hall
     go_wp2_with fail
     go_ret
     rw[HS.out]
     exact⟨by rw[HALL.out];simpa using a1,by first | rfl | trivial⟩
 ·go_enter Tryz.func9,Tryz.ntmps9
  go_wp2_with fail
  go_ret
  rw[HS.out]
  exact⟨by simp;intros;omega,rfl⟩
end Go.Proofs.YtdmelebgdaiinaaGreatDoor
