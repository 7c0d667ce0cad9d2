/- The evaluator: append and copy. -/
import Derived.Test.YtdmelebgdaiinaaGreatDoorJ9
set_option linter.unusedVariables false
set_option linter.unusedSimpArgs false
set_option linter.unusedVariables false
set_option linter.unusedSimpArgs false
namespace Go.Proofs.YtdmelebgdaiinaaGreatDoor.Ev
structure News (P:Program) (w:World) (ts:Array TypeId) (t el:TypeId) (i:TypeInfo) (zu:Value) (x:Value) (m:Nat) (news:Array Value):Prop where
 t0:ts[0]?=some t
 hu:P.underlying t=some (.slice el)
 hi:P.info? el=some i
 hz:i.zero=some zu
 by_:i.bytes≤4096
 sz:0<i.size
 what:(∃ u k k',ts[1]?=some u∧P.underlying u=some (.int k)∧x=.int k' (m:Int)∧m≤100000∧news=(if m * i.size=0 then #[] else Builtin.zeroCells zu.cells m)) ∨
  (∃ u e A c,ts[1]?=some u∧P.underlying u=some (.slice e)∧x=.slice A m c∧∀ w',w'.heap=w.heap→(Builtin.firstCells i.size m x).run P w'=.ok news w')
section
variable {P : Program} {w : World} {ts : Array TypeId} {t el : TypeId} {i : TypeInfo} {zu x : Value} {m : Nat} {news : Array Value}
theorem append_room (h:News P w ts t el i zu x m news) (ty:TypeId) (base:Option Addr) (sLen sCap:Nat) (hle:sLen+m≤sCap) {w':World}
  (hst:(match base with | some A=>storeCells (A.add (sLen * i.size)) news.toList | none=>pure ():Sem Unit).run P w=.ok () w') :
  (Builtin.append_ ts ty #[.slice base sLen sCap,x]).run P w=.ok (.slice base (sLen+m) sCap) w':=by
 rcases h.what with ⟨u,k,k',u1,u2,rfl,u3,u4⟩ | ⟨u,e,A,c,u1,u2,rfl,u3⟩
 ·have hw:=wrap_nat m u3
  have c1:¬ ((m:Int)<0):=by omega
  have c2:¬ ((m:Int) * (i.bytes:Int) > 2 ^ 48):=by
   have h1:m * i.bytes≤100000 * 4096:=Nat.mul_le_mul u3 h.by_
   have:((m * i.bytes:Nat):Int)≤409600000:=by omega
   rw[Int.natCast_mul] at this
   omega
  simp only[Builtin.append_,h.t0,u1,List.getElem?_toArray,List.getElem?_cons_zero,List.getElem?_cons_succ,Sem.run_bind,run_underlying h.hu,Result.andThen_ok,run_size h.hi,run_underlying u2,Sem.run_pure,if_true,Go.asInt,asIntOf,hw,
   typeInfo,run_program,h.hi,Int.toNat_natCast,Sem.run_ite,if_neg c1,if_neg c2,if_pos hle]
  cases base with
  | none =>
   simp only[Sem.run_pure] at hst
   injection hst with _ hst;subst hst
   simp[run_zero h.hi h.hz]
  | some A =>
   simp only[] at hst
   subst u4
   by_cases h0:m * i.size=0
   ·rw[if_pos h0] at hst
    simp[h0,hst]
   ·rw[if_neg h0] at hst
    simp[h0,run_zero h.hi h.hz,hst]
 ·simp only[Builtin.append_,h.t0,u1,List.getElem?_toArray,List.getElem?_cons_zero,List.getElem?_cons_succ,Sem.run_bind,run_underlying h.hu,Result.andThen_ok,run_size h.hi,run_underlying u2,Sem.run_pure,Bool.false_eq_true,if_false,
   Builtin.lenOf,Sem.run_ite,if_pos hle,Bool.not_false,if_true,u3 w rfl]
  cases base with
  | none =>
   simp only[Sem.run_pure] at hst
   injection hst with _ hst;subst hst
   simp[u3 w rfl]
  | some A=>simp only[] at hst;simp[u3 w rfl,hst]
theorem append_grow (h:News P w ts t el i zu x m news) (ty:TypeId) (base:Option Addr) (sLen sCap:Nat) (hlt:sCap<sLen+m) (hb:sLen+m≤1000000) {olds:Array Value}
  (hold:(Builtin.firstCells i.size sLen (.slice base sLen sCap)).run P w.drew=.ok olds w.drew) :
  ∃ C,sLen+m≤C∧(Builtin.append_ ts ty #[.slice base sLen sCap,x]).run P w =
   .ok (.slice (some ⟨w.heap.size,0,none⟩) (sLen+m) C) (w.drew.alloc (.cells (olds++news++Builtin.zeroCells zu.cells (C - (sLen+m))) el)):=by
 have hby:=h.by_
 have hnl:¬ (sLen+m≤sCap):=by omega
 have hmul:(sLen+m) * i.bytes≤140737488355328:=by
  have:=Nat.mul_le_mul hb hby
  omega
 have hfit:=growslice_fits hlt hmul
 have hfit':¬ (Builtin.nextslicecap (sLen+m) sCap * i.bytes > 2 ^ 48):=by omega
 have hmax:¬ (((sLen+m:Nat):Int) > IntKind.i64.max∧(True∨i.bytes=0)):=by
  intro hh
  have h1:((sLen+m:Nat):Int) > 9223372036854775807:=hh.1
  omega
 refine⟨grownCap w (sLen+m) sCap el,grownCap_ge _ _ _ _,?_⟩
 have h63':¬ (9223372036854775807<((sLen:Int)+(m:Int))):=by omega
 have h48':¬ (281474976710656<Builtin.nextslicecap (sLen+m) sCap * i.bytes):=by omega
 have hdr:({ w with drawn:=w.drawn+1 } : World)=w.drew:=rfl
 rcases h.what with ⟨u,k,k',u1,u2,rfl,u3,u4⟩ | ⟨u,e,A,c,u1,u2,rfl,u3⟩
 ·have hw:=wrap_nat m u3
  have c1:¬ ((m:Int)<0):=by omega
  have c2:¬ (281474976710656<(m:Int) * (i.bytes:Int)):=by
   have h1:m * i.bytes≤100000 * 4096:=Nat.mul_le_mul u3 h.by_
   have:((m * i.bytes:Nat):Int)≤409600000:=by omega
   rw[Int.natCast_mul] at this
   omega
  by_cases h0:m * i.size=0
  ·rw[if_pos h0] at u4
   subst u4
   have hm0:m=0:=by
    rcases Nat.mul_eq_zero.1 h0 with h1 | h1
    ·exact h1
    ·have:=h.sz;omega
   subst hm0
   simp only[Nat.add_zero] at hlt hb hnl h63' h48' ⊢
   have h63'':¬ (9223372036854775807<(sLen:Int)):=by omega
   simp[Builtin.append_,h.t0,u1,run_underlying h.hu,run_size h.hi,run_underlying u2,Go.asInt,asIntOf,c2,typeInfo,h.hi,hnl,h63'',h48',Question.forced,hdr,hold,run_zero h.hi h.hz,newRow,grownCap,show IntKind.i64.wrap 0=0 from rfl]
  ·rw[if_neg h0] at u4
   subst u4
   have hm0:m≠0:=fun e=>h0 (by rw[e,Nat.zero_mul])
   have hs0:i.size≠0:=by have:=h.sz;omega
   simp[Builtin.append_,h.t0,u1,run_underlying h.hu,run_size h.hi,run_underlying u2,Go.asInt,asIntOf,hw,c2,typeInfo,h.hi,hnl,h63',h48',Question.forced,hm0,hs0,h0,c1,hdr,hold,run_zero h.hi h.hz,newRow,grownCap]
   try rfl
 ·simp[Builtin.append_,h.t0,u1,run_underlying h.hu,run_size h.hi,run_underlying u2,Builtin.lenOf,typeInfo,h.hi,hnl,h63',h48',Question.forced,hdr,hold,u3 w.drew rfl,run_zero h.hi h.hz,newRow,grownCap]
end
end Go.Proofs.YtdmelebgdaiinaaGreatDoor.Ev
