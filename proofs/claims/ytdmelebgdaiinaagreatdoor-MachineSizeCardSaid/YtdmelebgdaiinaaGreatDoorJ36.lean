/- Machine: which instructions may be, by the program: the walks. -/
import Derived.Test.YtdmelebgdaiinaaGreatDoorJ6
import Derived.Test.YtdmelebgdaiinaaGreatDoorJ23
set_option linter.unusedVariables false
set_option linter.unusedSimpArgs false
namespace Go.Proofs.YtdmelebgdaiinaaGreatDoor
open Go.RowKit
set_option maxRecDepth 100000
theorem reads_any (op:Int) (w:World):Calls Tryz.prog 54 #[.int .i64 op] w fun e w'=>e=.returned (.int .i64 (Cx.readsN op))∧w'=w:=by
 by_cases h0:op=3∨op=1∨op=2∨op=21
 ·have hr:Cx.readsN op=0:=by unfold Cx.readsN;rw[if_pos h0]
  rw[hr]
  clear hr
  rcases h0 with rfl | rfl | rfl | rfl
  all_goals
   go_enter Tryz.func54,Tryz.ntmps54
   go_wp2_with fail
   go_ret
   exact⟨rfl,rfl⟩
 ·by_cases h30:op=30
  ·subst h30
   clear h0
   go_enter Tryz.func54,Tryz.ntmps54
   go_wp2_with fail
   go_ret
   exact⟨rfl,rfl⟩
  ·by_cases h19:op=19
   ·subst h19
    clear h0 h30
    go_enter Tryz.func54,Tryz.ntmps54
    go_wp2_with fail
    go_ret
    exact⟨rfl,rfl⟩
   ·have hr:Cx.readsN op=Cx.opsN op:=by unfold Cx.readsN;rw[if_neg h0,if_neg h30,if_neg h19]
    have e3:(op==3)=false:=by simp;omega
    have e1:(op==1)=false:=by simp;omega
    have e2:(op==2)=false:=by simp;omega
    have e21:(op==21)=false:=by simp;omega
    have e30:(op==30)=false:=by simp;omega
    have e19:(op==19)=false:=by simp;omega
    rw[hr]
    clear hr h0 h30 h19
    go_enter Tryz.func54,Tryz.ntmps54
    go_wp2_with fail
    refine (pOperands_any op w).mono ?_
    rintro e w1 ⟨rfl,rfl⟩
    go_wp2_with fail
    go_ret
    exact⟨rfl,rfl⟩
theorem ins_fields {P:Program} {t:TypeId} {fs:Array Field} (h:P.underlying t=some (.struct fs)):P.fieldsOf t=fs:=by unfold Program.fieldsOf;rw[h]
theorem insPart0 (x0 x1 x2 x3 x4 x5:Value) (w:World):(part 3 #[x0,x1,x2,x3,x4,x5] 0).run Tryz.prog w=.ok x0 w:=by kernel_rfl
theorem insPart1 (x0 x1 x2 x3 x4 x5:Value) (w:World):(part 3 #[x0,x1,x2,x3,x4,x5] 1).run Tryz.prog w=.ok x1 w:=by kernel_rfl
theorem insPart2 (x0 x1 x2 x3 x4 x5:Value) (w:World):(part 3 #[x0,x1,x2,x3,x4,x5] 2).run Tryz.prog w=.ok x2 w:=by kernel_rfl
theorem insPart3 (x0 x1 x2 x3 x4 x5:Value) (w:World):(part 3 #[x0,x1,x2,x3,x4,x5] 3).run Tryz.prog w=.ok x3 w:=by kernel_rfl
theorem insPart4 (x0 x1 x2 x3 x4 x5:Value) (w:World):(part 3 #[x0,x1,x2,x3,x4,x5] 4).run Tryz.prog w=.ok x4 w:=by kernel_rfl
theorem insPart5 (x0 x1 x2 x3 x4 x5:Value) (w:World):(part 3 #[x0,x1,x2,x3,x4,x5] 5).run Tryz.prog w=.ok x5 w:=by kernel_rfl
theorem insStood:Tryz.prog.stoodInHeld 72=false:=by kernel_rfl
theorem eqIns (x0 x1 x2 x3 x4 x5 y0 y1 y2 y3 y4 y5:Int) (w:World):(Op.equalIn 10000 72 (.agg #[.int .i64 x0,.int .i64 x1,.int .i64 x2,.int .i64 x3,.int .i64 x4,.int .i64 x5]) (.agg #[.int .i64 y0,.int .i64 y1,.int .i64 y2,.int .i64 y3,.int .i64 y4,.int .i64 y5])).run Tryz.prog w=.ok ((x0==y0)&&(x1==y1)&&(x2==y2)&&(x3==y3)&&(x4==y4)&&(x5==y5)) w:=by
 have hu:=Tryz.underlying72
 have hf:=ins_fields Tryz.underlying72
 have hi:∀ (d:Nat) (p q:Int),(Op.equalIn (d+1) 3 (.int .i64 p) (.int .i64 q)).run Tryz.prog w=.ok (p==q) w:=fun d p q=>run_equalIn_int w d _ _ _ p q Tryz.underlying3
 rw[run_equalIn_agg w 9999 _ _ _ (by rw[hf];exact hu) insStood,hf]
 simp only[Op.eqFields]
 cases h0:(x0==y0)
 ·simp[hi,insPart0,insPart1,insPart2,insPart3,insPart4,insPart5,h0,Result.andThen]
 cases h1:(x1==y1)
 ·simp[hi,insPart0,insPart1,insPart2,insPart3,insPart4,insPart5,h0,h1,Result.andThen]
 cases h2:(x2==y2)
 ·simp[hi,insPart0,insPart1,insPart2,insPart3,insPart4,insPart5,h0,h1,h2,Result.andThen]
 cases h3:(x3==y3)
 ·simp[hi,insPart0,insPart1,insPart2,insPart3,insPart4,insPart5,h0,h1,h2,h3,Result.andThen]
 cases h4:(x4==y4)
 ·simp[hi,insPart0,insPart1,insPart2,insPart3,insPart4,insPart5,h0,h1,h2,h3,h4,Result.andThen]
 cases h5:(x5==y5)
 ·simp[hi,insPart0,insPart1,insPart2,insPart3,insPart4,insPart5,h0,h1,h2,h3,h4,h5,Result.andThen]
 simp[hi,insPart0,insPart1,insPart2,insPart3,insPart4,insPart5,h0,h1,h2,h3,h4,h5,Result.andThen]
theorem FrS.toBelow {a b:World} (h:FrS [] a b):Below a.heap.size a b:=⟨h.os,h.tape,h.output,h.size,fun i hi=>h.block i hi (by simp)⟩
def nilF (i:Int) (n a:Int):Int:=if n≤i then 0 else a
theorem restE (op d a b cc n N:Int) (hN:N=Cx.readsN op):Cx.restS ⟨op,d,a,b,cc,n⟩=((a==nilF 0 N a)&&(b==nilF 1 N b)&&(cc==nilF 2 N cc)&&decide (op=30→d=0)):=by
 subst hN
 have h:∀ (i v N:Int),(v==nilF i N v)=decide (N<i+1→v=0):=fun i v N=>by
  rw[Bool.eq_iff_iff]
  simp only[beq_iff_eq,decide_eq_true_eq]
  unfold nilF
  split <;> omega
 rw[h,h,h]
 rfl
theorem plain1 (slots:Int) (ins:Nat) (d a b cc n N:Int) (hN:N=Cx.readsN (1:Int)):Cx.plainS slots ins ⟨(1:Int),d,a,b,cc,n⟩=(decide (0≤N)&&(((1:Int)==(1:Int))&&(d==d)&&(a==nilF 0 N a)&&(b==nilF 1 N b)&&(cc==nilF 2 N cc)&&(n==n))&&Cx.fits n):=by
 unfold Cx.plainS
 rw[restE _ _ _ _ _ _ N hN,← hN]
 unfold Cx.numS
 generalize (a==nilF 0 N a)=A
 generalize (b==nilF 1 N b)=B
 generalize (cc==nilF 2 N cc)=C
 rw[Bool.eq_iff_iff]
 cases A <;> cases B <;> cases C <;> simp <;> omega
theorem plain30 (slots:Int) (ins:Nat) (d a b cc n N:Int) (hN:N=Cx.readsN (30:Int)):Cx.plainS slots ins ⟨(30:Int),d,a,b,cc,n⟩=(decide (0≤N)&&(((30:Int)==(30:Int))&&(d==0)&&(a==nilF 0 N a)&&(b==nilF 1 N b)&&(cc==nilF 2 N cc)&&(n==n))&&decide (0≤n)&&decide (n≤slots - 1)):=by
 unfold Cx.plainS
 rw[restE _ _ _ _ _ _ N hN,← hN]
 unfold Cx.numS
 generalize (a==nilF 0 N a)=A
 generalize (b==nilF 1 N b)=B
 generalize (cc==nilF 2 N cc)=C
 rw[Bool.eq_iff_iff]
 cases A <;> cases B <;> cases C <;> simp <;> omega
theorem plain21 (slots:Int) (ins:Nat) (d a b cc n N:Int) (hN:N=Cx.readsN (21:Int)):Cx.plainS slots ins ⟨(21:Int),d,a,b,cc,n⟩=(decide (0≤N)&&(((21:Int)==(21:Int))&&(d==d)&&(a==nilF 0 N a)&&(b==nilF 1 N b)&&(cc==nilF 2 N cc)&&(n==n))&&decide (0≤n)&&decide (n≤slots - 1)):=by
 unfold Cx.plainS
 rw[restE _ _ _ _ _ _ N hN,← hN]
 unfold Cx.numS
 generalize (a==nilF 0 N a)=A
 generalize (b==nilF 1 N b)=B
 generalize (cc==nilF 2 N cc)=C
 rw[Bool.eq_iff_iff]
 cases A <;> cases B <;> cases C <;> simp <;> omega
theorem plain3 (slots:Int) (ins:Nat) (d a b cc n N:Int) (hN:N=Cx.readsN (3:Int)):Cx.plainS slots ins ⟨(3:Int),d,a,b,cc,n⟩=(decide (0≤N)&&(((3:Int)==(3:Int))&&(d==d)&&(a==nilF 0 N a)&&(b==nilF 1 N b)&&(cc==nilF 2 N cc)&&(n==n))&&decide (0≤n)&&decide (n≤(ins:Int) - 1)):=by
 unfold Cx.plainS
 rw[restE _ _ _ _ _ _ N hN,← hN]
 unfold Cx.numS
 generalize (a==nilF 0 N a)=A
 generalize (b==nilF 1 N b)=B
 generalize (cc==nilF 2 N cc)=C
 rw[Bool.eq_iff_iff]
 cases A <;> cases B <;> cases C <;> simp <;> omega
theorem plain2 (slots:Int) (ins:Nat) (d a b cc n N:Int) (hN:N=Cx.readsN (2:Int)):Cx.plainS slots ins ⟨(2:Int),d,a,b,cc,n⟩=(decide (0≤N)&&(((2:Int)==(2:Int))&&(d==d)&&(a==nilF 0 N a)&&(b==nilF 1 N b)&&(cc==nilF 2 N cc)&&(n==n))&&decide (0≤n)&&decide (n≤1)):=by
 unfold Cx.plainS
 rw[restE _ _ _ _ _ _ N hN,← hN]
 unfold Cx.numS
 generalize (a==nilF 0 N a)=A
 generalize (b==nilF 1 N b)=B
 generalize (cc==nilF 2 N cc)=C
 rw[Bool.eq_iff_iff]
 cases A <;> cases B <;> cases C <;> simp <;> omega
theorem plainO (slots:Int) (ins:Nat) (op:Int) (d a b cc n N:Int) (h1:op≠1) (h2:op≠2) (h3:op≠3) (h21:op≠21) (h30:op≠30) (hN:N=Cx.readsN op):Cx.plainS slots ins ⟨op,d,a,b,cc,n⟩=(decide (0≤N)&&((op==op)&&(d==d)&&(a==nilF 0 N a)&&(b==nilF 1 N b)&&(cc==nilF 2 N cc)&&(n==0))&&decide (0≤n)&&decide (n≤0)):=by
 unfold Cx.plainS
 rw[restE _ _ _ _ _ _ N hN,← hN]
 unfold Cx.numS
 simp only[if_neg h1,if_neg h2,if_neg h3,if_neg (show ¬ (op=21∨op=30) by omega)]
 generalize (a==nilF 0 N a)=A
 generalize (b==nilF 1 N b)=B
 generalize (cc==nilF 2 N cc)=C
 rw[Bool.eq_iff_iff]
 cases A <;> cases B <;> cases C <;> simp <;> omega
set_option maxHeartbeats 2000000 in
theorem isPlain_any (w:World) (c:Cx.Co) (vi vo:Value) (na:Option Addr) (nc:Nat) (x:Cx.In) (hN : -9223372036854775808≤x.n∧x.n≤9223372036854775807) (hs:0≤c.slots∧c.slots≤100000) (hil:c.inputs.length≤1000000) :
  Calls Tryz.prog 53 #[.agg #[vi,.int .i64 c.regs,.int .i64 c.slots,vo,.slice na c.inputs.length nc],.agg #[.int .i64 x.op,.int .i64 x.d,.int .i64 x.a,.int .i64 x.b,.int .i64 x.c,.int .i64 x.n]] w fun e w'=>e=.returned (.bool (Cx.plainS c.slots c.inputs.length x))∧Below w.heap.size w w':=by
 obtain⟨op,d,a,b,cc,n⟩:=x
 go_enter Tryz.func53,Tryz.ntmps53
 go_wp2_with fail
 have k1:=Blk.new w #[vi,.int .i64 c.regs,.int .i64 c.slots,vo,.slice na c.inputs.length nc] 36
 obtain⟨V1,hV1⟩ : ∃ V1,V1=w.alloc (.cells #[vi,.int .i64 c.regs,.int .i64 c.slots,vo,.slice na c.inputs.length nc] 36):=⟨_,rfl⟩
 have s1:V1.heap.size=w.heap.size+1:=by rw[hV1,World.size_alloc]
 have f1:FrS [] w V1:=by rw[hV1];exact (FrS.refl _ _).alloc _
 rw[← hV1] at k1 ⊢
 have k2:=Blk.new V1 #[.int .i64 op,.int .i64 d,.int .i64 a,.int .i64 b,.int .i64 cc,.int .i64 n] 72
 obtain⟨V2,hV2⟩ : ∃ V2,V2=V1.alloc (.cells #[.int .i64 op,.int .i64 d,.int .i64 a,.int .i64 b,.int .i64 cc,.int .i64 n] 72):=⟨_,rfl⟩
 have s2:V2.heap.size=w.heap.size+1+1:=by rw[hV2,World.size_alloc,s1]
 have f2:FrS [] V1 V2:=by rw[hV2];exact (FrS.refl _ _).alloc _
 rw[← hV2] at k2 ⊢
 have k3:=Blk.new V2 #[.int .i64 op,.int .i64 d,.int .i64 a,.int .i64 b,.int .i64 cc,.int .i64 n] 72
 obtain⟨V,hV⟩ : ∃ V,V=V2.alloc (.cells #[.int .i64 op,.int .i64 d,.int .i64 a,.int .i64 b,.int .i64 cc,.int .i64 n] 72):=⟨_,rfl⟩
 have s3:V.heap.size=w.heap.size+1+1+1:=by rw[hV,World.size_alloc,s2]
 have f3:FrS [] V2 V:=by rw[hV];exact (FrS.refl _ _).alloc _
 rw[← hV] at k3 ⊢
 rw[s2] at k3
 rw[s1] at k2
 have F:=Lib.hid ((f1.trans f2 (fun i hi=>by cases hi)).trans f3 (fun i hi=>by cases hi))
 have K1:=Lib.hid (f3.blk (f2.blk k1 (fun e=>by cases e)) (fun e=>by cases e))
 have K2:=Lib.hid (f3.blk k2 (fun e=>by cases e))
 have K3:=Lib.hid k3
 have S3:=Lib.hid s3
 clear hV hV1 hV2 s1 s2 s3 f1 f2 f3 k1 k2 k3
 obtain⟨cb,hcb⟩ : ∃ cb,cb=w.heap.size:=⟨_,rfl⟩
 obtain⟨xb,hxb⟩ : ∃ xb,xb=w.heap.size+1:=⟨_,rfl⟩
 obtain⟨bb,hbb⟩ : ∃ bb,bb=w.heap.size+1+1:=⟨_,rfl⟩
 rw[← hbb,← hxb,← hcb]
 rw[← hbb] at K3
 rw[← hxb] at K2
 rw[← hcb] at K1
 have HCB:=Lib.hid hcb
 have HXB:=Lib.hid hxb
 have HBB:=Lib.hid hbb
 clear hcb hxb hbb
 refine (reads_any op V).mono ?_
 rintro e w1 ⟨rfl,rfl⟩
 have hN3:=Cx.readsN_le op
 obtain⟨N,hNN⟩ : ∃ N,N=Cx.readsN op:=⟨_,rfl⟩
 rw[← hNN] at hN3 ⊢
 have HNN:=Lib.hid hNN
 clear hNN
 go_wp2_with fail
 have kp:=Blk.new w1 #[.pointer (some ⟨bb,2,none⟩),.pointer (some ⟨bb,3,none⟩),.pointer (some ⟨bb,4,none⟩)] 178
 obtain⟨V,hV⟩ : ∃ V,V=w1.alloc (.cells #[.pointer (some ⟨bb,2,none⟩),.pointer (some ⟨bb,3,none⟩),.pointer (some ⟨bb,4,none⟩)] 178):=⟨_,rfl⟩
 have fV:FrS [] w1 V:=by rw[hV];exact (FrS.refl _ _).alloc _
 rw[← hV] at kp ⊢
 obtain⟨pb,hpb⟩ : ∃ pb,pb=w1.heap.size:=⟨_,rfl⟩
 rw[← hpb] at kp ⊢
 have KP:=Lib.hid kp
 have FV:=Lib.hid (F.out.trans fV (fun i hi=>by cases hi))
 have K1V:=Lib.hid (fV.blk K1.out (fun e=>by cases e))
 have K2V:=Lib.hid (fV.blk K2.out (fun e=>by cases e))
 have K3V:=Lib.hid (fV.blk K3.out (fun e=>by cases e))
 have HPB:Hid (pb≠bb∧xb≠bb∧cb≠bb∧w.heap.size≤bb):=(by have:=S3.out;have:=HBB.out;have:=HXB.out;have:=HCB.out;omega:pb≠bb∧xb≠bb∧cb≠bb∧w.heap.size≤bb)
 clear hV hpb kp fV
 go_loopw [7,8,19] (fun _ _ iv wr=>∃ k:Nat,k≤3∧iv=.int .i64 k∧FrS [bb] V wr∧Blk wr bb #[.int .i64 op,.int .i64 d,.int .i64 (if 0<k then nilF 0 N a else a),.int .i64 (if 1<k then nilF 1 N b else b),.int .i64 (if 2<k then nilF 2 N cc else cc),.int .i64 n] 72) (fun _ _ iv _=>3 - (intOf iv).toNat)
 case atStart=>exact⟨0,by omega,rfl,FrS.refl _ _,K3V.out⟩
 case round =>
  obtain⟨k,hk,rfl,hF,hB⟩:=hrel
  have kp:=hF.blk KP.out (fun e=>HPB.out.1 (List.mem_singleton.1 e))
  have HF:=Lib.hid hF
  have HB:=Lib.hid hB
  have hk':k=0∨k=1∨k=2∨k=3:=by omega
  rcases hk' with rfl | rfl | rfl | rfl
  ·have c0:wr.cell? ⟨pb,0,none⟩=some (.pointer (some ⟨bb,2,none⟩)):=kp.c rfl
   have d0:wr.cell? ⟨bb,2,none⟩=some (.int .i64 a):=hB.c rfl
   have z0:wr.frozen? ⟨bb,2,none⟩=false:=hB.z (v:=.int .i64 a) rfl
   clear hF hB kp
   by_cases hn:N≤0
   ·have e1:nilF 0 N a=0:=by unfold nilF;rw[if_pos hn]
    go_wp2_with fail
    go_roundw
    case rel=>exact⟨1,by omega,rfl,HF.out.setCell (Or.inl (by simp)) _,by have:=HB.out.puti 2 (.int .i64 0);simpa [e1] using this⟩
    case measure=>decide
   ·have e1:nilF 0 N a=a:=by unfold nilF;rw[if_neg hn]
    go_wp2_with fail
    go_roundw
    case rel=>exact⟨1,by omega,rfl,HF.out,by have:=HB.out;simpa [e1] using this⟩
    case measure=>decide
  ·have c0:wr.cell? ⟨pb,1,none⟩=some (.pointer (some ⟨bb,3,none⟩)):=kp.c rfl
   have d0:wr.cell? ⟨bb,3,none⟩=some (.int .i64 b):=hB.c rfl
   have z0:wr.frozen? ⟨bb,3,none⟩=false:=hB.z (v:=.int .i64 b) rfl
   clear hF hB kp
   by_cases hn:N≤1
   ·have e1:nilF 1 N b=0:=by unfold nilF;rw[if_pos hn]
    go_wp2_with fail
    go_roundw
    case rel=>exact⟨2,by omega,rfl,HF.out.setCell (Or.inl (by simp)) _,by have:=HB.out.puti 3 (.int .i64 0);simpa [e1] using this⟩
    case measure=>decide
   ·have e1:nilF 1 N b=b:=by unfold nilF;rw[if_neg hn]
    go_wp2_with fail
    go_roundw
    case rel=>exact⟨2,by omega,rfl,HF.out,by have:=HB.out;simpa [e1] using this⟩
    case measure=>decide
  ·have c0:wr.cell? ⟨pb,2,none⟩=some (.pointer (some ⟨bb,4,none⟩)):=kp.c rfl
   have d0:wr.cell? ⟨bb,4,none⟩=some (.int .i64 cc):=hB.c rfl
   have z0:wr.frozen? ⟨bb,4,none⟩=false:=hB.z (v:=.int .i64 cc) rfl
   clear hF hB kp
   by_cases hn:N≤2
   ·have e1:nilF 2 N cc=0:=by unfold nilF;rw[if_pos hn]
    go_wp2_with fail
    go_roundw
    case rel=>exact⟨3,by omega,rfl,HF.out.setCell (Or.inl (by simp)) _,by have:=HB.out.puti 4 (.int .i64 0);simpa [e1] using this⟩
    case measure=>decide
   ·have e1:nilF 2 N cc=cc:=by unfold nilF;rw[if_neg hn]
    go_wp2_with fail
    go_roundw
    case rel=>exact⟨3,by omega,rfl,HF.out,by have:=HB.out;simpa [e1] using this⟩
    case measure=>decide
  ·clear hF hB kp
   have hB3:Blk wr bb #[.int .i64 op,.int .i64 d,.int .i64 (nilF 0 N a),.int .i64 (nilF 1 N b),.int .i64 (nilF 2 N cc),.int .i64 n] 72:=HB.out
   have hC:=HF.out.blk K1V.out (fun e=>HPB.out.2.2.1 (List.mem_singleton.1 e))
   have hX:=HF.out.blk K2V.out (fun e=>HPB.out.2.1 (List.mem_singleton.1 e))
   have HBW:Hid (Below w.heap.size w wr):=FrS.below FV.out.toBelow HF.out FV.out.size (fun i hi=>by rw[List.mem_singleton.1 hi];exact HPB.out.2.2.2)
   have y0:wr.cell? ⟨xb,0,none⟩=some (.int .i64 op):=hX.c rfl
   have y1:wr.cell? ⟨xb,1,none⟩=some (.int .i64 d):=hX.c rfl
   have y2:wr.cell? ⟨xb,2,none⟩=some (.int .i64 a):=hX.c rfl
   have y3:wr.cell? ⟨xb,3,none⟩=some (.int .i64 b):=hX.c rfl
   have y4:wr.cell? ⟨xb,4,none⟩=some (.int .i64 cc):=hX.c rfl
   have y5:wr.cell? ⟨xb,5,none⟩=some (.int .i64 n):=hX.c rfl
   have b0:wr.cell? ⟨bb,0,none⟩=some (.int .i64 op):=hB3.c rfl
   have b1:wr.cell? ⟨bb,1,none⟩=some (.int .i64 d):=hB3.c rfl
   have b2:wr.cell? ⟨bb,2,none⟩=some (.int .i64 (nilF 0 N a)):=hB3.c rfl
   have b3:wr.cell? ⟨bb,3,none⟩=some (.int .i64 (nilF 1 N b)):=hB3.c rfl
   have b4:wr.cell? ⟨bb,4,none⟩=some (.int .i64 (nilF 2 N cc)):=hB3.c rfl
   have b5:wr.cell? ⟨bb,5,none⟩=some (.int .i64 n):=hB3.c rfl
   have z1:wr.frozen? ⟨bb,1,none⟩=false:=hB3.z (v:=.int .i64 d) rfl
   have z5:wr.frozen? ⟨bb,5,none⟩=false:=hB3.z (v:=.int .i64 n) rfl
   have g2:wr.cell? ⟨cb,2,none⟩=some (.int .i64 c.slots):=hC.c rfl
   have g4:wr.cell? ⟨cb,4,none⟩=some (.slice na c.inputs.length nc):=hC.c rfl
   have hxbb:xb≠bb:=HPB.out.2.1
   clear hC hX hB3
   have hq:∀ (d' n':Int) (W:World),(Op.equalIn 10000 72 (.agg #[.int .i64 op,.int .i64 d,.int .i64 a,.int .i64 b,.int .i64 cc,.int .i64 n]) (.agg #[.int .i64 op,.int .i64 d',.int .i64 (nilF 0 N a),.int .i64 (nilF 1 N b),.int .i64 (nilF 2 N cc),.int .i64 n'])).run Tryz.prog W=.ok (((op==op)&&(d==d')&&(a==nilF 0 N a)&&(b==nilF 1 N b)&&(cc==nilF 2 N cc)&&(n==n'))) W:=fun d' n' W=>eqIns _ _ _ _ _ _ _ _ _ _ _ _ W
   have hw1:wrap64 (c.slots - 1)=c.slots - 1:=by unfold wrap64;omega
   have hw2:wrap64 ((c.inputs.length:Int) - 1)=(c.inputs.length:Int) - 1:=by unfold wrap64;omega
   by_cases h1:op=1
   ·subst h1
    have hqq:=hq d n
    have HPL:=Lib.hid (plain1 c.slots c.inputs.length d a b cc n N HNN.out)
    generalize ((((1:Int)==1)&&(d==d)&&(a==nilF 0 N a)&&(b==nilF 1 N b)&&(cc==nilF 2 N cc)&&(n==n)))=E at hqq HPL
    clear hq hw1 hw2
    have HN0:Hid (decide (0≤N)=true):=(by rw[HNN.out];decide:decide (0≤N)=true)
    cases E
    ·go_wp2_with fail
     go_ret
     rw[HPL.out]
     exact⟨by simp,HBW.out⟩
    ·go_wp2_with fail
     refine (pFits_any n hN wr).mono ?_
     rintro e w4 ⟨rfl,rfl⟩
     go_wp2_with fail
     go_ret
     rw[HPL.out,HN0.out]
     exact⟨by simp,HBW.out⟩
   ·by_cases h30:op=30
    ·subst h30
     have hqq:=hq 0 n
     have HPL:=Lib.hid (plain30 c.slots c.inputs.length d a b cc n N HNN.out)
     generalize ((((30:Int)==30)&&(d==0)&&(a==nilF 0 N a)&&(b==nilF 1 N b)&&(cc==nilF 2 N cc)&&(n==n)))=E at hqq HPL
     clear hq hw2
     by_cases hn:0≤N
     ·cases E
      ·go_wp2_with fail
       go_ret
       rw[HPL.out]
       exact⟨by simp,(FrS.below HBW.out ((FrS.refl [bb] wr).setCell (Or.inl (by simp)) _) HBW.out.size (fun i hi=>by rw[List.mem_singleton.1 hi];exact HPB.out.2.2.2))⟩
      ·by_cases hp:0≤n
       ·by_cases hm:n≤c.slots - 1
        ·go_wp2_with fail
         go_ret
         rw[HPL.out]
         exact⟨by simp;omega,(FrS.below HBW.out ((FrS.refl [bb] wr).setCell (Or.inl (by simp)) _) HBW.out.size (fun i hi=>by rw[List.mem_singleton.1 hi];exact HPB.out.2.2.2))⟩
        ·go_wp2_with fail
         go_ret
         rw[HPL.out]
         exact⟨by simp;omega,(FrS.below HBW.out ((FrS.refl [bb] wr).setCell (Or.inl (by simp)) _) HBW.out.size (fun i hi=>by rw[List.mem_singleton.1 hi];exact HPB.out.2.2.2))⟩
       ·go_wp2_with fail
        go_ret
        rw[HPL.out]
        exact⟨by simp;intros;omega,(FrS.below HBW.out ((FrS.refl [bb] wr).setCell (Or.inl (by simp)) _) HBW.out.size (fun i hi=>by rw[List.mem_singleton.1 hi];exact HPB.out.2.2.2))⟩
     ·go_wp2_with fail
      go_ret
      rw[HPL.out]
      exact⟨by simp;intros;omega,(FrS.below HBW.out ((FrS.refl [bb] wr).setCell (Or.inl (by simp)) _) HBW.out.size (fun i hi=>by rw[List.mem_singleton.1 hi];exact HPB.out.2.2.2))⟩
    ·by_cases h21:op=21
     ·subst h21
      have hqq:=hq d n
      have HPL:=Lib.hid (plain21 c.slots c.inputs.length d a b cc n N HNN.out)
      generalize ((((21:Int)==21)&&(d==d)&&(a==nilF 0 N a)&&(b==nilF 1 N b)&&(cc==nilF 2 N cc)&&(n==n)))=E at hqq HPL
      clear hq hw2
      by_cases hn:0≤N
      ·cases E
       ·go_wp2_with fail
        go_ret
        rw[HPL.out]
        exact⟨by simp,HBW.out⟩
       ·by_cases hp:0≤n
        ·by_cases hm:n≤c.slots - 1
         ·go_wp2_with fail
          go_ret
          rw[HPL.out]
          exact⟨by simp;omega,HBW.out⟩
         ·go_wp2_with fail
          go_ret
          rw[HPL.out]
          exact⟨by simp;omega,HBW.out⟩
        ·go_wp2_with fail
         go_ret
         rw[HPL.out]
         exact⟨by simp;intros;omega,HBW.out⟩
      ·go_wp2_with fail
       go_ret
       rw[HPL.out]
       exact⟨by simp;intros;omega,HBW.out⟩
     ·by_cases h3:op=3
      ·subst h3
       have hqq:=hq d n
       have HPL:=Lib.hid (plain3 c.slots c.inputs.length d a b cc n N HNN.out)
       generalize ((((3:Int)==3)&&(d==d)&&(a==nilF 0 N a)&&(b==nilF 1 N b)&&(cc==nilF 2 N cc)&&(n==n)))=E at hqq HPL
       clear hq hw1
       by_cases hn:0≤N
       ·cases E
        ·go_wp2_with fail
         go_ret
         rw[HPL.out]
         exact⟨by simp,HBW.out⟩
        ·by_cases hp:0≤n
         ·by_cases hm:n≤(c.inputs.length:Int) - 1
          ·go_wp2_with fail
           go_ret
           rw[HPL.out]
           exact⟨by simp;omega,HBW.out⟩
          ·go_wp2_with fail
           go_ret
           rw[HPL.out]
           exact⟨by simp;omega,HBW.out⟩
         ·go_wp2_with fail
          go_ret
          rw[HPL.out]
          exact⟨by simp;intros;omega,HBW.out⟩
       ·go_wp2_with fail
        go_ret
        rw[HPL.out]
        exact⟨by simp;intros;omega,HBW.out⟩
      ·by_cases h2:op=2
       ·subst h2
        have hqq:=hq d n
        have HPL:=Lib.hid (plain2 c.slots c.inputs.length d a b cc n N HNN.out)
        generalize ((((2:Int)==2)&&(d==d)&&(a==nilF 0 N a)&&(b==nilF 1 N b)&&(cc==nilF 2 N cc)&&(n==n)))=E at hqq HPL
        clear hq hw1 hw2
        by_cases hn:0≤N
        ·cases E
         ·go_wp2_with fail
          go_ret
          rw[HPL.out]
          exact⟨by simp,HBW.out⟩
         ·by_cases hp:0≤n
          ·by_cases hm:n≤1
           ·go_wp2_with fail
            go_ret
            rw[HPL.out]
            exact⟨by simp;omega,HBW.out⟩
           ·go_wp2_with fail
            go_ret
            rw[HPL.out]
            exact⟨by simp;omega,HBW.out⟩
          ·go_wp2_with fail
           go_ret
           rw[HPL.out]
           exact⟨by simp;intros;omega,HBW.out⟩
        ·go_wp2_with fail
         go_ret
         rw[HPL.out]
         exact⟨by simp;intros;omega,HBW.out⟩
       ·have hqq:=hq d 0
        have HPL:=Lib.hid (plainO c.slots c.inputs.length op d a b cc n N h1 h2 h3 h21 h30 HNN.out)
        generalize (((op==op)&&(d==d)&&(a==nilF 0 N a)&&(b==nilF 1 N b)&&(cc==nilF 2 N cc)&&(n==0)))=E at hqq HPL
        have e1:(op==1)=false:=by simpa using h1
        have e30:(op==30)=false:=by simpa using h30
        have e21:(op==21)=false:=by simpa using h21
        have e3:(op==3)=false:=by simpa using h3
        have e2:(op==2)=false:=by simpa using h2
        clear hq hw1 hw2 h1 h2 h3 h21 h30
        by_cases hn:0≤N
        ·cases E
         ·go_wp2_with fail
          go_ret
          rw[HPL.out]
          exact⟨by simp,(FrS.below HBW.out ((FrS.refl [bb] wr).setCell (Or.inl (by simp)) _) HBW.out.size (fun i hi=>by rw[List.mem_singleton.1 hi];exact HPB.out.2.2.2))⟩
         ·by_cases hp:0≤n
          ·by_cases hm:n≤0
           ·go_wp2_with fail
            go_ret
            rw[HPL.out]
            exact⟨by simp;omega,(FrS.below HBW.out ((FrS.refl [bb] wr).setCell (Or.inl (by simp)) _) HBW.out.size (fun i hi=>by rw[List.mem_singleton.1 hi];exact HPB.out.2.2.2))⟩
           ·go_wp2_with fail
            go_ret
            rw[HPL.out]
            exact⟨by simp;omega,(FrS.below HBW.out ((FrS.refl [bb] wr).setCell (Or.inl (by simp)) _) HBW.out.size (fun i hi=>by rw[List.mem_singleton.1 hi];exact HPB.out.2.2.2))⟩
          ·go_wp2_with fail
           go_ret
           rw[HPL.out]
           exact⟨by simp;intros;omega,(FrS.below HBW.out ((FrS.refl [bb] wr).setCell (Or.inl (by simp)) _) HBW.out.size (fun i hi=>by rw[List.mem_singleton.1 hi];exact HPB.out.2.2.2))⟩
        ·go_wp2_with fail
         go_ret
         rw[HPL.out]
         exact⟨by simp;intros;omega,(FrS.below HBW.out ((FrS.refl [bb] wr).setCell (Or.inl (by simp)) _) HBW.out.size (fun i hi=>by rw[List.mem_singleton.1 hi];exact HPB.out.2.2.2))⟩
end Go.Proofs.YtdmelebgdaiinaaGreatDoor
