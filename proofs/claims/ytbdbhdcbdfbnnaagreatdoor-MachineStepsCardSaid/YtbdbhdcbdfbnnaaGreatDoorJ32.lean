/- Machine: which instructions may be, by the program: the walks. Plain mathematics of ordered decision diagrams: what a list of nodes means; two nodes that mean the same are one; counting; the first row. Maps in memory by plain lists of keys and values; frames that may turn a set of blocks; the store of diagrams in memory. Machine: sets of numbers in maps; what is not among them: the walks. -/
import Derived.WalkKit
import Derived.WalkSpells
import Derived.WalkLawsBesides
import Derived.Maps.Own
import Derived.Test.YtbdbhdcbdfbnnaaGreatDoorJ10
import Derived.Test.YtbdbhdcbdfbnnaaGreatDoorJ31
set_option linter.unusedVariables false
set_option linter.unusedSimpArgs false
namespace Go.Proofs.YtbdbhdcbdfbnnaaGreatDoor
open Go.RowKit
set_option maxRecDepth 100000
theorem reads_any (op:Int) (w:World):Calls Tryz.prog 50 #[.int .i64 op] w fun e w'=>e=.returned (.int .i64 (Cx.readsN op))∧w'=w:=by
 by_cases h0:op=3∨op=1∨op=2∨op=21
 ·have hr:Cx.readsN op=0:=by unfold Cx.readsN;rw[if_pos h0]
  rw[hr]
  clear hr
  rcases h0 with rfl | rfl | rfl | rfl
  all_goals
   go_enter Tryz.func50,Tryz.ntmps50
   go_wp2_with fail
   go_ret
   exact⟨rfl,rfl⟩
 ·by_cases h30:op=30
  ·subst h30
   clear h0
   go_enter Tryz.func50,Tryz.ntmps50
   go_wp2_with fail
   go_ret
   exact⟨rfl,rfl⟩
  ·by_cases h19:op=19
   ·subst h19
    clear h0 h30
    go_enter Tryz.func50,Tryz.ntmps50
    go_wp2_with fail
    go_ret
    exact⟨rfl,rfl⟩
   ·have hr:Cx.readsN op=Cx.opsN op:=by unfold Cx.readsN;rw[if_neg h0,if_neg h30,if_neg h19]
    have e3:(op==3)=false:=by simp;omega
    have e1:(op==1)=false:=by simp;omega
    have e2:(op==2)=false:=by simp;omega
    have e21:(op==21)=false:=by simp;omega
    have e30:(op==30)=false:=by simp;omega
    have e19:(op==19)=false:=by simp;omega
    rw[hr]
    clear hr h0 h30 h19
    go_enter Tryz.func50,Tryz.ntmps50
    go_wp2_with fail
    refine (pOperands_any op w).mono ?_
    rintro e w1 ⟨rfl,rfl⟩
    go_wp2_with fail
    go_ret
    exact⟨rfl,rfl⟩
theorem ins_fields {P:Program} {t:TypeId} {fs:Array Field} (h:P.underlying t=some (.struct fs)):P.fieldsOf t=fs:=by unfold Program.fieldsOf;rw[h]
theorem insPart0 (x0 x1 x2 x3 x4 x5:Value) (w:World):(part 3 #[x0,x1,x2,x3,x4,x5] 0).run Tryz.prog w=.ok x0 w:=by kernel_rfl
theorem insPart1 (x0 x1 x2 x3 x4 x5:Value) (w:World):(part 3 #[x0,x1,x2,x3,x4,x5] 1).run Tryz.prog w=.ok x1 w:=by kernel_rfl
theorem insPart2 (x0 x1 x2 x3 x4 x5:Value) (w:World):(part 3 #[x0,x1,x2,x3,x4,x5] 2).run Tryz.prog w=.ok x2 w:=by kernel_rfl
theorem insPart3 (x0 x1 x2 x3 x4 x5:Value) (w:World):(part 3 #[x0,x1,x2,x3,x4,x5] 3).run Tryz.prog w=.ok x3 w:=by kernel_rfl
theorem insPart4 (x0 x1 x2 x3 x4 x5:Value) (w:World):(part 3 #[x0,x1,x2,x3,x4,x5] 4).run Tryz.prog w=.ok x4 w:=by kernel_rfl
theorem insPart5 (x0 x1 x2 x3 x4 x5:Value) (w:World):(part 3 #[x0,x1,x2,x3,x4,x5] 5).run Tryz.prog w=.ok x5 w:=by kernel_rfl
theorem insStood:Tryz.prog.stoodInHeld 70=false:=by kernel_rfl
theorem eqIns (x0 x1 x2 x3 x4 x5 y0 y1 y2 y3 y4 y5:Int) (w:World):(Op.equalIn 10000 70 (.agg #[.int .i64 x0,.int .i64 x1,.int .i64 x2,.int .i64 x3,.int .i64 x4,.int .i64 x5]) (.agg #[.int .i64 y0,.int .i64 y1,.int .i64 y2,.int .i64 y3,.int .i64 y4,.int .i64 y5])).run Tryz.prog w=.ok ((x0==y0)&&(x1==y1)&&(x2==y2)&&(x3==y3)&&(x4==y4)&&(x5==y5)) w:=by
 have hu:=Tryz.underlying70
 have hf:=ins_fields Tryz.underlying70
 have hi:∀ (d:Nat) (p q:Int),(Op.equalIn (d+1) 3 (.int .i64 p) (.int .i64 q)).run Tryz.prog w=.ok (p==q) w:=fun d p q=>run_equalIn_int w d _ _ _ p q Tryz.underlying3
 rw[run_equalIn_agg w 9999 _ _ _ (by rw[hf];exact hu) insStood,hf]
 simp only[Op.eqFields]
 cases h0:(x0==y0)
 ·simp[hi,insPart0,insPart1,insPart2,insPart3,insPart4,insPart5,h0,Result.andThen]
 cases h1:(x1==y1)
 ·simp[hi,insPart0,insPart1,insPart2,insPart3,insPart4,insPart5,h0,h1,Result.andThen]
 cases h2:(x2==y2)
 ·simp[hi,insPart0,insPart1,insPart2,insPart3,insPart4,insPart5,h0,h1,h2,Result.andThen]
 cases h3:(x3==y3)
 ·simp[hi,insPart0,insPart1,insPart2,insPart3,insPart4,insPart5,h0,h1,h2,h3,Result.andThen]
 cases h4:(x4==y4)
 ·simp[hi,insPart0,insPart1,insPart2,insPart3,insPart4,insPart5,h0,h1,h2,h3,h4,Result.andThen]
 cases h5:(x5==y5)
 ·simp[hi,insPart0,insPart1,insPart2,insPart3,insPart4,insPart5,h0,h1,h2,h3,h4,h5,Result.andThen]
 simp[hi,insPart0,insPart1,insPart2,insPart3,insPart4,insPart5,h0,h1,h2,h3,h4,h5,Result.andThen]
theorem FrS.toBelow {a b:World} (h:FrS [] a b):Below a.heap.size a b:=⟨h.os,h.tape,h.output,h.size,fun i hi=>h.block i hi (by simp)⟩
def nilF (i:Int) (n a:Int):Int:=if n≤i then 0 else a
theorem restE (op d a b cc n N:Int) (hN:N=Cx.readsN op):Cx.restS ⟨op,d,a,b,cc,n⟩=((a==nilF 0 N a)&&(b==nilF 1 N b)&&(cc==nilF 2 N cc)&&decide (op=30→d=0)):=by
 subst hN
 have h:∀ (i v N:Int),(v==nilF i N v)=decide (N<i+1→v=0):=fun i v N=>by
  rw[Bool.eq_iff_iff]
  simp only[beq_iff_eq,decide_eq_true_eq]
  unfold nilF
  split <;> omega
 rw[h,h,h]
 rfl
theorem plain1 (slots:Int) (ins:Nat) (d a b cc n N:Int) (hN:N=Cx.readsN (1:Int)):Cx.plainS slots ins ⟨(1:Int),d,a,b,cc,n⟩=(decide (0≤N)&&(((1:Int)==(1:Int))&&(d==d)&&(a==nilF 0 N a)&&(b==nilF 1 N b)&&(cc==nilF 2 N cc)&&(n==n))&&Cx.fits n):=by
 unfold Cx.plainS
 rw[restE _ _ _ _ _ _ N hN,← hN]
 unfold Cx.numS
 generalize (a==nilF 0 N a)=A
 generalize (b==nilF 1 N b)=B
 generalize (cc==nilF 2 N cc)=C
 rw[Bool.eq_iff_iff]
 cases A <;> cases B <;> cases C <;> simp <;> omega
theorem plain30 (slots:Int) (ins:Nat) (d a b cc n N:Int) (hN:N=Cx.readsN (30:Int)):Cx.plainS slots ins ⟨(30:Int),d,a,b,cc,n⟩=(decide (0≤N)&&(((30:Int)==(30:Int))&&(d==0)&&(a==nilF 0 N a)&&(b==nilF 1 N b)&&(cc==nilF 2 N cc)&&(n==n))&&decide (0≤n)&&decide (n≤slots - 1)):=by
 unfold Cx.plainS
 rw[restE _ _ _ _ _ _ N hN,← hN]
 unfold Cx.numS
 generalize (a==nilF 0 N a)=A
 generalize (b==nilF 1 N b)=B
 generalize (cc==nilF 2 N cc)=C
 rw[Bool.eq_iff_iff]
 cases A <;> cases B <;> cases C <;> simp <;> omega
theorem plain21 (slots:Int) (ins:Nat) (d a b cc n N:Int) (hN:N=Cx.readsN (21:Int)):Cx.plainS slots ins ⟨(21:Int),d,a,b,cc,n⟩=(decide (0≤N)&&(((21:Int)==(21:Int))&&(d==d)&&(a==nilF 0 N a)&&(b==nilF 1 N b)&&(cc==nilF 2 N cc)&&(n==n))&&decide (0≤n)&&decide (n≤slots - 1)):=by
 unfold Cx.plainS
 rw[restE _ _ _ _ _ _ N hN,← hN]
 unfold Cx.numS
 generalize (a==nilF 0 N a)=A
 generalize (b==nilF 1 N b)=B
 generalize (cc==nilF 2 N cc)=C
 rw[Bool.eq_iff_iff]
 cases A <;> cases B <;> cases C <;> simp <;> omega
theorem plain3 (slots:Int) (ins:Nat) (d a b cc n N:Int) (hN:N=Cx.readsN (3:Int)):Cx.plainS slots ins ⟨(3:Int),d,a,b,cc,n⟩=(decide (0≤N)&&(((3:Int)==(3:Int))&&(d==d)&&(a==nilF 0 N a)&&(b==nilF 1 N b)&&(cc==nilF 2 N cc)&&(n==n))&&decide (0≤n)&&decide (n≤(ins:Int) - 1)):=by
 unfold Cx.plainS
 rw[restE _ _ _ _ _ _ N hN,← hN]
 unfold Cx.numS
 generalize (a==nilF 0 N a)=A
 generalize (b==nilF 1 N b)=B
 generalize (cc==nilF 2 N cc)=C
 rw[Bool.eq_iff_iff]
 cases A <;> cases B <;> cases C <;> simp <;> omega
theorem plain2 (slots:Int) (ins:Nat) (d a b cc n N:Int) (hN:N=Cx.readsN (2:Int)):Cx.plainS slots ins ⟨(2:Int),d,a,b,cc,n⟩=(decide (0≤N)&&(((2:Int)==(2:Int))&&(d==d)&&(a==nilF 0 N a)&&(b==nilF 1 N b)&&(cc==nilF 2 N cc)&&(n==n))&&decide (0≤n)&&decide (n≤1)):=by
 unfold Cx.plainS
 rw[restE _ _ _ _ _ _ N hN,← hN]
 unfold Cx.numS
 generalize (a==nilF 0 N a)=A
 generalize (b==nilF 1 N b)=B
 generalize (cc==nilF 2 N cc)=C
 rw[Bool.eq_iff_iff]
 cases A <;> cases B <;> cases C <;> simp <;> omega
theorem plainO (slots:Int) (ins:Nat) (op:Int) (d a b cc n N:Int) (h1:op≠1) (h2:op≠2) (h3:op≠3) (h21:op≠21) (h30:op≠30) (hN:N=Cx.readsN op):Cx.plainS slots ins ⟨op,d,a,b,cc,n⟩=(decide (0≤N)&&((op==op)&&(d==d)&&(a==nilF 0 N a)&&(b==nilF 1 N b)&&(cc==nilF 2 N cc)&&(n==0))&&decide (0≤n)&&decide (n≤0)):=by
 unfold Cx.plainS
 rw[restE _ _ _ _ _ _ N hN,← hN]
 unfold Cx.numS
 simp only[if_neg h1,if_neg h2,if_neg h3,if_neg (show ¬ (op=21∨op=30) by omega)]
 generalize (a==nilF 0 N a)=A
 generalize (b==nilF 1 N b)=B
 generalize (cc==nilF 2 N cc)=C
 rw[Bool.eq_iff_iff]
 cases A <;> cases B <;> cases C <;> simp <;> omega
set_option maxHeartbeats 2000000 in
theorem isPlain_any (w:World) (c:Cx.Co) (vi vo:Value) (na:Option Addr) (nc:Nat) (x:Cx.In) (hN : -9223372036854775808≤x.n∧x.n≤9223372036854775807) (hs:0≤c.slots∧c.slots≤100000) (hil:c.inputs.length≤1000000) :
  Calls Tryz.prog 49 #[.agg #[vi,.int .i64 c.regs,.int .i64 c.slots,vo,.slice na c.inputs.length nc],.agg #[.int .i64 x.op,.int .i64 x.d,.int .i64 x.a,.int .i64 x.b,.int .i64 x.c,.int .i64 x.n]] w fun e w'=>e=.returned (.bool (Cx.plainS c.slots c.inputs.length x))∧Below w.heap.size w w':=by
 obtain⟨op,d,a,b,cc,n⟩:=x
 go_enter Tryz.func49,Tryz.ntmps49
 go_wp2_with fail
 have k1:=Blk.new w #[vi,.int .i64 c.regs,.int .i64 c.slots,vo,.slice na c.inputs.length nc] 36
 obtain⟨V1,hV1⟩ : ∃ V1,V1=w.alloc (.cells #[vi,.int .i64 c.regs,.int .i64 c.slots,vo,.slice na c.inputs.length nc] 36):=⟨_,rfl⟩
 have s1:V1.heap.size=w.heap.size+1:=by rw[hV1,World.size_alloc]
 have f1:FrS [] w V1:=by rw[hV1];exact (FrS.refl _ _).alloc _
 rw[← hV1] at k1 ⊢
 have k2:=Blk.new V1 #[.int .i64 op,.int .i64 d,.int .i64 a,.int .i64 b,.int .i64 cc,.int .i64 n] 70
 obtain⟨V2,hV2⟩ : ∃ V2,V2=V1.alloc (.cells #[.int .i64 op,.int .i64 d,.int .i64 a,.int .i64 b,.int .i64 cc,.int .i64 n] 70):=⟨_,rfl⟩
 have s2:V2.heap.size=w.heap.size+1+1:=by rw[hV2,World.size_alloc,s1]
 have f2:FrS [] V1 V2:=by rw[hV2];exact (FrS.refl _ _).alloc _
 rw[← hV2] at k2 ⊢
 have k3:=Blk.new V2 #[.int .i64 op,.int .i64 d,.int .i64 a,.int .i64 b,.int .i64 cc,.int .i64 n] 70
 obtain⟨V,hV⟩ : ∃ V,V=V2.alloc (.cells #[.int .i64 op,.int .i64 d,.int .i64 a,.int .i64 b,.int .i64 cc,.int .i64 n] 70):=⟨_,rfl⟩
 have s3:V.heap.size=w.heap.size+1+1+1:=by rw[hV,World.size_alloc,s2]
 have f3:FrS [] V2 V:=by rw[hV];exact (FrS.refl _ _).alloc _
 rw[← hV] at k3 ⊢
 rw[s2] at k3
 rw[s1] at k2
 have F:=Lib.hid ((f1.trans f2 (fun i hi=>by cases hi)).trans f3 (fun i hi=>by cases hi))
 have K1:=Lib.hid (f3.blk (f2.blk k1 (fun e=>by cases e)) (fun e=>by cases e))
 have K2:=Lib.hid (f3.blk k2 (fun e=>by cases e))
 have K3:=Lib.hid k3
 have S3:=Lib.hid s3
 clear hV hV1 hV2 s1 s2 s3 f1 f2 f3 k1 k2 k3
 obtain⟨cb,hcb⟩ : ∃ cb,cb=w.heap.size:=⟨_,rfl⟩
 obtain⟨xb,hxb⟩ : ∃ xb,xb=w.heap.size+1:=⟨_,rfl⟩
 obtain⟨bb,hbb⟩ : ∃ bb,bb=w.heap.size+1+1:=⟨_,rfl⟩
 rw[← hbb,← hxb,← hcb]
 rw[← hbb] at K3
 rw[← hxb] at K2
 rw[← hcb] at K1
 have HCB:=Lib.hid hcb
 have HXB:=Lib.hid hxb
 have HBB:=Lib.hid hbb
 clear hcb hxb hbb
 refine (reads_any op V).mono ?_
 rintro e w1 ⟨rfl,rfl⟩
 have hN3:=Cx.readsN_le op
 obtain⟨N,hNN⟩ : ∃ N,N=Cx.readsN op:=⟨_,rfl⟩
 rw[← hNN] at hN3 ⊢
 have HNN:=Lib.hid hNN
 clear hNN
 go_wp2_with fail
 have kp:=Blk.new w1 #[.pointer (some ⟨bb,2,none⟩),.pointer (some ⟨bb,3,none⟩),.pointer (some ⟨bb,4,none⟩)] 177
 obtain⟨V,hV⟩ : ∃ V,V=w1.alloc (.cells #[.pointer (some ⟨bb,2,none⟩),.pointer (some ⟨bb,3,none⟩),.pointer (some ⟨bb,4,none⟩)] 177):=⟨_,rfl⟩
 have fV:FrS [] w1 V:=by rw[hV];exact (FrS.refl _ _).alloc _
 rw[← hV] at kp ⊢
 obtain⟨pb,hpb⟩ : ∃ pb,pb=w1.heap.size:=⟨_,rfl⟩
 rw[← hpb] at kp ⊢
 have KP:=Lib.hid kp
 have FV:=Lib.hid (F.out.trans fV (fun i hi=>by cases hi))
 have K1V:=Lib.hid (fV.blk K1.out (fun e=>by cases e))
 have K2V:=Lib.hid (fV.blk K2.out (fun e=>by cases e))
 have K3V:=Lib.hid (fV.blk K3.out (fun e=>by cases e))
 have HPB:Hid (pb≠bb∧xb≠bb∧cb≠bb∧w.heap.size≤bb):=(by have:=S3.out;have:=HBB.out;have:=HXB.out;have:=HCB.out;omega:pb≠bb∧xb≠bb∧cb≠bb∧w.heap.size≤bb)
 clear hV hpb kp fV
 go_loopw [7,8,19] (fun _ _ iv wr=>∃ k:Nat,k≤3∧iv=.int .i64 k∧FrS [bb] V wr∧Blk wr bb #[.int .i64 op,.int .i64 d,.int .i64 (if 0<k then nilF 0 N a else a),.int .i64 (if 1<k then nilF 1 N b else b),.int .i64 (if 2<k then nilF 2 N cc else cc),.int .i64 n] 70) (fun _ _ iv _=>3 - (intOf iv).toNat)
 case atStart=>exact⟨0,by omega,rfl,FrS.refl _ _,K3V.out⟩
 case round =>
  obtain⟨k,hk,rfl,hF,hB⟩:=hrel
  have kp:=hF.blk KP.out (fun e=>HPB.out.1 (List.mem_singleton.1 e))
  have HF:=Lib.hid hF
  have HB:=Lib.hid hB
  have hk':k=0∨k=1∨k=2∨k=3:=by omega
  rcases hk' with rfl | rfl | rfl | rfl
  ·have c0:wr.cell? ⟨pb,0,none⟩=some (.pointer (some ⟨bb,2,none⟩)):=kp.c rfl
   have d0:wr.cell? ⟨bb,2,none⟩=some (.int .i64 a):=hB.c rfl
   have z0:wr.frozen? ⟨bb,2,none⟩=false:=hB.z (v:=.int .i64 a) rfl
   clear hF hB kp
   by_cases hn:N≤0
   ·have e1:nilF 0 N a=0:=by unfold nilF;rw[if_pos hn]
    go_wp2_with fail
    go_roundw
    case rel=>exact⟨1,by omega,rfl,HF.out.setCell (Or.inl (by simp)) _,by have:=HB.out.puti 2 (.int .i64 0);simpa [e1] using this⟩
    case measure=>decide
   ·have e1:nilF 0 N a=a:=by unfold nilF;rw[if_neg hn]
    go_wp2_with fail
    go_roundw
    case rel=>exact⟨1,by omega,rfl,HF.out,by have:=HB.out;simpa [e1] using this⟩
    case measure=>decide
  ·have c0:wr.cell? ⟨pb,1,none⟩=some (.pointer (some ⟨bb,3,none⟩)):=kp.c rfl
   have d0:wr.cell? ⟨bb,3,none⟩=some (.int .i64 b):=hB.c rfl
   have z0:wr.frozen? ⟨bb,3,none⟩=false:=hB.z (v:=.int .i64 b) rfl
   clear hF hB kp
   by_cases hn:N≤1
   ·have e1:nilF 1 N b=0:=by unfold nilF;rw[if_pos hn]
    go_wp2_with fail
    go_roundw
    case rel=>exact⟨2,by omega,rfl,HF.out.setCell (Or.inl (by simp)) _,by have:=HB.out.puti 3 (.int .i64 0);simpa [e1] using this⟩
    case measure=>decide
   ·have e1:nilF 1 N b=b:=by unfold nilF;rw[if_neg hn]
    go_wp2_with fail
    go_roundw
    case rel=>exact⟨2,by omega,rfl,HF.out,by have:=HB.out;simpa [e1] using this⟩
    case measure=>decide
  ·have c0:wr.cell? ⟨pb,2,none⟩=some (.pointer (some ⟨bb,4,none⟩)):=kp.c rfl
   have d0:wr.cell? ⟨bb,4,none⟩=some (.int .i64 cc):=hB.c rfl
   have z0:wr.frozen? ⟨bb,4,none⟩=false:=hB.z (v:=.int .i64 cc) rfl
   clear hF hB kp
   by_cases hn:N≤2
   ·have e1:nilF 2 N cc=0:=by unfold nilF;rw[if_pos hn]
    go_wp2_with fail
    go_roundw
    case rel=>exact⟨3,by omega,rfl,HF.out.setCell (Or.inl (by simp)) _,by have:=HB.out.puti 4 (.int .i64 0);simpa [e1] using this⟩
    case measure=>decide
   ·have e1:nilF 2 N cc=cc:=by unfold nilF;rw[if_neg hn]
    go_wp2_with fail
    go_roundw
    case rel=>exact⟨3,by omega,rfl,HF.out,by have:=HB.out;simpa [e1] using this⟩
    case measure=>decide
  ·clear hF hB kp
   have hB3:Blk wr bb #[.int .i64 op,.int .i64 d,.int .i64 (nilF 0 N a),.int .i64 (nilF 1 N b),.int .i64 (nilF 2 N cc),.int .i64 n] 70:=HB.out
   have hC:=HF.out.blk K1V.out (fun e=>HPB.out.2.2.1 (List.mem_singleton.1 e))
   have hX:=HF.out.blk K2V.out (fun e=>HPB.out.2.1 (List.mem_singleton.1 e))
   have HBW:Hid (Below w.heap.size w wr):=FrS.below FV.out.toBelow HF.out FV.out.size (fun i hi=>by rw[List.mem_singleton.1 hi];exact HPB.out.2.2.2)
   have y0:wr.cell? ⟨xb,0,none⟩=some (.int .i64 op):=hX.c rfl
   have y1:wr.cell? ⟨xb,1,none⟩=some (.int .i64 d):=hX.c rfl
   have y2:wr.cell? ⟨xb,2,none⟩=some (.int .i64 a):=hX.c rfl
   have y3:wr.cell? ⟨xb,3,none⟩=some (.int .i64 b):=hX.c rfl
   have y4:wr.cell? ⟨xb,4,none⟩=some (.int .i64 cc):=hX.c rfl
   have y5:wr.cell? ⟨xb,5,none⟩=some (.int .i64 n):=hX.c rfl
   have b0:wr.cell? ⟨bb,0,none⟩=some (.int .i64 op):=hB3.c rfl
   have b1:wr.cell? ⟨bb,1,none⟩=some (.int .i64 d):=hB3.c rfl
   have b2:wr.cell? ⟨bb,2,none⟩=some (.int .i64 (nilF 0 N a)):=hB3.c rfl
   have b3:wr.cell? ⟨bb,3,none⟩=some (.int .i64 (nilF 1 N b)):=hB3.c rfl
   have b4:wr.cell? ⟨bb,4,none⟩=some (.int .i64 (nilF 2 N cc)):=hB3.c rfl
   have b5:wr.cell? ⟨bb,5,none⟩=some (.int .i64 n):=hB3.c rfl
   have z1:wr.frozen? ⟨bb,1,none⟩=false:=hB3.z (v:=.int .i64 d) rfl
   have z5:wr.frozen? ⟨bb,5,none⟩=false:=hB3.z (v:=.int .i64 n) rfl
   have g2:wr.cell? ⟨cb,2,none⟩=some (.int .i64 c.slots):=hC.c rfl
   have g4:wr.cell? ⟨cb,4,none⟩=some (.slice na c.inputs.length nc):=hC.c rfl
   have hxbb:xb≠bb:=HPB.out.2.1
   clear hC hX hB3
   have hq:∀ (d' n':Int) (W:World),(Op.equalIn 10000 70 (.agg #[.int .i64 op,.int .i64 d,.int .i64 a,.int .i64 b,.int .i64 cc,.int .i64 n]) (.agg #[.int .i64 op,.int .i64 d',.int .i64 (nilF 0 N a),.int .i64 (nilF 1 N b),.int .i64 (nilF 2 N cc),.int .i64 n'])).run Tryz.prog W=.ok (((op==op)&&(d==d')&&(a==nilF 0 N a)&&(b==nilF 1 N b)&&(cc==nilF 2 N cc)&&(n==n'))) W:=fun d' n' W=>eqIns _ _ _ _ _ _ _ _ _ _ _ _ W
   have hw1:wrap64 (c.slots - 1)=c.slots - 1:=by unfold wrap64;omega
   have hw2:wrap64 ((c.inputs.length:Int) - 1)=(c.inputs.length:Int) - 1:=by unfold wrap64;omega
   by_cases h1:op=1
   ·subst h1
    have hqq:=hq d n
    have HPL:=Lib.hid (plain1 c.slots c.inputs.length d a b cc n N HNN.out)
    generalize ((((1:Int)==1)&&(d==d)&&(a==nilF 0 N a)&&(b==nilF 1 N b)&&(cc==nilF 2 N cc)&&(n==n)))=E at hqq HPL
    clear hq hw1 hw2
    have HN0:Hid (decide (0≤N)=true):=(by rw[HNN.out];decide:decide (0≤N)=true)
    cases E
    ·go_wp2_with fail
     go_ret
     rw[HPL.out]
     exact⟨by simp,HBW.out⟩
    ·go_wp2_with fail
     refine (pFits_any n hN wr).mono ?_
     rintro e w4 ⟨rfl,rfl⟩
     go_wp2_with fail
     go_ret
     rw[HPL.out,HN0.out]
     exact⟨by simp,HBW.out⟩
   ·by_cases h30:op=30
    ·subst h30
     have hqq:=hq 0 n
     have HPL:=Lib.hid (plain30 c.slots c.inputs.length d a b cc n N HNN.out)
     generalize ((((30:Int)==30)&&(d==0)&&(a==nilF 0 N a)&&(b==nilF 1 N b)&&(cc==nilF 2 N cc)&&(n==n)))=E at hqq HPL
     clear hq hw2
     by_cases hn:0≤N
     ·cases E
      ·go_wp2_with fail
       go_ret
       rw[HPL.out]
       exact⟨by simp,(FrS.below HBW.out ((FrS.refl [bb] wr).setCell (Or.inl (by simp)) _) HBW.out.size (fun i hi=>by rw[List.mem_singleton.1 hi];exact HPB.out.2.2.2))⟩
      ·by_cases hp:0≤n
       ·by_cases hm:n≤c.slots - 1
        ·go_wp2_with fail
         go_ret
         rw[HPL.out]
         exact⟨by simp;omega,(FrS.below HBW.out ((FrS.refl [bb] wr).setCell (Or.inl (by simp)) _) HBW.out.size (fun i hi=>by rw[List.mem_singleton.1 hi];exact HPB.out.2.2.2))⟩
        ·go_wp2_with fail
         go_ret
         rw[HPL.out]
         exact⟨by simp;omega,(FrS.below HBW.out ((FrS.refl [bb] wr).setCell (Or.inl (by simp)) _) HBW.out.size (fun i hi=>by rw[List.mem_singleton.1 hi];exact HPB.out.2.2.2))⟩
       ·go_wp2_with fail
        go_ret
        rw[HPL.out]
        exact⟨by simp;intros;omega,(FrS.below HBW.out ((FrS.refl [bb] wr).setCell (Or.inl (by simp)) _) HBW.out.size (fun i hi=>by rw[List.mem_singleton.1 hi];exact HPB.out.2.2.2))⟩
     ·go_wp2_with fail
      go_ret
      rw[HPL.out]
      exact⟨by simp;intros;omega,(FrS.below HBW.out ((FrS.refl [bb] wr).setCell (Or.inl (by simp)) _) HBW.out.size (fun i hi=>by rw[List.mem_singleton.1 hi];exact HPB.out.2.2.2))⟩
    ·by_cases h21:op=21
     ·subst h21
      have hqq:=hq d n
      have HPL:=Lib.hid (plain21 c.slots c.inputs.length d a b cc n N HNN.out)
      generalize ((((21:Int)==21)&&(d==d)&&(a==nilF 0 N a)&&(b==nilF 1 N b)&&(cc==nilF 2 N cc)&&(n==n)))=E at hqq HPL
      clear hq hw2
      by_cases hn:0≤N
      ·cases E
       ·go_wp2_with fail
        go_ret
        rw[HPL.out]
        exact⟨by simp,HBW.out⟩
       ·by_cases hp:0≤n
        ·by_cases hm:n≤c.slots - 1
         ·go_wp2_with fail
          go_ret
          rw[HPL.out]
          exact⟨by simp;omega,HBW.out⟩
         ·go_wp2_with fail
          go_ret
          rw[HPL.out]
          exact⟨by simp;omega,HBW.out⟩
        ·go_wp2_with fail
         go_ret
         rw[HPL.out]
         exact⟨by simp;intros;omega,HBW.out⟩
      ·go_wp2_with fail
       go_ret
       rw[HPL.out]
       exact⟨by simp;intros;omega,HBW.out⟩
     ·by_cases h3:op=3
      ·subst h3
       have hqq:=hq d n
       have HPL:=Lib.hid (plain3 c.slots c.inputs.length d a b cc n N HNN.out)
       generalize ((((3:Int)==3)&&(d==d)&&(a==nilF 0 N a)&&(b==nilF 1 N b)&&(cc==nilF 2 N cc)&&(n==n)))=E at hqq HPL
       clear hq hw1
       by_cases hn:0≤N
       ·cases E
        ·go_wp2_with fail
         go_ret
         rw[HPL.out]
         exact⟨by simp,HBW.out⟩
        ·by_cases hp:0≤n
         ·by_cases hm:n≤(c.inputs.length:Int) - 1
          ·go_wp2_with fail
           go_ret
           rw[HPL.out]
           exact⟨by simp;omega,HBW.out⟩
          ·go_wp2_with fail
           go_ret
           rw[HPL.out]
           exact⟨by simp;omega,HBW.out⟩
         ·go_wp2_with fail
          go_ret
          rw[HPL.out]
          exact⟨by simp;intros;omega,HBW.out⟩
       ·go_wp2_with fail
        go_ret
        rw[HPL.out]
        exact⟨by simp;intros;omega,HBW.out⟩
      ·by_cases h2:op=2
       ·subst h2
        have hqq:=hq d n
        have HPL:=Lib.hid (plain2 c.slots c.inputs.length d a b cc n N HNN.out)
        generalize ((((2:Int)==2)&&(d==d)&&(a==nilF 0 N a)&&(b==nilF 1 N b)&&(cc==nilF 2 N cc)&&(n==n)))=E at hqq HPL
        clear hq hw1 hw2
        by_cases hn:0≤N
        ·cases E
         ·go_wp2_with fail
          go_ret
          rw[HPL.out]
          exact⟨by simp,HBW.out⟩
         ·by_cases hp:0≤n
          ·by_cases hm:n≤1
           ·go_wp2_with fail
            go_ret
            rw[HPL.out]
            exact⟨by simp;omega,HBW.out⟩
           ·go_wp2_with fail
            go_ret
            rw[HPL.out]
            exact⟨by simp;omega,HBW.out⟩
          ·go_wp2_with fail
           go_ret
           rw[HPL.out]
           exact⟨by simp;intros;omega,HBW.out⟩
        ·go_wp2_with fail
         go_ret
         rw[HPL.out]
         exact⟨by simp;intros;omega,HBW.out⟩
       ·have hqq:=hq d 0
        have HPL:=Lib.hid (plainO c.slots c.inputs.length op d a b cc n N h1 h2 h3 h21 h30 HNN.out)
        generalize (((op==op)&&(d==d)&&(a==nilF 0 N a)&&(b==nilF 1 N b)&&(cc==nilF 2 N cc)&&(n==0)))=E at hqq HPL
        have e1:(op==1)=false:=by simpa using h1
        have e30:(op==30)=false:=by simpa using h30
        have e21:(op==21)=false:=by simpa using h21
        have e3:(op==3)=false:=by simpa using h3
        have e2:(op==2)=false:=by simpa using h2
        clear hq hw1 hw2 h1 h2 h3 h21 h30
        by_cases hn:0≤N
        ·cases E
         ·go_wp2_with fail
          go_ret
          rw[HPL.out]
          exact⟨by simp,(FrS.below HBW.out ((FrS.refl [bb] wr).setCell (Or.inl (by simp)) _) HBW.out.size (fun i hi=>by rw[List.mem_singleton.1 hi];exact HPB.out.2.2.2))⟩
         ·by_cases hp:0≤n
          ·by_cases hm:n≤0
           ·go_wp2_with fail
            go_ret
            rw[HPL.out]
            exact⟨by simp;omega,(FrS.below HBW.out ((FrS.refl [bb] wr).setCell (Or.inl (by simp)) _) HBW.out.size (fun i hi=>by rw[List.mem_singleton.1 hi];exact HPB.out.2.2.2))⟩
           ·go_wp2_with fail
            go_ret
            rw[HPL.out]
            exact⟨by simp;omega,(FrS.below HBW.out ((FrS.refl [bb] wr).setCell (Or.inl (by simp)) _) HBW.out.size (fun i hi=>by rw[List.mem_singleton.1 hi];exact HPB.out.2.2.2))⟩
          ·go_wp2_with fail
           go_ret
           rw[HPL.out]
           exact⟨by simp;intros;omega,(FrS.below HBW.out ((FrS.refl [bb] wr).setCell (Or.inl (by simp)) _) HBW.out.size (fun i hi=>by rw[List.mem_singleton.1 hi];exact HPB.out.2.2.2))⟩
        ·go_wp2_with fail
         go_ret
         rw[HPL.out]
         exact⟨by simp;intros;omega,(FrS.below HBW.out ((FrS.refl [bb] wr).setCell (Or.inl (by simp)) _) HBW.out.size (fun i hi=>by rw[List.mem_singleton.1 hi];exact HPB.out.2.2.2))⟩
end Go.Proofs.YtbdbhdcbdfbnnaaGreatDoor
namespace Go.Proofs.YtbdbhdcbdfbnnaaGreatDoor
namespace Dd
abbrev Nd:=Nat×Nat×Nat
def T (ns:List Nd) (f:Nat):Nat:=(ns.getD f (0,0,0)).1
def L (ns:List Nd) (f:Nat):Nat:=(ns.getD f (0,0,0)).2.1
def H (ns:List Nd) (f:Nat):Nat:=(ns.getD f (0,0,0)).2.2
def ev (ns:List Nd) (env:Nat→Bool):Nat→Nat→Bool
 | 0,f=>f==1
 | k+1,f=>if f≤1 then f==1 else if env (T ns f) then ev ns env k (H ns f) else ev ns env k (L ns f)
end Dd
end Go.Proofs.YtbdbhdcbdfbnnaaGreatDoor
namespace Go.Proofs.YtbdbhdcbdfbnnaaGreatDoor
open Go.RowKit
structure Fr (S:Nat→Prop) (w w':World):Prop where
 os:w'.os=w.os
 tape:w'.tape=w.tape
 output:w'.output=w.output
 size:w.heap.size≤w'.heap.size
 block:∀ k,k<w.heap.size→¬ S k→w'.heap[k]?=w.heap[k]?
theorem Fr.refl (S:Nat→Prop) (w:World):Fr S w w:=⟨rfl,rfl,rfl,Nat.le_refl _,fun _ _ _=>rfl⟩
theorem Fr.trans {S S':Nat→Prop} {a b c:World} (h:Fr S a b) (k:Fr S' b c) (hs:∀ i,i<a.heap.size→S' i→S i):Fr S a c :=
 ⟨k.os.trans h.os,k.tape.trans h.tape,k.output.trans h.output,Nat.le_trans h.size k.size,fun i hi hn=>(k.block i (Nat.lt_of_lt_of_le hi h.size) (fun q=>hn (hs i hi q))).trans (h.block i hi hn)⟩
theorem Fr.mono {S S':Nat→Prop} {a b:World} (h:Fr S a b) (hs:∀ i,i<a.heap.size→S i→S' i):Fr S' a b :=
 ⟨h.os,h.tape,h.output,h.size,fun i hi hn=>h.block i hi fun q=>hn (hs i hi q)⟩
theorem Fr.cell {S:Nat→Prop} {w w':World} (h:Fr S w w') {p:Addr} (hp:p.block<w.heap.size) (hn:¬ S p.block):w'.cell? p=w.cell? p:=World.cell?_of_block (w:=w) (h.block p.block hp hn)
theorem Fr.below {S:Nat→Prop} {a w w':World} {B:Nat} (h:Below B a w) (k:Fr S w w') (hB:B≤w.heap.size) (hs:∀ i,S i→B≤i):Below B a w' :=
 ⟨k.os.trans h.os,k.tape.trans h.tape,k.output.trans h.output,Nat.le_trans h.size k.size,fun i hi=>(k.block i (by omega) (fun q=>by have:=hs i q;omega)).trans (h.block i hi)⟩
theorem Fr.of_below {w w':World} (h:Below w.heap.size w w') (S:Nat→Prop):Fr S w w':=⟨h.os,h.tape,h.output,h.size,fun k hk _=>h.block k hk⟩
theorem Fr.ownsRow {S:Nat→Prop} {w w':World} (h:Fr S w w') {base e size n:Nat} {v:Value} {xs:List Value} (ho:w.ownsRow base e size v n xs) (hn:∀ k,v.ownBlock=some k→¬ S k):w'.ownsRow base e size v n xs:=by
 have hlt:=ho.lt
 obtain⟨h1,h2⟩:=ho
 refine⟨h1,?_⟩
 rcases h2 with h2 | ⟨g,cap,cur,rfl,hg,hh,r⟩
 ·exact Or.inl h2
 ·exact Or.inr ⟨g,cap,cur,rfl,hg,by rw[h.block g (hlt g rfl).2 (hn g rfl)];exact hh,r⟩
structure KeyLaw' (P:Program) (k:TypeId) {κ:Type} (code:κ→Value):Prop where
 inj:∀ a b,code a=code b→a=b
 check:∀ (b:Bool) (x:κ) (w:World),(Instr.checkKey b 10000 k (code x)).run P w=.ok () w
 find:∀ (x:κ) (es:List MapEntry) (l:List κ),es.map (·.key)=l.map code→∀ w,∃ r,(Instr.findKey k (code x) es).run P w=.ok r w ∧
  ((r=none∧x ∉ l)∨∃ i e,r=some (i,e.val)∧es[i]?=some e∧l[i]?=some x∧∀ j,j<i→l[j]?≠some x)
 stays:∀ (x:κ) (w:World),(Instr.keyThatStays (code x) (code x)).run P w=.ok (code x) w
def MapIs {κ ν:Type} (kc:κ→Value) (vc:ν→Value) (w:World) (m:Nat) (l:List (κ×ν)):Prop :=
 ∃ es clock,w.heap[m]?=some (.map es clock)∧es.toList.map (fun e=>(e.key,e.val))=l.map (fun p=>(kc p.1,vc p.2))
theorem MapIs.lt {κ ν:Type} {kc:κ→Value} {vc:ν→Value} {w:World} {m:Nat} {l:List (κ×ν)} (h:MapIs kc vc w m l):m<w.heap.size:=by
 obtain⟨es,clock,hb,_⟩:=h
 exact (Array.getElem?_eq_some_iff.1 hb).1
theorem MapIs.of_block {κ ν:Type} {kc:κ→Value} {vc:ν→Value} {w w':World} {m:Nat} {l:List (κ×ν)} (h:MapIs kc vc w m l) (hb:w'.heap[m]?=w.heap[m]?):MapIs kc vc w' m l:=by
 obtain⟨es,clock,h1,h2⟩:=h
 exact⟨es,clock,hb.trans h1,h2⟩
theorem MapIs.made {κ ν:Type} (kc:κ→Value) (vc:ν→Value) (w:World):MapIs kc vc (w.alloc (.map #[] 0)) w.heap.size [] :=
 ⟨#[],0,(MapKept.heap_alloc w _).1,rfl⟩
def look {κ ν:Type} [DecidableEq κ] (x:κ):List (κ×ν)→Option ν
 | []=>none
 | p :: r=>if p.1=x then some p.2 else look x r
theorem look_at {κ ν:Type} [DecidableEq κ] (x:κ):∀ (l:List (κ×ν)) (i:Nat) (v:ν),l[i]?=some (x,v)→(∀ j,j<i→(l[j]?).map (·.1)≠some x)→look x l=some v
 | [],i,v,h,_=>by simp at h
 | p :: r,0,v,h,_=>by simp at h;subst h;simp[look]
 | p :: r,i+1,v,h,hn=>by
  have h0:=hn 0 (by omega)
  simp at h0 h
  rw[look,if_neg h0]
  exact look_at x r i v h fun j hj=>by have:=hn (j+1) (by omega);simpa using this
theorem look_none {κ ν:Type} [DecidableEq κ] (x:κ):∀ (l:List (κ×ν)),(x ∉ l.map (·.1))→look x l=none
 | [],_=>rfl
 | p :: r,h=>by
  simp at h
  rw[look,if_neg (fun e=>h.1 e.symm)]
  exact look_none x r (by simpa using h.2)
theorem MapIs.lookup {P:Program} {κ ν:Type} [DecidableEq κ] {kc:κ→Value} {vc:ν→Value} {w:World} {m:Nat} {l:List (κ×ν)} {t k e:TypeId} (h:MapIs kc vc w m l) (K:KeyLaw' P k kc) (ht:P.underlying t=some (.map k e))
  {z:Value} (hz:∀ w,(zeroValue e).run P w=.ok z w) (x:κ) :
  (Instr.lookup t (.map (some m)) (kc x) true).run P w=.ok (.tuple #[((look x l).map vc).getD z,.bool (look x l).isSome]) w:=by
 obtain⟨es,clock,hb,hl⟩:=h
 have hk:es.toList.map (·.key)=(l.map (·.1)).map kc:=by
  have:=congrArg (List.map Prod.fst) hl
  simpa [Function.comp_def] using this
 obtain⟨r,hr,hcase⟩:=K.find x es.toList (l.map (·.1)) hk w
 have hget:(getObj m).run P w=.ok (.map es clock) w:=by simp[getObj,Sem.run,hb]
 rcases hcase with ⟨rfl,hno⟩ | ⟨i,en,rfl,hi,hli,hfirst⟩
 ·have hn:=look_none x l hno
  simp[Instr.lookup,run_underlying ht,hget,K.check,hr,hz,hn,go_sem]
 ·obtain⟨p,hp⟩ : ∃ p,l[i]?=some p∧p.1=x:=by
   rw[List.getElem?_map] at hli
   obtain⟨p,h1,h2⟩:=Option.map_eq_some_iff.1 hli
   exact⟨p,h1,h2⟩
  obtain⟨hp1,rfl⟩:=hp
  have hv:en.val=vc p.2:=by
   have:=congrArg (fun q=>(q[i]?).map Prod.snd) hl
   simpa [hi,hp1] using this
  have hsome:look p.1 l=some p.2:=look_at _ l i p.2 (by rw[hp1]) fun j hj=>by
   have:=hfirst j hj
   rw[List.getElem?_map] at this
   exact this
  simp[Instr.lookup,run_underlying ht,hget,K.check,hr,hsome,hv,go_sem]
def putAt {κ ν:Type} [DecidableEq κ] (x:κ) (v:ν):List (κ×ν)→List (κ×ν)
 | []=>[(x,v)]
 | p :: r=>if p.1=x then (x,v) :: r else p :: putAt x v r
theorem putAt_none {κ ν:Type} [DecidableEq κ] (x:κ) (v:ν):∀ (l:List (κ×ν)),x ∉ l.map (·.1)→putAt x v l=l++[(x,v)]
 | [],_=>rfl
 | p :: r,h=>by
  simp at h
  rw[putAt,if_neg (fun e=>h.1 e.symm),putAt_none x v r (by simpa using h.2)];rfl
theorem putAt_at {κ ν:Type} [DecidableEq κ] (x:κ) (v:ν):∀ (l:List (κ×ν)) (i:Nat),(l[i]?).map (·.1)=some x→(∀ j,j<i→(l[j]?).map (·.1)≠some x)→putAt x v l=l.set i (x,v)
 | [],i,h,_=>by simp at h
 | p :: r,0,h,_=>by simp at h;simp[putAt,h]
 | p :: r,i+1,h,hn=>by
  have h0:=hn 0 (by omega)
  simp at h0 h
  rw[putAt,if_neg h0,putAt_at x v r i (by simpa using h) fun j hj=>by have:=hn (j+1) (by omega);simpa using this]
  rfl
theorem look_putAt {κ ν:Type} [DecidableEq κ] (x y:κ) (v:ν):∀ (l:List (κ×ν)),look y (putAt x v l)=if x=y then some v else look y l
 | []=>by simp[putAt,look]
 | p :: r=>by
  rw[putAt]
  split
  ·rename_i e;subst e;simp only[look];split <;> simp_all
  ·rename_i e
   simp only[look,look_putAt x y v r]
   split <;> split <;> simp_all
theorem MapIs.update {P:Program} {κ ν:Type} [DecidableEq κ] {kc:κ→Value} {vc:ν→Value} {w:World} {m:Nat} {l:List (κ×ν)} {t k e:TypeId} (h:MapIs kc vc w m l) (K:KeyLaw' P k kc) (ht:P.underlying t=some (.map k e)) (x:κ) (v:ν) :
  ∃ w',(Instr.mapUpdate t (.map (some m)) (kc x) (vc v)).run P w=.ok () w'∧MapIs kc vc w' m (putAt x v l)∧w.grownBy w' (some m):=by
 have hlt:=h.lt
 obtain⟨es,clock,hb,hl⟩:=h
 have hk:es.toList.map (·.key)=(l.map (·.1)).map kc:=by
  have:=congrArg (List.map Prod.fst) hl
  simpa [Function.comp_def] using this
 obtain⟨r,hr,hcase⟩:=K.find x es.toList (l.map (·.1)) hk w
 have hget:(getObj m).run P w=.ok (.map es clock) w:=by simp[getObj,Sem.run,hb]
 have hset:∀ o,(setObj m o).run P w=.ok () { w with heap:=w.heap.setIfInBounds m o }:=fun o=>by simp[setObj,Sem.run,hb]
 have hgrown:∀ o,w.grownBy { w with heap:=w.heap.setIfInBounds m o } (some m):=fun o =>
  ⟨rfl,rfl,rfl,by simp,fun i hi hne=>by simp only[Array.getElem?_setIfInBounds];rw[if_neg (fun e=>hne (by rw[e]))]⟩
 rcases hcase with ⟨rfl,hno⟩ | ⟨i,en,rfl,hi,hli,hfirst⟩
 ·refine⟨{ w with heap:=w.heap.setIfInBounds m (.map (es.push { key:=kc x,val:=vc v,born:=clock }) (clock+1)) },?_,⟨_,_,by simp[hlt];exact⟨rfl,rfl⟩,?_⟩,hgrown _⟩
  ·simp[Instr.mapUpdate,run_underlying ht,hget,hset,K.check,hr,go_sem]
  ·rw[putAt_none x v l hno];simp[hl]
 ·obtain⟨p,hp1,hp2⟩ : ∃ p,l[i]?=some p∧p.1=x:=by
   rw[List.getElem?_map] at hli
   obtain⟨p,h1,h2⟩:=Option.map_eq_some_iff.1 hli
   exact⟨p,h1,h2⟩
  have hkey:en.key=kc x:=by
   have:=congrArg (fun q=>(q[i]?).map Prod.fst) hl
   simp[hi,hp1,hp2] at this
   exact this
  have hi':es[i]?=some en:=by simpa using hi
  refine⟨{ w with heap:=w.heap.setIfInBounds m (.map (es.modify i fun e=>{ e with key:=kc x,val:=vc v }) clock) },?_,⟨_,_,by simp[hlt];exact⟨rfl,rfl⟩,?_⟩,hgrown _⟩
  ·simp[Instr.mapUpdate,run_underlying ht,hget,hset,K.check,hr,hi',hkey,K.stays,go_sem]
  ·rw[putAt_at x v l i (by rw[hp1];simp[hp2]) (fun j hj=>by have:=hfirst j hj;rw[List.getElem?_map] at this;exact this)]
   apply List.ext_getElem?
   intro j
   have hj:=congrArg (fun q=>q[j]?) hl
   simp only[List.getElem?_map] at hj ⊢
   simp only[Array.getElem?_toList,Array.getElem?_modify,List.getElem?_set]
   simp only[Array.getElem?_toList] at hj
   by_cases e:i=j
   ·subst e
    have hlen:i<l.length:=(List.getElem?_eq_some_iff.1 hp1).1
    simp[hi',hlen]
   ·simp[e,hj]
theorem wpList_update_is {P:Program} {κ ν:Type} [DecidableEq κ] {kc:κ→Value} {vc:ν→Value} {w:World} {ops:Array Oper} {rest:List Oper} {o:Oper} {a:Act} {Q:Exit→Act→World→Prop}
  (hg:o.guard=none) (m x v:Operand) (t:TypeId) (hop:o.op=Op.mapUpdate t m x v) {k e:TypeId} (K:KeyLaw' P k kc) (ht:P.underlying t=some (.map k e)) {mb:Nat} {l:List (κ×ν)} (hM:MapIs kc vc w mb l)
  (hm:a.eval m=.map (some mb)) (key:κ) (val:ν) (hx:a.eval x=kc key) (hv:a.eval v=vc val)
  (hK:∀ w',MapIs kc vc w' mb (putAt key val l)→w.grownBy w' (some mb)→wpList P ops Q rest (a.put o.dst undef) w'):wpList P ops Q (o :: rest) a w:=by
 refine wpList_plain hg fun K' hK'=>?_
 obtain⟨w',hrun,r1,r2⟩:=hM.update K ht key val
 unfold Oper.wp
 simp[execOp,hop,hm,hx,hv,hrun,Result.andThen]
 exact hK' _ _ (hK w' r1 r2)
theorem keyLaw_int {P:Program} {k:TypeId} (hk:P.underlying k=some (.int .i64)):KeyLaw' P k (fun n:Int=>Value.int .i64 n) where
 inj a b h:=by simpa using h
 check b x w:=by
  show (Instr.checkKey b (9999+1) k (.int .i64 x)).run P w=.ok () w
  rw[Instr.checkKey]
  simp[run_underlying hk,go_sem]
 find x es l hl w:=by
  have key:∀ (es:List MapEntry) (l:List Int) (i:Nat),es.map (·.key)=l.map (fun n:Int=>Value.int .i64 n) →
    ∃ r,Instr.findNow (.int .i64) (.int .i64 x) es i=some r∧((r=none∧x ∉ l)∨∃ j e,r=some (i+j,e.val)∧es[j]?=some e∧l[j]?=some x∧∀ j',j'<j→l[j']?≠some x):=by
   intro es
   induction es with
   | nil=>intro l i h;cases l <;> simp at h;exact⟨none,rfl,Or.inl ⟨rfl,by simp⟩⟩
   | cons e es ih =>
    intro l i h
    cases l with
    | nil=>simp at h
    | cons y l =>
     simp at h
     obtain⟨he,h⟩:=h
     simp only[Instr.findNow,he,Instr.sameNow,if_true]
     by_cases hxy:x=y
     ·subst hxy
      simp only[beq_self_eq_true]
      exact⟨_,rfl,Or.inr ⟨0,e,rfl,rfl,rfl,by simp⟩⟩
     ·have:(x==y)=false:=by simpa using hxy
      simp only[this]
      obtain⟨r,h1,h2⟩:=ih l (i+1) h
      refine⟨r,h1,?_⟩
      rcases h2 with ⟨rfl,hn⟩ | ⟨j,e',rfl,h3,h4,h5⟩
      ·exact Or.inl ⟨rfl,by simp[hxy,hn]⟩
      ·refine Or.inr ⟨j+1,e',by simp;omega,by simpa using h3,by simpa using h4,?_⟩
       intro j' hj'
       cases j' with
       | zero=>simp;exact fun e=>hxy e.symm
       | succ j'=>simpa using h5 j' (by omega)
  obtain⟨r,h1,h2⟩:=key es l 0 hl
  refine⟨r,?_,by simpa using h2⟩
  simp[Instr.findKey,run_underlying hk,h1,go_sem]
 stays x w:=by
  have h:Instr.sameBits 10000 (.int .i64 x) (.int .i64 x)=true:=by rw[Instr.sameBits];simp
  simp[Instr.keyThatStays,h,go_sem]
end Go.Proofs.YtbdbhdcbdfbnnaaGreatDoor
namespace Go.Proofs.YtbdbhdcbdfbnnaaGreatDoor
open Go.RowKit
set_option maxRecDepth 100000
theorem MapIs.look1 {P:Program} {κ ν:Type} [DecidableEq κ] {kc:κ→Value} {vc:ν→Value} {w:World} {m:Nat} {l:List (κ×ν)} {t k e:TypeId} (h:MapIs kc vc w m l) (K:KeyLaw' P k kc) (ht:P.underlying t=some (.map k e))
  {z:Value} (hz:∀ w,(zeroValue e).run P w=.ok z w) (x:κ) :
  (Instr.lookup t (.map (some m)) (kc x) false).run P w=.ok (((look x l).map vc).getD z) w:=by
 obtain⟨es,clock,hb,hl⟩:=h
 have hk:es.toList.map (·.key)=(l.map (·.1)).map kc:=by
  have:=congrArg (List.map Prod.fst) hl
  simpa [Function.comp_def] using this
 obtain⟨r,hr,hcase⟩:=K.find x es.toList (l.map (·.1)) hk w
 have hget:(getObj m).run P w=.ok (.map es clock) w:=by simp[getObj,Sem.run,hb]
 rcases hcase with ⟨rfl,hno⟩ | ⟨i,en,rfl,hi,hli,hfirst⟩
 ·have hn:=look_none x l hno
  simp[Instr.lookup,run_underlying ht,hget,K.check,hr,hz,hn,go_sem]
 ·obtain⟨p,hp⟩ : ∃ p,l[i]?=some p∧p.1=x:=by
   rw[List.getElem?_map] at hli
   obtain⟨p,h1,h2⟩:=Option.map_eq_some_iff.1 hli
   exact⟨p,h1,h2⟩
  obtain⟨hp1,rfl⟩:=hp
  have hv:en.val=vc p.2:=by
   have:=congrArg (fun q=>(q[i]?).map Prod.snd) hl
   simpa [hi,hp1] using this
  have hsome:look p.1 l=some p.2:=look_at _ l i p.2 (by rw[hp1]) fun j hj=>by
   have:=hfirst j hj
   rw[List.getElem?_map] at this
   exact this
  simp[Instr.lookup,run_underlying ht,hget,K.check,hr,hsome,hv,go_sem]
def kJ (n:Int):Value:=.int .i64 n
def vB (b:Bool):Value:=.bool b
theorem keyJ:KeyLaw' Tryz.prog 3 kJ:=keyLaw_int Tryz.underlying3
structure SetAt (w:World) (mb:Nat) (s:List Int):Prop where
 ex:∃ L,MapIs kJ vB w mb L∧∀ x,look x L=if x∈s then some true else none
theorem SetAt.lt {w:World} {mb:Nat} {s:List Int} (h:SetAt w mb s):mb<w.heap.size:=by obtain⟨L,h1,_⟩:=h.ex;exact h1.lt
theorem SetAt.of_block {w w':World} {mb:Nat} {s:List Int} (h:SetAt w mb s) (hb:w'.heap[mb]?=w.heap[mb]?):SetAt w' mb s:=by
 obtain⟨L,h1,h2⟩:=h.ex;exact⟨L,h1.of_block hb,h2⟩
theorem SetAt.fr {S:List Nat} {w w':World} {mb:Nat} {s:List Int} (h:SetAt w mb s) (hf:FrS S w w') (hn:mb ∉ S):SetAt w' mb s:=h.of_block (hf.block mb h.lt hn)
theorem SetAt.made (w:World):SetAt (w.alloc (.map #[] 0)) w.heap.size []:=⟨[],MapIs.made kJ vB w,fun x=>rfl⟩
theorem SetAt.lookup {w:World} {mb:Nat} {s:List Int} (h:SetAt w mb s) (x:Int):(Instr.lookup 118 (.map (some mb)) (.int .i64 x) false).run Tryz.prog w=.ok (.bool (decide (x∈s))) w:=by
 obtain⟨L,h1,h2⟩:=h.ex
 have:=h1.look1 keyJ Tryz.underlying118 (z:=.bool false) (fun w=>by kernel_rfl) x
 rw[h2 x] at this
 refine this.trans ?_
 by_cases hx:x∈s
 ·rw[if_pos hx,decide_eq_true hx];rfl
 ·rw[if_neg hx,decide_eq_false hx];rfl
theorem SetAt.puts {L:List (Int×Bool)} {s:List Int} (h:∀ x,look x L=if x∈s then some true else none) (d:Int):∀ x,look x (putAt d true L)=if x∈d :: s then some true else none:=by
 intro x
 rw[look_putAt,h x]
 by_cases e:d=x
 ·subst e;simp
 ·have e':x≠d:=fun q=>e q.symm
  rw[if_neg e];simp[e']
theorem SetAt.len {w:World} {mb:Nat} {s:List Int} (h:SetAt w mb s):∃ (es:Array MapEntry) (clock:Nat),w.heap[mb]?=some (.map es clock)∧(es.size=0↔s=[]):=by
 obtain⟨L,⟨es,clock,h1,h2⟩,h3⟩:=h.ex
 refine⟨es,clock,h1,?_⟩
 have hl:es.size=L.length:=by have:=congrArg List.length h2;simpa using this
 rw[hl]
 constructor
 ·intro h0
  have:L=[]:=List.eq_nil_of_length_eq_zero h0
  subst this
  cases s with
  | nil=>rfl
  | cons a s=>have:=h3 a;simp[look] at this
 ·intro h0
  subst h0
  cases L with
  | nil=>rfl
  | cons p L=>have:=h3 p.1;simp[look] at this
theorem SetAt.lens {w:World} {mb:Nat} {s:List Int} (h:SetAt w mb s):∃ N:Nat,(∀ ty,(Builtin.len_ #[118] ty #[.map (some mb)]).run Tryz.prog w=.ok (.int .i64 N) w)∧(N=0↔s=[]):=by
 obtain⟨es,clock,h1,h2⟩:=h.len
 have hget:(getObj mb).run Tryz.prog w=.ok (.map es clock) w:=by simp[getObj,Sem.run,h1]
 exact⟨es.size,fun ty=>by simp[Builtin.len_,run_underlying Tryz.underlying118,hget,goInt],h2⟩
set_option maxHeartbeats 1000000 in
theorem unwr_any {w:World} {wc mb:Nat} {s:List Int} (hw:Blk w wc #[.map (some mb)] 118) (hs:SetAt w mb s) (r:Int) :
  Calls Tryz.prog 52 #[.int .i64 r,.pointer (some ⟨wc,0,none⟩)] w fun e w'=>e=.returned (.bool (!decide (r∈s)))∧w'=w:=by
 have hl:=hs.lookup r
 have c0:w.cell? ⟨wc,0,none⟩=some (.map (some mb)):=hw.c rfl
 clear hw hs
 go_enter Tryz.func52,Tryz.ntmps52
 go_wp2_with fail
 go_ret
 exact⟨rfl,rfl⟩
set_option maxHeartbeats 1000000 in
theorem firstUn_any {w:World} {wc mb:Nat} {s:List Int} (hw:Blk w wc #[.map (some mb)] 118) (hs:SetAt w mb s) (l:List Int) (v:Value) (hv:Sl intC 1 w v l) (hl:l.length≤1000000) :
  Calls Tryz.prog 97 #[v,.func (.func 52) #[] #[.pointer (some ⟨wc,0,none⟩)]] w fun e w'=>∃ n:Int,e=.returned (.int .i64 n)∧w'=w∧decide (0≤n)=l.any (fun r=>!decide (r∈s)):=by
 obtain⟨a,c,rfl,hc,hx⟩:=hv.form
 have HW:=Lib.hid hw
 have HS:=Lib.hid hs
 have HX:=Lib.hid hx
 clear hw hs hx hv
 go_enter Tryz.func97,Tryz.ntmps97
 go_wp2_with fail
 go_loopw [5,8] (fun _ iv wr=>∃ k:Nat,k≤l.length∧iv=.int .i64 k∧wr=w∧(l.take k).any (fun r=>!decide (r∈s))=false) (fun _ iv _=>l.length - (intOf iv).toNat)
 case atStart=>exact⟨0,Nat.zero_le _,rfl,rfl,rfl⟩
 case round =>
  obtain⟨k,hk,rfl,rfl,hno⟩:=hrel
  have hk0:(0:Int)≤(k:Int):=by omega
  by_cases hlt:k<l.length
  ·obtain⟨r,hr⟩ : ∃ r,l[k]?=some r:=⟨_,List.getElem?_eq_getElem hlt⟩
   obtain⟨b,o,rfl,hcl⟩:=HX.out wr (Below.refl _ _) k r hr
   have c0:wr.cell? ⟨b,o+k,none⟩=some (.int .i64 r):=by have:=hcl 0 _ rfl;simpa using this
   have hkl:(k:Int)<(l.length:Int):=by omega
   have hcall:=unwr_any HW.out HS.out r
   have ht:(l.take (k+1)).any (fun r=>!decide (r∈s)) = !decide (r∈s):=by rw[List.take_add_one,hr];simp[hno]
   have HAN:Hid ((!decide (r∈s))=true→l.any (fun r=>!decide (r∈s))=true):=fun q=>List.any_eq_true.2 ⟨r,List.mem_of_getElem? hr,q⟩
   generalize (!decide (r∈s))=B at hcall ht HAN
   have HT:=Lib.hid ht
   clear hcl hr ht hno
   cases B
   ·go_wp2_with fail
    refine hcall.mono ?_
    rintro e w1 ⟨rfl,rfl⟩
    go_wp2_with fail
    go_roundw
    case rel=>exact⟨k+1,by omega,by go_num,by first | rfl | trivial,HT.out⟩
    case measure=>simp[intOf];omega
   ·go_wp2_with fail
    refine hcall.mono ?_
    rintro e w1 ⟨rfl,rfl⟩
    go_wp2_with fail
    go_ret
    exact⟨_,rfl,rfl,by rw[HAN.out (by first | rfl | trivial)];simp⟩
  ·have hkl:k=l.length:=by omega
   subst hkl
   rw[List.take_length] at hno
   have HNO:=Lib.hid hno
   clear hno
   go_wp2_with fail
   go_ret
   exact⟨_,rfl,rfl,by rw[HNO.out];simp⟩
set_option maxHeartbeats 1000000 in
theorem anyUn_any {w:World} {wc mb:Nat} {s:List Int} (hw:Blk w wc #[.map (some mb)] 118) (hs:SetAt w mb s) (l:List Int) (v:Value) (hv:Sl intC 1 w v l) (hl:l.length≤1000000) :
  Calls Tryz.prog 51 #[v,.func (.func 52) #[] #[.pointer (some ⟨wc,0,none⟩)]] w fun e w'=>e=.returned (.bool (l.any (fun r=>!decide (r∈s))))∧w'=w:=by
 have hcall:=firstUn_any hw hs l v hv hl
 clear hw hs hv
 go_enter Tryz.func51,Tryz.ntmps51
 go_wp2_with fail
 refine hcall.mono ?_
 rintro e w1 ⟨n,rfl,rfl,hn⟩
 have HN:=Lib.hid hn
 clear hn
 go_wp2_with fail
 go_ret
 exact⟨ret_bool HN.out,rfl⟩
end Go.Proofs.YtbdbhdcbdfbnnaaGreatDoor
