/- Machine: one instant, in all cases. -/
import Derived.Test.YtbdbhdcbdfbnnaaGreatDoorJ31
import Derived.Test.YtbdbhdcbdfbnnaaGreatDoorJ35
set_option linter.unusedVariables false
set_option linter.unusedSimpArgs false
namespace Go.Proofs.YtbdbhdcbdfbnnaaGreatDoor
open Go.RowKit
structure MsOk (c:Cx.Co) (m:Cx.Ms) (N:Int):Prop where
 len:m.sl.length=c.slots.toNat
 fits:∀ y∈m.sl,Cx.fits y=true
 steps:0≤m.steps∧m.steps≤N
 f:0≤m.f
theorem chkL_plain {regs slots:Int} {ins:Nat} : ∀ {l:List Cx.In} {s t:List Int×List Int},Cx.chkL regs slots ins l s=some t→∀ x∈l,Cx.plainS slots ins x=true
 | [],_,_,_,x,hx=>by simp at hx
 | y :: l,s,t,h,x,hx=>by
  have h:(match Cx.chk1 regs slots ins y s with | some t=>Cx.chkL regs slots ins l t | none=>none)=some t:=h
  cases hu:Cx.chk1 regs slots ins y s with
  | none=>rw[hu] at h;cases h
  | some u =>
   rw[hu] at h
   rcases List.mem_cons.1 hx with rfl | hx
   ·unfold Cx.chk1 at hu
    split at hu
    ·cases hu
    ·rename_i hp
     cases e:Cx.plainS slots ins x with
     | true=>rfl
     | false=>exact absurd e hp
   ·exact chkL_plain h x hx
theorem okS_nums {c:Cx.Co} (h:Cx.okS c=true):∀ x∈c.ins,x.op=1∨x.op=2→Cx.fits x.n=true:=by
 intro x hx ho
 unfold Cx.okS at h
 rw[Bool.and_eq_true] at h
 obtain⟨_,h2⟩:=h
 split at h2
 ·rename_i w s hw
  have hp:=chkL_plain hw x hx
  have hn:=(Cx.plainS_parts hp).2.2
  unfold Cx.numS at hn
  rcases ho with ho | ho
  ·rw[if_neg (by omega),if_pos ho] at hn;exact hn
  ·rw[if_neg (by omega),if_neg (by omega),if_pos ho] at hn
   simp only[decide_eq_true_eq] at hn
   unfold Cx.fits
   rw[decide_eq_true_eq];omega
 ·cases h2
theorem begin_ok {c:Cx.Co} : MsOk c (Cx.beginS c) 0 :=
 ⟨by show (List.replicate _ _).length=_;simp,fun y hy=>by rw[(List.mem_replicate.1 hy).2];rfl,⟨Int.le_refl _,Int.le_refl _⟩,Int.le_refl _⟩
theorem MsOk.step {c:Cx.Co} {m:Cx.Ms} {N:Int} (h:MsOk c m N) (hok:Cx.okS c=true) (inp:List Int):MsOk c (Cx.stepS c m inp).2 (N+1):=by
 have hs:=h.steps
 unfold Cx.stepS
 split
 ·exact⟨h.len,h.fits,⟨hs.1,by show m.steps≤_;omega⟩,h.f⟩
 ·split
  ·exact⟨h.len,h.fits,⟨hs.1,by show m.steps≤_;omega⟩,by show (0:Int)≤17;decide⟩
  ·rename_i hb
   have hb':Cx.frameS c.inputs inp=true:=by cases e:Cx.frameS c.inputs inp with | true=>rfl | false=>exact absurd e hb
   have hr:=Cx.runS_ok (first:=(m.steps==0)) (Cx.frame_fits hb').2 h.fits (l:=c.ins) (okS_nums hok) (Cx.zero_ok (R:=c.regs.toNat) h.len h.fits)
   dsimp only
   split
   ·exact⟨h.len,h.fits,⟨hs.1,by show m.steps≤_;omega⟩,hr.f⟩
   ·exact⟨hr.nx,hr.nf,⟨by show 0≤m.steps+1;omega,by show m.steps+1≤_;omega⟩,Int.le_refl _⟩
theorem step_any {w:World} {M:List Nat} {mb rb:Nat} {c:Cx.Co} {m:Cx.Ms} {N:Int} (h:MachAt w M mb rb c m) (hok:Cx.okS c=true) (hm:MsOk c m N) (hN:N≤1000000000) (hol:c.outs.length≤1000000) (hM:∀ i∈M,i<w.heap.size) (inp:List Int) (vin:Value) (hin:SlN intC 1 [mb,rb] w vin inp)
  (h64:∀ n∈inp,-9223372036854775808≤n∧n≤9223372036854775807) (hl:inp.length≤1000000):Calls Tryz.prog 12 #[.pointer (some ⟨mb,0,none⟩),vin] w (StepPost w M mb rb c m inp):=by
 have hco:=Cx.okS_ok hok
 by_cases hf:m.f=0
 ·cases hb:Cx.frameS c.inputs inp with
  | false=>exact step_frame h inp vin hf hin.sl h64 hl hb
  | true =>
   have hil:=(Cx.frame_fits hb).1
   have hs:=hm.steps
   exact step_run h inp vin hf hin h64 hl hb ⟨hco.size.1,hco.size.2.1⟩ ⟨hco.size.2.2.1,hco.size.2.2.2.1⟩ hm.len hco.size.2.2.2.2 hol hco.outs hM (fun x hx=>by rw[hil];exact hco.ins x hx) (okS_nums hok) hm.fits ⟨hs.1,by omega⟩
 ·exact step_faulty h inp vin hf
end Go.Proofs.YtbdbhdcbdfbnnaaGreatDoor
