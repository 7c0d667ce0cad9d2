/- Machine: a machine that is none; small methods: the walks. Machine: one instant, by the program: where nothing runs; the registers cleared: the walks. Machine: live of law 18, in any world that bears the words; the law MachineNil. -/
import Derived.Deep.Upon
import Derived.Test.YtbdbhdcbdfbnnaaGreatDoorJ9
import Derived.Test.YtbdbhdcbdfbnnaaGreatDoorJ10
import Derived.Test.YtbdbhdcbdfbnnaaGreatDoorJ12
import Derived.Test.YtbdbhdcbdfbnnaaGreatDoorJ22
import Derived.Test.YtbdbhdcbdfbnnaaGreatDoorJ30
set_option linter.unusedVariables false
set_option linter.unusedSimpArgs false
namespace Go.Proofs.YtbdbhdcbdfbnnaaGreatDoor
open Go.RowKit
set_option maxRecDepth 100000
theorem fault_any {w:World} {M:List Nat} {mb rb:Nat} {c:Cx.Co} {m:Cx.Ms} (h:MachAt w M mb rb c m):Calls Tryz.prog 15 #[.pointer (some ⟨mb,0,none⟩)] w fun e w'=>e=.returned (.int .i64 m.f)∧w'=w:=by
 obtain⟨_,_,_,_,_,_,k1,-⟩:=h.ex
 have c8:w.cell? ⟨mb,8,none⟩=some (.int .i64 m.f):=k1.c rfl
 clear h k1
 go_enter Tryz.func15,Tryz.ntmps15
 go_wp2_with fail
 go_ret
 exact⟨rfl,rfl⟩
theorem steps_any {w:World} {M:List Nat} {mb rb:Nat} {c:Cx.Co} {m:Cx.Ms} (h:MachAt w M mb rb c m):Calls Tryz.prog 16 #[.pointer (some ⟨mb,0,none⟩)] w fun e w'=>e=.returned (.int .i64 m.steps)∧w'=w:=by
 obtain⟨_,_,_,_,_,_,k1,-⟩:=h.ex
 have c7:w.cell? ⟨mb,7,none⟩=some (.int .i64 m.steps):=k1.c rfl
 clear h k1
 go_enter Tryz.func16,Tryz.ntmps16
 go_wp2_with fail
 go_ret
 exact⟨rfl,rfl⟩
theorem state_any {w:World} {M:List Nat} {mb rb:Nat} {c:Cx.Co} {m:Cx.Ms} (h:MachAt w M mb rb c m) (hl:m.sl.length≤1000000):Calls Tryz.prog 17 #[.pointer (some ⟨mb,0,none⟩)] w fun e w'=>∃ u,e=.returned u∧(∀ M':List Nat,(∀ i∈M',i<w.heap.size)→SlN intC 1 M' w' u m.sl)∧Below w.heap.size w w':=by
 obtain⟨_,_,_,_,vs,_,k1,-,-,-,-,-,k7⟩:=h.ex
 have hcl:=cloneI_any m.sl vs w k7.sl hl
 have c6:w.cell? ⟨mb,6,none⟩=some vs:=k1.c rfl
 obtain⟨a,c',rfl,-,-⟩:=k7.sl.form
 obtain⟨n,hn⟩ : ∃ n,n=m.sl.length:=⟨_,rfl⟩
 rw[← hn] at hcl c6
 have HN:=Lib.hid hn
 clear h k1 k7 hn
 go_enter Tryz.func17,Tryz.ntmps17
 go_wp2_with fail
 refine hcl.mono ?_
 rintro e W1 ⟨u,rfl,hown,hb1⟩
 have HO:=Lib.hid hown
 clear hown
 go_wp2_with fail
 go_ret
 exact⟨u,rfl,fun M' hM=>ownsRow_apart intC_len HO.out HN.out.symm hM,hb1⟩
end Go.Proofs.YtbdbhdcbdfbnnaaGreatDoor
namespace Go.Proofs.YtbdbhdcbdfbnnaaGreatDoor
open Go.RowKit
set_option maxRecDepth 100000
theorem regs_cleared {w:World} {rb n c:Nat} {r:List Int} (h:RegsL w rb 0 (.slice (some ⟨rb,0,none⟩) n c) r) (hn:r.length=n) (h0:0<n) :
  RegsL (w.setCells rb 0 (List.replicate n (.int .i64 0))) rb 0 (.slice (some ⟨rb,0,none⟩) n c) (List.replicate n 0)∧FrS [rb] w (w.setCells rb 0 (List.replicate n (.int .i64 0)))∧(w.setCells rb 0 (List.replicate n (.int .i64 0))).heap.size=w.heap.size:=by
 have hne:r≠[]:=fun e=>by rw[e] at hn;simp at hn;omega
 obtain⟨_,_,he,hc,ha,hx⟩:=h.form
 have hlt:=h.lt hne
 injection he with _ _ hcc
 subst hcc
 have hsz:∀ (vs:List Value) (o:Nat) (w:World),(w.setCells rb o vs).heap.size=w.heap.size:=by
  intro vs
  induction vs with
  | nil=>intro o w;rfl
  | cons v vs ih=>intro o w;unfold World.setCells;rw[ih];simp
 have hos:∀ (vs:List Value) (o:Nat) (w:World),(w.setCells rb o vs).os=w.os∧(w.setCells rb o vs).tape=w.tape∧(w.setCells rb o vs).output=w.output:=by
  intro vs
  induction vs with
  | nil=>intro o w;exact⟨rfl,rfl,rfl⟩
  | cons v vs ih=>intro o w;unfold World.setCells;exact ih _ _
 have hcell:∀ j,j<n→(w.cell? ⟨rb,j,none⟩).isSome=true:=fun j hj=>by
  have:=(hx j r[j] (List.getElem?_eq_getElem (by omega))).1
  rw[Nat.zero_add] at this
  rw[this];rfl
 refine⟨Or.inr ⟨c,by rw[List.length_replicate],by rw[List.length_replicate];omega,by rw[hsz];exact hlt,fun i x hi=>?_⟩,⟨(hos _ _ _).1,(hos _ _ _).2.1,(hos _ _ _).2.2,Nat.le_of_eq (hsz _ _ _).symm,fun k hk hnk=>World.heap_setCells_other _ _ _ _ hk (fun e=>hnk (by simp[e]))⟩,hsz _ _ _⟩
 rw[List.getElem?_replicate] at hi
 split at hi
 ·rename_i hin
  cases hi
  refine⟨?_,?_⟩
  ·have h1:=World.cell?_setCells_in rb (List.replicate n (.int .i64 0)) 0 w (fun j hj=>by rw[Nat.zero_add];exact hcell j (by simpa using hj)) i (by simpa using hin)
   rw[h1];simp
  ·rw[World.frozen?_setCells]
   have:=(hx i r[i] (List.getElem?_eq_getElem (by omega))).2
   exact this
 ·cases hi
def StepPost (w:World) (M:List Nat) (mb rb:Nat) (c:Cx.Co) (m:Cx.Ms) (inp:List Int) (e:Ending) (w':World):Prop :=
 ∃ u,e=.returned (.tuple #[u,.int .i64 (Cx.stepS c m inp).2.f])∧FrS [mb,rb] w w'∧MachAt w' M mb rb c (Cx.stepS c m inp).2∧∀ M':List Nat,(∀ i∈M',i<w.heap.size)→SlN intC 1 M' w' u (Cx.stepS c m inp).1
theorem MachAt.fr {w w':World} {M S:List Nat} {mb rb:Nat} {c:Cx.Co} {m:Cx.Ms} (h:MachAt w M mb rb c m) (hf:FrS S w w') (hS:∀ i∈S,i∈M) (hb:mb ∉ S) (hr:c.regs.toNat≠0→rb ∉ S):MachAt w' M mb rb c m:=by
 obtain⟨vi,vo,vn,vr,vs,r,k1,k2,k3,k4,k5,k6,k7⟩:=h.ex
 exact⟨⟨vi,vo,vn,vr,vs,r,hf.blk k1 hb,k2.fr hf hS,k3.fr hf hS,k4.fr hf hS,k5.fr hf (fun e=>hr (fun e0=>e (List.eq_nil_of_length_eq_zero (by rw[k6,e0])))),k6,k7.fr hf hS⟩,h.hb,h.hr,h.ne⟩
theorem MachAt.below {w w':World} {M:List Nat} {mb rb:Nat} {c:Cx.Co} {m:Cx.Ms} (h:MachAt w M mb rb c m) (hb:Below w.heap.size w w'):MachAt w' M mb rb c m :=
 h.fr (FrS.of_below hb []) (fun i hi=>by cases hi) (fun q=>by cases q) (fun _ q=>by cases q)
set_option maxHeartbeats 1000000 in
theorem step_faulty {w:World} {M:List Nat} {mb rb:Nat} {c:Cx.Co} {m:Cx.Ms} (h:MachAt w M mb rb c m) (inp:List Int) (vin:Value) (hf:m.f≠0) :
  Calls Tryz.prog 12 #[.pointer (some ⟨mb,0,none⟩),vin] w (StepPost w M mb rb c m inp):=by
 have HP:Hid (∀ q,StepPost w M mb rb c m inp (.returned (.tuple #[.slice none 0 0,.int .i64 m.f])) (w.drewN q)):=fun q=>by
  have e:Cx.stepS c m inp=([],m):=by unfold Cx.stepS;rw[if_pos hf]
  unfold StepPost
  rw[e]
  exact⟨_,rfl,(FrS.refl _ _).drawn q,h.below (below_drawn (Below.refl _ _) q),fun M' _=>Or.inl ⟨rfl,_,_,rfl⟩⟩
 obtain⟨_,_,_,_,_,_,k1,-⟩:=h.ex
 have c8:w.cell? ⟨mb,8,none⟩=some (.int .i64 m.f):=k1.c rfl
 have hb:(m.f != 0)=true:=by simpa using hf
 generalize m.f=f at HP c8 hb
 clear h k1 hf
 go_enter Tryz.func12,Tryz.ntmps12
 go_wp2_with fail
 go_quiet (fail)
 go_wp2_with fail
 go_ret2
 exact HP.out _
set_option maxHeartbeats 1000000 in
theorem step_frame {w:World} {M:List Nat} {mb rb:Nat} {c:Cx.Co} {m:Cx.Ms} (h:MachAt w M mb rb c m) (inp:List Int) (vin:Value) (hf:m.f=0) (hin:Sl intC 1 w vin inp) (h64:∀ n∈inp,-9223372036854775808≤n∧n≤9223372036854775807) (hl:inp.length≤1000000) (hb:Cx.frameS c.inputs inp=false) :
  Calls Tryz.prog 12 #[.pointer (some ⟨mb,0,none⟩),vin] w (StepPost w M mb rb c m inp):=by
 have hc:=isFrame_any h inp vin hin h64 hl
 rw[hb] at hc
 obtain⟨ia,ic,rfl,-,-⟩:=hin.form
 have HP:Hid (∀ q,StepPost w M mb rb c m inp (.returned (.tuple #[.slice none 0 0,.int .i64 17])) ((w.setCell ⟨mb,8,none⟩ (.int .i64 17)).drewN q)):=fun q=>by
  have e:Cx.stepS c m inp=([],{ m with f:=17 }):=by unfold Cx.stepS;rw[if_neg (by omega),if_pos hb]
  unfold StepPost
  rw[e]
  refine⟨_,rfl,((FrS.refl [mb,rb] w).setCell (Or.inl (by simp)) _).drawn q,?_,fun M' _=>Or.inl ⟨rfl,_,_,rfl⟩⟩
  obtain⟨vi,vo,vn,vr,vs,r,k1,k2,k3,k4,k5,k6,k7⟩:=h.ex
  have hF:FrS [mb] w (w.setCell ⟨mb,8,none⟩ (.int .i64 17)):=(FrS.refl [mb] w).setCell (Or.inl (by simp)) _
  have hS:∀ i ∈ [mb],i∈M:=fun i hi=>by rw[List.mem_singleton.1 hi];exact h.hb
  refine MachAt.below ?_ (below_drawn (Below.refl _ _) q)
  exact⟨⟨vi,vo,vn,vr,vs,r,k1.puti 8 (.int .i64 17),k2.fr hF hS,k3.fr hF hS,k4.fr hF hS,k5.fr hF (fun e q=>h.ne (fun e0=>e (List.eq_nil_of_length_eq_zero (by rw[k6,e0];rfl))) (List.mem_singleton.1 q)),k6,k7.fr hF hS⟩,h.hb,h.hr,h.ne⟩
 obtain⟨_,_,_,_,_,_,k1,-⟩:=h.ex
 have c8:w.cell? ⟨mb,8,none⟩=some (.int .i64 0):=by rw[← hf];exact k1.c rfl
 have z8:w.frozen? ⟨mb,8,none⟩=false:=k1.z (v:=.int .i64 m.f) rfl
 clear h k1 hf hin h64 hb
 go_enter Tryz.func12,Tryz.ntmps12
 go_wp2_with fail
 refine hc.mono ?_
 rintro e w1 ⟨rfl,rfl⟩
 go_wp2_with fail
 have d8:(w1.setCell ⟨mb,8,none⟩ (.int .i64 17)).cell? ⟨mb,8,none⟩=some (.int .i64 17):=World.cell?_setCell_same _ _ _ c8
 clear c8 z8 hc
 generalize w1.setCell ⟨mb,8,none⟩ (.int .i64 17)=V at HP d8 ⊢
 go_quiet (fail)
 go_wp2_with fail
 go_ret2
 exact HP.out _
end Go.Proofs.YtbdbhdcbdfbnnaaGreatDoor
namespace Go.Proofs.YtbdbhdcbdfbnnaaGreatDoor
open Go.RowKit
structure GlM (W:World):Prop where
 ex:∃ b o,W.cell? ⟨0,0,none⟩=some (.slice (some ⟨b,o,none⟩) 35 35)∧∀ (j:Nat) (v:Ev.AV),Ev.wordsRow[j]?=some v→∃ x,W.cell? ⟨b,o+j,none⟩=some x∧∀ r:Ev.Rho,Ev.Rel r v x
 h4:10≤W.heap.size
theorem GlM.below {w w':World} (h:GlM w) (hb:Below w.heap.size w w'):GlM w':=by
 obtain⟨b,o,h1,h2⟩:=h.ex
 have h4:=h.h4
 refine⟨⟨b,o,(hb.cell (p:=⟨0,0,none⟩) (by show 0<_;omega)).trans h1,fun j v hj=>?_⟩,Nat.le_trans h4 hb.size⟩
 obtain⟨x,h5,h6⟩:=h2 j v hj
 exact⟨x,(hb.cell (p:=⟨b,o+j,none⟩) (World.block_lt_of_cell? w _ h5)).trans h5,h6⟩
theorem live_any {W:World} (h:GlM W):Calls Tryz.prog 6 #[] W fun e w'=>e=.returned (.bool true)∧Below W.heap.size W w':=by
 obtain⟨b,o,h1,h2⟩:=h.ex
 refine (Ev.live_calls h1 h2 h.h4).mono ?_
 rintro e w' ⟨rfl,q1,q2,q3,q4,q5⟩
 exact⟨rfl,q1,q2,q3,q4,q5⟩
end Go.Proofs.YtbdbhdcbdfbnnaaGreatDoor
