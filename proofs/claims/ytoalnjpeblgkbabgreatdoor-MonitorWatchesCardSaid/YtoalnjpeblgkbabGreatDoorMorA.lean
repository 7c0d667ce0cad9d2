/- The law MonitorWatches, whatever its arguments: its statement. -/
import Derived.Test.YtoalnjpeblgkbabGreatDoorQMorA
import Derived.Test.YtoalnjpeblgkbabGreatDoorCards
import Derived.ChangeMaps5
namespace Go.Proofs.YtoalnjpeblgkbabGreatDoor
open Go.ChangeShapes Go.WideShapes Go.ChangeAt Go.RowKit Go.Deep
set_option maxRecDepth 100000 in
theorem monitorWatches_lifted (os:Os) (started:os.Started) (H:Type) (enc:TypeId×Value→H) :
  ReturnsInHanded {} Tryz.checked os 3 .any (fun w args=>(Rows.monitorWatchesSpec.pre enc Tryz.prog Tryz.f3 Rows.monitorWatchesRow.domain false w args∧laidMetH Tryz.prog Rows.monitorWatchesRow.laid w)∧sizedMet enc Tryz.prog Tryz.f3 (OpenSpec.ofChange Rows.monitorWatchesSpec) false w args)
   (Rows.monitorWatchesSpec.post enc Tryz.prog Tryz.f3 false true false false):=by
 refine handed_shaped_and (C:=Tryz.checked) (X:=fun w _=>laidMetH Tryz.prog Rows.monitorWatchesRow.laid w) (fun _ _ _ hh h=>h.of_heap hh) own started (by kernel_rfl) Tryz.func3
  (ChangeSpec.witness_shaped (enc:=enc) (C:=Tryz.checked) (os:=os) (X:=fun w _=>laidMetH Tryz.prog Rows.monitorWatchesRow.laid w) false (World.laidAll Tryz.prog os Rows.monitorWatchesRow.laid) #[.slice none 0 0,.slice none 0 0] 8 (World.laidAll_os _ _ _)
   (World.shaped_of_ZipB (by kernel_rfl) (by kernel_rfl)) (by kernel_rfl) (by kernel_rfl) (by kernel_rfl)
   (by rw[MakeChecks.laidMetH_plain _ _ _ (by kernel_rfl)];exact laidMet_laidAll _ (by kernel_rfl) (by kernel_rfl))) ?_
 intro W base args ds gs before hval0 hW hL hsh
 have hW':=hW
 obtain⟨p,q,hA0,hV,rfl,hfz,hnd⟩:=hW
 have hA:DataW.TrodAll enc Tryz.prog W 0 (fun _=>true) true Tryz.f3.params.toList args.toList ds p:=hA0
 have hval:∀ (j:Nat) t v,Tryz.f3.params[j]?=some t→args[j]?=some v→Value.okWide Tryz.prog W .any base t v:=hval0
 rw[Tryz.params3] at hA hval
 obtain⟨v0,vs0,d0,ds0,p0,q0,hargs0,rfl,rfl,h0,r0⟩:=trodAll_cons hA
 obtain⟨v1,vs1,d1,ds1,p1,q1,hargs1,rfl,rfl,h1,r1⟩:=trodAll_cons r0
 obtain⟨rfl,rfl,rfl⟩:=trodAll_nil r1
 obtain rfl:args=#[v0,v1]:=by cases args;simp_all
 obtain⟨rfl,rfl⟩:=trodVars_none hV
 have k0:=h0
 have k1:=h1
 have lt0:∀ x∈p0,x.block<W.heap.size:=by obtain⟨m,hm⟩:=k0;exact DataW.trod_lt m _ _ _ hm
 have lt1:∀ x∈p1,x.block<W.heap.size:=by obtain⟨m,hm⟩:=k1;exact DataW.trod_lt m _ _ _ hm
 obtain⟨n0,g0⟩:=h0
 obtain⟨aa0,bb0,cc0,rfl⟩:=okWide_slice Tryz.underlying22 (hval 0 22 v0 rfl rfl)
 obtain⟨l0,s0,hm0⟩:=chks_in g0
 obtain⟨n1,g1⟩:=h1
 obtain⟨aa1,bb1,cc1,rfl⟩:=okWide_slice Tryz.underlying23 (hval 1 23 v1 rfl rfl)
 obtain⟨l1,s1,hm1,hz1⟩:=rows_inD g1
 clear hA0 hval0
 have G:GlM W:=glm_of hL
 refine (monitorWatches_any l0 _ l1 _ W G s0 s1).mono fun e W' h=>?_
 obtain⟨he,bel⟩:=h
 subst he
 exact⟨_,rfl,_,_,_,[],_,[],hW',trodAll_mk1 (shut_bool Tryz.underlying4 _),trodAll_cons_mk (Below.trod laidOut (by kernel_rfl) (of_decide_eq_true (by kernel_rfl)) k0 bel lt0) (trodAll_cons_mk (Below.trod laidOut (by kernel_rfl) (of_decide_eq_true (by kernel_rfl)) k1 bel lt1) trodAll_mk0),rfl,bel.frame _,fun h=>by cases h⟩
set_option maxRecDepth 100000 in
set_option maxHeartbeats 100000000 in
theorem monitorWatches_joined:joinedFacts Tryz.prog 3 Tryz.f3 Rows.monitorWatchesSpec Rows.monitorWatchesRow=true:=by
 unfold joinedFacts
 repeat' (with_reducible refine andT ?_ ?_)
 all_goals (as_aux_lemma=>kernel_rfl)
theorem monitorWatches_row:Rows.MonitorWatchesSaid :=
 OpenClaim.holds_of_wide 3 Tryz.f3 rfl rfl rfl rfl rfl rfl rfl ⟨rfl,rfl,rfl,rfl,rfl⟩ rfl rfl rfl rfl rfl (by kernel_rfl) Tryz.func3 monitorWatches_joined
  (of_decide_eq_true (by kernel_rfl)) (by unfold Func.isWrapper;first | (rw[if_pos (by decide +kernel)];kernel_rfl) | (rw[if_neg (by decide +kernel)];exact⟨rfl,rfl⟩))
  (fun os started H enc _=>monitorWatches_lifted os started H enc)
theorem monitorWatches_holds:Rows.MonitorWatchesCardSaid :=
 Claim7.holds_tied_plain_at .later [] Rows.monitorWatchesCard.laidKinds true Rows.monitorWatchesCard.stood.harness true monitorWatches_row (fun _ h=>by cases h) (by kernel_rfl) (fun _ h=>by cases h) monitorWatches_row_tie rfl ⟨rfl,rfl⟩ (by kernel_rfl) rfl
  (fun f fn hf hfn=>by
   obtain rfl : f = 3 := Option.some.inj ((show Tryz.prog.funcNamed "bailment/bailmentlaw19.MonitorWatches" = some 3 by kernel_rfl).symm.trans hf) |>.symm
   obtain rfl:fn=Tryz.f3:=(Option.some.inj (Tryz.func3.symm.trans hfn)).symm
   exact⟨by kernel_rfl,fun j t ht=>by
    rw[Tryz.params3] at ht
    have hm:t ∈ [22,23]:=by simpa using Array.mem_of_getElem? ht
    have hall:([22,23].all fun u=>!Tryz.prog.wantsStandIn u)=true:=by kernel_rfl
    exact (show Tryz.prog.wantsStandIn t=false by simpa using List.all_eq_true.1 hall t hm)⟩)
  (by kernel_rfl)
#print axioms monitorWatches_holds
end Go.Proofs.YtoalnjpeblgkbabGreatDoor
