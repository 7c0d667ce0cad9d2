/- The law AtomsMakes, whatever its arguments: its statement. -/
import Derived.Test.YtjnpkdpljmkpiaaGreatDoorIf
import Derived.Test.YtjnpkdpljmkpiaaGreatDoorJ28
import Derived.Test.YtjnpkdpljmkpiaaGreatDoorCards
import Derived.ChangeMaps5
namespace Go.Proofs.YtjnpkdpljmkpiaaGreatDoor
open Go.ChangeShapes Go.WideShapes Go.ChangeAt Go.RowKit Go.Deep

set_option maxRecDepth 100000 in
theorem atomsMakes_lifted (os : Os) (started : os.Started) (H : Type) (enc : TypeId × Value → H) :
    ReturnsInHanded {} Tryz.checked os 7 .any (fun w args => (Rows.atomsMakesSpec.pre enc Tryz.prog Tryz.f7 Rows.atomsMakesRow.domain false w args ∧ laidMetH Tryz.prog Rows.atomsMakesRow.laid w) ∧ sizedMet enc Tryz.prog Tryz.f7 (OpenSpec.ofChange Rows.atomsMakesSpec) false w args)
      (Rows.atomsMakesSpec.post enc Tryz.prog Tryz.f7 false true false false) := by
  refine handed_sized_and (C := Tryz.checked) (X := fun w _ => laidMetH Tryz.prog Rows.atomsMakesRow.laid w) (fun _ _ _ hh h => h.of_heap hh) own started (by kernel_rfl) Tryz.func7
    (ChangeSpec.witness_shaped (enc := enc) (C := Tryz.checked) (os := os) (X := fun w _ => laidMetH Tryz.prog Rows.atomsMakesRow.laid w) false (World.laidAll Tryz.prog os Rows.atomsMakesRow.laid) #[.slice none 0 0, .int .i64 0, .int .i64 0] 8 (World.laidAll_os _ _ _)
      (World.shaped_of_ZipB (by kernel_rfl) (by kernel_rfl)) (by kernel_rfl) (by kernel_rfl) (by kernel_rfl)
      (by rw [MakeChecks.laidMetH_plain _ _ _ (by kernel_rfl)]; exact laidMet_laidAll _ (by kernel_rfl) (by kernel_rfl))) ?_
  intro W base args ds gs before hval0 hW hL hsh hzw
  have hW' := hW
  obtain ⟨p, q, hA0, hV, rfl, hfz, hnd⟩ := hW
  have hA : DataW.TrodAll enc Tryz.prog W 0 (fun _ => true) true Tryz.f7.params.toList args.toList ds p := hA0
  have hval : ∀ (j : Nat) t v, Tryz.f7.params[j]? = some t → args[j]? = some v → Value.okWide Tryz.prog W .any base t v := hval0
  have hzw : (DataW.weightsEach Tryz.prog (Tryz.f7.params.toList ++ Rows.atomsMakesSpec.plain.varTypes Tryz.prog) (ds ++ gs)).all (· ≤ reachBytes) = true := hzw
  rw [Tryz.params7] at hA hval hzw
  obtain ⟨v0, vs0, d0, ds0, p0, q0, hargs0, rfl, rfl, h0, r0⟩ := trodAll_cons hA
  obtain ⟨v1, vs1, d1, ds1, p1, q1, hargs1, rfl, rfl, h1, r1⟩ := trodAll_cons r0
  obtain ⟨v2, vs2, d2, ds2, p2, q2, hargs2, rfl, rfl, h2, r2⟩ := trodAll_cons r1
  obtain ⟨rfl, rfl, rfl⟩ := trodAll_nil r2
  obtain rfl : args = #[v0, v1, v2] := by cases args; simp_all
  obtain ⟨rfl, rfl⟩ := trodVars_none hV
  have k0 := h0
  have k1 := h1
  have k2 := h2
  have lt0 : ∀ x ∈ p0, x.block < W.heap.size := by obtain ⟨m, hm⟩ := k0; exact DataW.trod_lt m _ _ _ hm
  have lt1 : ∀ x ∈ p1, x.block < W.heap.size := by obtain ⟨m, hm⟩ := k1; exact DataW.trod_lt m _ _ _ hm
  have lt2 : ∀ x ∈ p2, x.block < W.heap.size := by obtain ⟨m, hm⟩ := k2; exact DataW.trod_lt m _ _ _ hm
  obtain ⟨ad0, ln0, cp0, rfl⟩ := okWide_slice Tryz.underlying30 (hval 0 30 v0 rfl rfl)
  obtain ⟨fu0, tt0⟩ := h0
  have t0 : DataW.trod enc Tryz.prog W 0 (fun _ => true) true fu0 30 [.slice ad0 ln0 cp0] = some (d0, p0) := tt0
  obtain ⟨l0, X0⟩ := expr_in t0
  obtain ⟨n1, rfl⟩ := okWide_int Tryz.underlying3 (hval 1 3 v1 rfl rfl)
  obtain ⟨fu1, tt1⟩ := h1
  have t1 : DataW.trod enc Tryz.prog W 0 (fun _ => true) true fu1 3 [.int .i64 n1] = some (d1, p1) := tt1
  obtain ⟨nn1, e1, _, hb1⟩ := DataW.trod_int Tryz.underlying3 t1
  obtain rfl : n1 = nn1 := by simpa using e1
  obtain ⟨n2, rfl⟩ := okWide_int Tryz.underlying3 (hval 2 3 v2 rfl rfl)
  obtain ⟨fu2, tt2⟩ := h2
  have t2 : DataW.trod enc Tryz.prog W 0 (fun _ => true) true fu2 3 [.int .i64 n2] = some (d2, p2) := tt2
  obtain ⟨nn2, e2, _, hb2⟩ := DataW.trod_int Tryz.underlying3 t2
  obtain rfl : n2 = nn2 := by simpa using e2
  clear hA0 hval0
  have G : Gl W := gl_of hL hsh
  refine (atomsMakes_any l0 (.slice ad0 ln0 cp0) n1 n2 W G X0.isE X0.len (fun y hy => weigh hzw (j := 0) rfl rfl (X0.wts _ (List.mem_map.2 ⟨y, hy, rfl⟩))) (wf_i64 hb1) (wf_i64 hb2)).mono fun e W' h => ?_
  obtain ⟨he, bel⟩ := h
  subst he
  exact ⟨_, rfl, _, _, _, [], _, [], hW', trodAll_mk1 (shut_bool Tryz.underlying4 _), trodAll_cons_mk (Below.trod laidOut (by kernel_rfl) (of_decide_eq_true (by kernel_rfl)) k0 bel lt0) (trodAll_cons_mk (Below.trod laidOut (by kernel_rfl) (of_decide_eq_true (by kernel_rfl)) k1 bel lt1) (trodAll_cons_mk (Below.trod laidOut (by kernel_rfl) (of_decide_eq_true (by kernel_rfl)) k2 bel lt2) trodAll_mk0)), rfl, bel.frame _, fun h => by cases h⟩

theorem atomsMakes_row : Rows.AtomsMakesSaid :=
  OpenClaim.holds_of_wide 7 Tryz.f7 rfl rfl rfl rfl rfl rfl rfl ⟨rfl, rfl, rfl, rfl, rfl⟩ rfl rfl rfl rfl rfl (by kernel_rfl) Tryz.func7 (by kernel_rfl)
    (of_decide_eq_true (by kernel_rfl)) (by unfold Func.isWrapper; first | (rw [if_pos (by decide +kernel)]; kernel_rfl) | (rw [if_neg (by decide +kernel)]; exact ⟨rfl, rfl⟩))
    (fun os started H enc _ => atomsMakes_lifted os started H enc)
theorem atomsMakes_holds : Rows.AtomsMakesCardSaid :=
  Claim7.holds_tied_plain_at .later [] Rows.atomsMakesCard.laidKinds true Rows.atomsMakesCard.stood.harness true atomsMakes_row (fun _ h => by cases h) (by kernel_rfl) (fun _ h => by cases h) atomsMakes_row_tie rfl ⟨rfl, rfl⟩ (by kernel_rfl) rfl
    (fun f fn hf hfn => by
      obtain rfl : f = 7 := Option.some.inj ((show Tryz.prog.funcNamed "bailment/bailmentlaw21.AtomsMakes" = some 7 by kernel_rfl).symm.trans hf) |>.symm
      obtain rfl : fn = Tryz.f7 := (Option.some.inj (Tryz.func7.symm.trans hfn)).symm
      exact ⟨by kernel_rfl, fun j t ht => by
        rw [Tryz.params7] at ht
        have hm : t ∈ [30, 3, 3] := by simpa using Array.mem_of_getElem? ht
        have hall : ([30, 3, 3].all fun u => !Tryz.prog.wantsStandIn u) = true := by kernel_rfl
        exact (show Tryz.prog.wantsStandIn t = false by simpa using List.all_eq_true.1 hall t hm)⟩)
    (by kernel_rfl)
#print axioms atomsMakes_holds
end Go.Proofs.YtjnpkdpljmkpiaaGreatDoor
