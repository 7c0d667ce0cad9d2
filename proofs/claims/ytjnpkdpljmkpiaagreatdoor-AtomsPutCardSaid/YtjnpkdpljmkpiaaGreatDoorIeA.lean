/- The law AtomsPut, whatever its arguments: its statement. -/
import Derived.Test.YtjnpkdpljmkpiaaGreatDoorIe
import Derived.Test.YtjnpkdpljmkpiaaGreatDoorJ28
import Derived.Test.YtjnpkdpljmkpiaaGreatDoorCards
import Derived.ChangeMaps5
namespace Go.Proofs.YtjnpkdpljmkpiaaGreatDoor
open Go.ChangeShapes Go.WideShapes Go.ChangeAt Go.RowKit Go.Deep

set_option maxRecDepth 100000 in
theorem atomsPut_lifted (os : Os) (started : os.Started) (H : Type) (enc : TypeId × Value → H) :
    ReturnsInHanded {} Tryz.checked os 5 .any (fun w args => (Rows.atomsPutSpec.pre enc Tryz.prog Tryz.f5 Rows.atomsPutRow.domain false w args ∧ laidMetH Tryz.prog Rows.atomsPutRow.laid w) ∧ sizedMet enc Tryz.prog Tryz.f5 (OpenSpec.ofChange Rows.atomsPutSpec) false w args)
      (Rows.atomsPutSpec.post enc Tryz.prog Tryz.f5 false true false false) := by
  refine handed_sized_and (C := Tryz.checked) (X := fun w _ => laidMetH Tryz.prog Rows.atomsPutRow.laid w) (fun _ _ _ hh h => h.of_heap hh) own started (by kernel_rfl) Tryz.func5
    (ChangeSpec.witness_shaped (enc := enc) (C := Tryz.checked) (os := os) (X := fun w _ => laidMetH Tryz.prog Rows.atomsPutRow.laid w) false (World.laidAll Tryz.prog os Rows.atomsPutRow.laid) #[.slice none 0 0] 8 (World.laidAll_os _ _ _)
      (World.shaped_of_ZipB (by kernel_rfl) (by kernel_rfl)) (by kernel_rfl) (by kernel_rfl) (by kernel_rfl)
      (by rw [MakeChecks.laidMetH_plain _ _ _ (by kernel_rfl)]; exact laidMet_laidAll _ (by kernel_rfl) (by kernel_rfl))) ?_
  intro W base args ds gs before hval0 hW hL hsh hzw
  have hW' := hW
  obtain ⟨p, q, hA0, hV, rfl, hfz, hnd⟩ := hW
  have hA : DataW.TrodAll enc Tryz.prog W 0 (fun _ => true) true Tryz.f5.params.toList args.toList ds p := hA0
  have hval : ∀ (j : Nat) t v, Tryz.f5.params[j]? = some t → args[j]? = some v → Value.okWide Tryz.prog W .any base t v := hval0
  have hzw : (DataW.weightsEach Tryz.prog (Tryz.f5.params.toList ++ Rows.atomsPutSpec.plain.varTypes Tryz.prog) (ds ++ gs)).all (· ≤ reachBytes) = true := hzw
  rw [Tryz.params5] at hA hval hzw
  obtain ⟨v0, vs0, d0, ds0, p0, q0, hargs0, rfl, rfl, h0, r0⟩ := trodAll_cons hA
  obtain ⟨rfl, rfl, rfl⟩ := trodAll_nil r0
  obtain rfl : args = #[v0] := by cases args; simp_all
  obtain ⟨rfl, rfl⟩ := trodVars_none hV
  have k0 := h0
  have lt0 : ∀ x ∈ p0, x.block < W.heap.size := by obtain ⟨m, hm⟩ := k0; exact DataW.trod_lt m _ _ _ hm
  obtain ⟨ad0, ln0, cp0, rfl⟩ := okWide_slice Tryz.underlying22 (hval 0 22 v0 rfl rfl)
  obtain ⟨fu0, tt0⟩ := h0
  have t0 : DataW.trod enc Tryz.prog W 0 (fun _ => true) true fu0 22 [.slice ad0 ln0 cp0] = some (d0, p0) := tt0
  obtain ⟨l0, s0, hm0, he0, g0⟩ := exprs_in t0
  clear hA0 hval0
  have G : Gl W := gl_of hL hsh
  refine (atomsPut_any l0 (.slice ad0 ln0 cp0) W G s0 hm0 he0 (fun e he y hy => weigh hzw (j := 0) rfl rfl (g0 e he _ (List.mem_map.2 ⟨y, hy, rfl⟩)))).mono fun e W' h => ?_
  obtain ⟨he, bel⟩ := h
  subst he
  exact ⟨_, rfl, _, _, _, [], _, [], hW', trodAll_mk1 (shut_bool Tryz.underlying4 _), trodAll_cons_mk (Below.trod laidOut (by kernel_rfl) (of_decide_eq_true (by kernel_rfl)) k0 bel lt0) trodAll_mk0, rfl, bel.frame _, fun h => by cases h⟩

theorem atomsPut_row : Rows.AtomsPutSaid :=
  OpenClaim.holds_of_wide 5 Tryz.f5 rfl rfl rfl rfl rfl rfl rfl ⟨rfl, rfl, rfl, rfl, rfl⟩ rfl rfl rfl rfl rfl (by kernel_rfl) Tryz.func5 (by kernel_rfl)
    (of_decide_eq_true (by kernel_rfl)) (by unfold Func.isWrapper; first | (rw [if_pos (by decide +kernel)]; kernel_rfl) | (rw [if_neg (by decide +kernel)]; exact ⟨rfl, rfl⟩))
    (fun os started H enc _ => atomsPut_lifted os started H enc)
theorem atomsPut_holds : Rows.AtomsPutCardSaid :=
  Claim7.holds_tied_plain_at .later [] Rows.atomsPutCard.laidKinds true Rows.atomsPutCard.stood.harness true atomsPut_row (fun _ h => by cases h) (by kernel_rfl) (fun _ h => by cases h) atomsPut_row_tie rfl ⟨rfl, rfl⟩ (by kernel_rfl) rfl
    (fun f fn hf hfn => by
      obtain rfl : f = 5 := Option.some.inj ((show Tryz.prog.funcNamed "bailment/bailmentlaw21.AtomsPut" = some 5 by kernel_rfl).symm.trans hf) |>.symm
      obtain rfl : fn = Tryz.f5 := (Option.some.inj (Tryz.func5.symm.trans hfn)).symm
      exact ⟨by kernel_rfl, fun j t ht => by
        rw [Tryz.params5] at ht
        have hm : t ∈ [22] := by simpa using Array.mem_of_getElem? ht
        have hall : ([22].all fun u => !Tryz.prog.wantsStandIn u) = true := by kernel_rfl
        exact (show Tryz.prog.wantsStandIn t = false by simpa using List.all_eq_true.1 hall t hm)⟩)
    (by kernel_rfl)
#print axioms atomsPut_holds
end Go.Proofs.YtjnpkdpljmkpiaaGreatDoor
