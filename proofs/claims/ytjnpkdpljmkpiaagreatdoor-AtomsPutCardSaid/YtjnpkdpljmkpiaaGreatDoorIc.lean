/- The law AtomsOnce, whatever its argument: the walk. -/
import Derived.Test.YtjnpkdpljmkpiaaGreatDoorIb
import Derived.Test.YtjnpkdpljmkpiaaGreatDoorJ27
namespace Go.Proofs.YtjnpkdpljmkpiaaGreatDoor
open Go.RowKit Go.Shelf Tx

/-- What a list of expressions in memory gives, at a world behind. -/
def RowX (w : World) (a : Option Addr) (A : List (List Nd)) : Prop :=
  ∀ W, Below w.heap.size w W → ∀ i x, A[i]? = some x → ∃ b o u, a = some ⟨b, o, none⟩ ∧ IsE W u x ∧ W.cell? ⟨b, o + i, none⟩ = some u
theorem rowX {w : World} {v : Value} {A : List (List Nd)} (h : Sg 1 IsL w v A) : ∃ a c, v = .slice a A.length c ∧ A.length ≤ c ∧ RowX w a A := by
  obtain ⟨a, c, rfl, hc, hx⟩ := h.form keepsL
  refine ⟨a, c, rfl, hc, fun W hW i x hi => ?_⟩
  obtain ⟨b, o, cs, e, ⟨u, rfl, hu⟩, hcell⟩ := hx W hW i x hi
  have := hcell 0 u rfl
  simp only [Nat.mul_one, Nat.add_zero] at this
  exact ⟨b, o, u, e, hu, this⟩

set_option maxRecDepth 100000 in
set_option maxHeartbeats 4000000 in
theorem atomsOnce_any (l : List (List Nd)) (v : Value) (w : World) (G : Gl w) (hv : Sg 1 IsL w v l) (hlm : l.length ≤ maxLen) (hM : ∀ e ∈ l, e.length ≤ maxLen) (_hs : ∀ e ∈ l, ∀ y ∈ e, y.s.size ≤ 281474976710656) :
    Calls Tryz.prog 6 #[v] w fun r w' => r = .returned (.bool true) ∧ Below w.heap.size w w' := by
  have hfew := Few_any l v w hlm hM hv
  have hlive := fun W (hW : Below w.heap.size w W) => live_any W (G.below hW)
  obtain ⟨q, hq⟩ : ∃ q, q = fewB l := ⟨_, rfl⟩
  rw [← hq] at hfew
  have HV := Lib.hid hv
  have HLV := Lib.hid hlive
  have HG := Lib.hid G
  obtain ⟨a, c, rfl, hc, -⟩ := hv.form keepsL
  obtain ⟨n, hn⟩ : ∃ n, n = l.length := ⟨_, rfl⟩
  rw [← hn] at hfew HV ⊢
  have HQ := Lib.hid hq
  clear hv hlive G hq hn hlm hM hc
  cases q
  · go_enter Tryz.func6, Tryz.ntmps6
    go_wp2_with fail
    refine hfew.mono ?_
    rintro r w1 ⟨rfl, rfl⟩
    clear hfew
    go_wp2_with fail
    refine (HLV.out _ (Below.refl _ _)).mono ?_
    rintro r w3 ⟨rfl, hb3⟩
    go_wp2_with fail
    go_ret
    exact ⟨rfl, hb3⟩
  · obtain ⟨hl, hM⟩ := few_parts HQ.out.symm
    have h1 := Split_any l (.slice a n c) w (by omega) (fun e he => by have := hM e he; omega) HV.out HG.out
    have hon := fun h => onceF hM h
    unfold SplitPost at h1
    revert h1 hon
    generalize splitR l = R
    obtain ⟨A, R2, er⟩ := R
    intro h1 hon
    simp only at hon h1
    have HON := Lib.hid hon
    clear hl hM HQ HV hon
    go_enter Tryz.func6, Tryz.ntmps6
    go_wp2_with fail
    refine hfew.mono ?_
    rintro r w0 ⟨rfl, rfl⟩
    clear hfew
    go_wp2_with fail
    refine h1.mono ?_
    rintro r w1 ⟨u1, v1, rfl, hu1, hv1, hb1⟩
    have HB1 := Lib.hid hb1
    clear h1 hv1 hb1
    by_cases her : er = 0
    · subst her
      have hF := HON.out rfl
      have HF := Lib.hid hF
      have hsg := sg_of_rwe hu1
      have HSG := Lib.hid hsg
      obtain ⟨ua, uc, rfl, huc, hx⟩ := rowX hsg
      have HX := Lib.hid hx
      have hsplit := fun W (hW : Below w1.heap.size w1 W) => Split_any A (.slice ua A.length uc) W (by have := hF.len; omega) (fun e he => by have := (hF.each e he).2.1; omega) (hsg.below keepsL hW) (HG.out.below (below_next HB1.out hW))
      unfold SplitPost at hsplit
      rw [hF.self] at hsplit
      have HSP := Lib.hid hsplit
      have hm := hF.len
      obtain ⟨m, hmm⟩ : ∃ m, m = A.length := ⟨_, rfl⟩
      rw [← hmm] at huc hm HSG HSP ⊢
      have HM := Lib.hid hmm
      clear HON hF hu1 hx hsplit hsg hmm
      go_wp2_with fail
      go_loopw [6] (fun iv wr => ∃ t : Nat, iv = .int .i64 t ∧ t ≤ m ∧ Below w1.heap.size w1 wr) (fun iv _ => m - (intOf iv).toNat)
      case atStart => exact ⟨0, rfl, Nat.zero_le _, Below.refl _ _⟩
      case round =>
        obtain ⟨t, rfl, ht, hB⟩ := hrel
        have HB := Lib.hid hB
        clear hB
        by_cases hlt : t < m
        · obtain ⟨x, hx⟩ : ∃ x, A[t]? = some x := ⟨_, List.getElem?_eq_getElem (by have := HM.out; omega)⟩
          obtain ⟨b, o, p, rfl, hp, hcell⟩ := HX.out wr HB.out t x hx
          have hex := HF.out.each x (List.mem_of_getElem? hx)
          have HP := Lib.hid hp
          obtain ⟨pa, pc, rfl, hpc, hpx⟩ := hp.form
          obtain ⟨y, hy⟩ : ∃ y, x[x.length - 1]? = some y := ⟨_, List.getElem?_eq_getElem (by omega)⟩
          have hlog : Ux.isLogic y.op = false := by
            have h2 := hex.2.2
            rw [List.getLastD_eq_getLast?, List.getLast?_eq_getElem?, hy] at h2; exact h2
          obtain ⟨b2, o2, rfl, hnode⟩ := hpx wr (Below.refl _ _) _ y hy
          obtain ⟨c0, -⟩ := nd_cells hnode
          have his := R.rIs_any y.op
          rw [hlog] at his
          obtain ⟨k, hk⟩ : ∃ k, k = x.length := ⟨_, rfl⟩
          obtain ⟨h1k, h2k, -⟩ := hex
          rw [← hk] at h1k h2k hpc c0 hcell HP
          have i1 : (0 : Int) ≤ (k : Int) - 1 := by omega
          have i2 : (k : Int) - 1 < (k : Int) := by omega
          have i3 : ((k : Int) - 1).toNat = k - 1 := by omega
          have i4 : ((k : Int) == 0) = false := by rw [beq_eq_false_iff_ne]; omega
          have htn : (t : Int) < (m : Int) := by omega
          have ht0 : (0 : Int) ≤ (t : Int) := by omega
          have i5 : IntKind.i64.wrap ((k : Int) - 1) = (k : Int) - 1 := IntWalk.i64_in _ (by omega)
          have HK := Lib.hid hk
          have HXX := Lib.hid hx
          clear hk hx hy hlog hnode hpx
          go_wp2_with fail
          go_quiet ((go_at_call 23; exact Calls.quiet_of_same (his _)))
          clear i3 i5 his c0
          have HBq := Lib.hid (below_drawn HB.out nq)
          have hcq : (wr.drewN nq).cell? ⟨b, o + t, none⟩ = some (.slice (some ⟨b2, o2, none⟩) k pc) := hcell
          have HPq : Hid (IsE (wr.drewN nq) (.slice (some ⟨b2, o2, none⟩) k pc) x) := Sl.below HP.out (below_drawn (Below.refl _ _) nq)
          clear hcell HP HB
          generalize wr.drewN nq = wq at *
          go_wp2_with fail
          go_loopw [7] (fun jv wr => ∃ j : Nat, jv = .int .i64 j ∧ j ≤ t ∧ Below wq.heap.size wq wr) (fun jv _ => t - (intOf jv).toNat)
          case atStart => exact ⟨0, rfl, Nat.zero_le _, Below.refl _ _⟩
          case round =>
            obtain ⟨j, rfl, hj, hB⟩ := hrel
            have HB := Lib.hid hB
            clear hB
            by_cases hjt : j < t
            · obtain ⟨z, hz⟩ : ∃ z, A[j]? = some z := ⟨_, List.getElem?_eq_getElem (by have := HM.out; omega)⟩
              have hbw := below_next HBq.out HB.out
              obtain ⟨b', o', zu, e', hzu, hzc⟩ := HX.out wr hbw j z hz
              cases e'
              obtain ⟨b', o', xu, e', hxu, hxc⟩ := HX.out wr hbw t x HXX.out
              cases e'
              have hne : decide (z = x) = false := by rw [decide_eq_false_iff_not]; exact HF.out.once j t z x hjt hz HXX.out
              have hsame : ∀ q, Calls Tryz.prog 20 #[zu, xu] (wr.drewN q) fun r w' => r = .returned (.bool false) ∧ ∃ k, w' = (wr.drewN q).drewN k := fun q => by
                have h1 := (HF.out.each z (List.mem_of_getElem? hz)).2.1
                have h2 := (HF.out.each x (List.mem_of_getElem? HXX.out)).2.1
                have := Same_any z x zu xu (wr.drewN q) (by omega) (by omega) (Sl.below hzu (below_drawn (Below.refl _ _) q)) (Sl.below hxu (below_drawn (Below.refl _ _) q))
                rw [hne] at this; exact this
              obtain ⟨za, zc, rfl, -, -⟩ := hzu.form
              obtain ⟨xa, xc, rfl, -, -⟩ := hxu.form
              have hjm : (j : Int) < (m : Int) := by omega
              have hj0 : (0 : Int) ≤ (j : Int) := by omega
              clear hz hbw hne hzu hxu hcq
              go_wp2_with fail
              go_quiet ((go_at_call 20; exact Calls.quiet_of (hsame _)))
              have HB2 := Lib.hid (below_drawn HB.out nq)
              clear hsame hzc hxc HB
              generalize wr.drewN nq = wz at *
              go_wp2_with fail
              go_roundw
              case rel => exact ⟨j + 1, by go_num, by omega, HB2.out⟩
              case measure => simp [intOf]; omega
            · have hjj : j = t := by omega
              subst hjj
              have HB2 := Lib.hid (below_next HBq.out HB.out)
              clear hcq
              go_wp2_with fail
              go_roundw
              case rel => exact ⟨j + 1, by go_num, by omega, HB2.out⟩
              case measure => simp [intOf]; omega
        · have hte : t = m := by omega
          subst hte
          have hsplit := HSP.out wr HB.out
          go_wp2_with fail
          refine hsplit.mono ?_
          rintro r w4 ⟨u2, v2, rfl, hu2, hv2, hb4⟩
          have hb14 := below_next HB.out hb4
          have e1 := Exprs_any A A (.slice ua t uc) u2 w4 (by have := HF.out.len; omega) (by have := HF.out.len; omega) (fun e he => by have := (HF.out.each e he).2.1; omega) (fun e he => by have := (HF.out.each e he).2.1; omega) (HSG.out.below keepsL hb14) (sg_of_rwe hu2)
          rw [decide_eq_true rfl] at e1
          obtain ⟨va, vc, rfl, hvc, hvx⟩ := rowX (sg_of_rwe hv2)
          rw [List.length_map, List.length_range] at hvc ⊢
          have HVX := Lib.hid hvx
          have HB4 := Lib.hid hb14
          have e0 : ((t : Int) != (t : Int)) = false := by simp
          clear hsplit hu2 hv2 hb4 hb14 hvx
          go_wp2_with fail
          refine e1.mono ?_
          rintro r w5 ⟨rfl, k, hw5⟩
          have HB5 : Hid (Below w4.heap.size w4 w5) := by show Below _ _ _; rw [hw5]; exact below_drawn (Below.refl _ _) k
          clear e1 hw5
          go_wp2_with fail
          go_loopw [11] (fun iv wr => ∃ s : Nat, iv = .int .i64 s ∧ s ≤ t ∧ Below w4.heap.size w4 wr) (fun iv _ => t - (intOf iv).toNat)
          case atStart => exact ⟨0, rfl, Nat.zero_le _, HB5.out⟩
          case round =>
            obtain ⟨s, rfl, hs, hB⟩ := hrel
            have HB7 := Lib.hid hB
            clear hB
            by_cases hlt2 : s < t
            · obtain ⟨b, o, p, rfl, hp, hcell⟩ := HVX.out wr HB7.out s _ (by rw [List.getElem?_map, List.getElem?_range hlt2]; rfl)
              obtain ⟨pa, pc, rfl, hpc, hpx⟩ := hp.form
              obtain ⟨b2, o2, rfl, hnode⟩ := hpx wr (Below.refl _ _) 0 _ rfl
              obtain ⟨c0, -⟩ := nd_cells hnode
              simp only [List.length_singleton, Nat.zero_mul, Nat.add_zero] at c0 hcell hpc
              have hst : (s : Int) < (t : Int) := by omega
              have hs0 : (0 : Int) ≤ (s : Int) := by omega
              clear hp hnode hpx
              go_wp2_with fail
              go_roundw
              case rel => exact ⟨s + 1, by go_num, by omega, HB7.out⟩
              case measure => simp [intOf]; omega
            · have hse : s = t := by omega
              subst hse
              have HB8 := Lib.hid (below_next (below_next HB1.out HB4.out) HB7.out)
              go_wp2_with fail
              refine (HLV.out _ HB8.out).mono ?_
              rintro r w6 ⟨rfl, hb6⟩
              go_wp2_with fail
              go_ret
              exact ⟨rfl, below_next HB8.out hb6⟩
    · have her2 : (er != 0) = true := by simpa using her
      go_wp2_with fail
      refine (HLV.out _ HB1.out).mono ?_
      rintro r w6 ⟨rfl, hb6⟩
      go_wp2_with fail
      go_ret
      exact ⟨rfl, below_next HB1.out hb6⟩
end Go.Proofs.YtjnpkdpljmkpiaaGreatDoor
