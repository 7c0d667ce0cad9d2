/- May an expression be: the walk, its loops. -/
import Derived.Test.YtjnpkdpljmkpiaaGreatDoorJ4
namespace Go.Proofs.YtjnpkdpljmkpiaaGreatDoor
open Go.RowKit Go.Shelf Tx
theorem replicate_one (n : Nat) : (List.replicate n false).map vB = List.replicate n (Value.bool false) := by simp
set_option maxRecDepth 100000 in
set_option maxHeartbeats 8000000 in
theorem May_any (e : List Nd) (v : Value) (w : World) (he : e.length ≤ 1000000000) (hv : IsE w v e) :
    Calls Tryz.prog 44 #[v] w fun r w' => r = .returned (.bool (mayB e)) ∧ Below w.heap.size w w' := by
  have HVV := Lib.hid hv
  obtain ⟨a, c, rfl, hc, hx⟩ := hv.form
  obtain ⟨i0, hi, hz0, hz1, hz2⟩ := info_parts infoB
  obtain ⟨n, hn⟩ : ∃ n, n = e.length := ⟨_, rfl⟩
  rw [← hn] at hc he HVV ⊢
  have HN : Hid (n = e.length) := hn
  have HX : Hid (∀ W, Below w.heap.size w W → ∀ i x, e[i]? = some x → ∃ b o, a = some ⟨b, o, none⟩ ∧ ∀ j u, (ndL x)[j]? = some u → W.cell? ⟨b, o + i * 6 + j, none⟩ = some u) := hx
  clear hn hx hv
  by_cases h0 : n = 0
  · have HF : Hid (mayB e = false) := may_no fun h => by have := h.ne; have := HN.out; omega
    subst h0
    go_enter Tryz.func44, Tryz.ntmps44
    go_wp2_with fail
    go_ret
    exact ⟨by (rw [HF.out]; first | done | rfl), Below.refl _ _⟩
  have e0 : ((n : Int) == 0) = false := by rw [beq_eq_false_iff_ne]; omega
  by_cases h5 : 5000 < n
  · have HF : Hid (mayB e = false) := may_no fun h => by have := h.len; have := HN.out; omega
    have h5' : (5000 : Int) < (n : Int) := by omega
    go_enter Tryz.func44, Tryz.ntmps44
    go_wp2_with fail
    go_ret
    exact ⟨by (rw [HF.out]; first | done | rfl), Below.refl _ _⟩
  have h5' : ¬ (5000 : Int) < (n : Int) := by omega
  obtain ⟨z, hz⟩ : ∃ z, e[n - 1]? = some z := ⟨_, List.getElem?_eq_getElem (by have := HN.out; omega)⟩
  have hlast : e.getLastD dft = z := by rw [List.getLastD_eq_getLast?, List.getLast?_eq_getElem?, ← HN.out, hz]; rfl
  obtain ⟨zb, zo, rfl, hzc⟩ := HX.out w (Below.refl _ _) (n - 1) z hz
  have cz := hzc 0 _ rfl
  simp only [Nat.add_zero] at cz
  have hn1 : (0 : Int) ≤ (n : Int) - 1 := by omega
  have ht1 : ((n : Int) - 1).toNat = n - 1 := by omega
  by_cases h28 : z.op = 28
  · have HF : Hid (mayB e = false) := may_no fun h => h.last (by rw [hlast]; exact h28)
    have e28 : (z.op == 28) = true := by simp [h28]
    clear h28 hlast hz hzc
    go_enter Tryz.func44, Tryz.ntmps44
    go_wp2_with fail
    go_ret
    exact ⟨by (rw [HF.out]; first | done | rfl), Below.refl _ _⟩
  have e28 : (z.op == 28) = false := by rw [beq_eq_false_iff_ne]; exact h28
  have HLAST : Hid ((e.getLastD dft).op ≠ 28) := by show _ ≠ _; rw [hlast]; exact h28
  clear h28 hlast hz hzc
  go_enter Tryz.func44, Tryz.ntmps44
  go_wp2_with (at_make; refine wpList_make_full _ rfl _ _ 31 rfl w.heap.size 4 i0 (.bool false) 1 Tryz.underlying31 hi hz0 hz1 _ _ _ _ n rfl rfl rfl rfl ?_ ?_ ?_ ?_; rotate_right; intro w2 hown2 hgrow2)
  case refine_1 => first | omega | (rw [hz2]; omega)
  case refine_2 => first | exact Nat.le_refl _ | (unfold maxLen; omega)
  have hB2 : Below w.heap.size w w2 := (Below.refl _ _).grown hgrow2 (Nat.le_refl _) (by simp)
  have hR2 : RowL vB 4 w.heap.size w2 w.heap.size n (List.replicate n false) := by
    unfold RowL
    have := hown2
    simp only [Value.cells, Nat.mul_one, toList_madeCells_one] at this
    rw [replicate_one]; exact this
  clear hown2 hgrow2 hi hz0 hz1 hz2 cz e28
  obtain ⟨bx, hbx⟩ : ∃ bx, bx = w.heap.size := ⟨_, rfl⟩
  rw [← hbx] at hB2 hR2 ⊢
  have HBX : Hid (bx = w.heap.size) := hbx
  clear hbx
  go_loopw [32] (fun i wr => ∃ (k : Nat) (U : List Bool), i = .int .i64 k ∧ k ≤ n ∧ RowL vB 4 bx wr bx n U ∧ MayLp e k (allK (e.take k)) U ∧ Below bx w wr) (fun i _ => n - (intOf i).toNat)
  case atStart => exact ⟨0, _, rfl, Nat.zero_le _, hR2, by rw [HN.out]; exact MayLp.start e, hB2⟩
  case round =>
    obtain ⟨k, U, rfl, hk, hR, hM, hB⟩ := hrel
    clear hB2 hR2
    by_cases hlt : k < n
    · obtain ⟨x, hx⟩ : ∃ x, e[k]? = some x := ⟨_, List.getElem?_eq_getElem (by have := HN.out; omega)⟩
      obtain ⟨b, o, hab, hcell⟩ := HX.out wr (by rw [← HBX.out]; exact hB) k x hx
      cases hab
      obtain ⟨c0, c1, c2, c3, c4, c5⟩ := nd_cells hcell
      have HXX := Lib.hid hx
      have hkn : (k : Int) < (n : Int) := by omega
      have hk0 : (0 : Int) ≤ (k : Int) := by omega
      clear hx hcell
      have nb := (Below.refl wr.heap.size wr).alloc (Nat.le_refl _) (.cells (ndA x) 42)
      have kb := Blk.new wr (ndA x) 42
      go_wp2_with fail
      generalize hW1 : wr.alloc (.cells #[.int .i64 x.op, .int .i64 x.a, .int .i64 x.b, .int .i64 x.c, .int .i64 x.n, .string x.s] 42) = W1
      have hltb := hR.lt.2
      obtain ⟨nbk, hnbk⟩ : ∃ q, q = wr.heap.size := ⟨_, rfl⟩
      have hR1 : RowL vB 4 bx W1 bx n U := by rw [← hW1]; exact hR.below nb
      have hB1 : Below bx w W1 := by rw [← hW1]; exact hB.trans (nb.mono (by omega))
      have kb1 : Blk W1 nbk #[.int .i64 x.op, .int .i64 x.a, .int .i64 x.b, .int .i64 x.c, .int .i64 x.n, .string x.s] 42 := by rw [← hW1, hnbk]; exact kb
      have hbk : bx < nbk := by omega
      rw [← hnbk]
      clear hW1 hnbk kb nb c0 c1 c2 c3 c4 c5 hR hB hltb
      refine (isNode_any x _).mono ?_
      rintro r w1 ⟨rfl, hb1⟩
      cases hnb : nodeB x with
      | false =>
        have HF : Hid (mayB e = false) := may_no fun h => by have := (h.node k x HXX.out).1; rw [hnb] at this; cases this
        have hB2 : Below bx w w1 := hB1.trans (hb1.mono (Nat.le_of_lt hR1.lt.2))
        clear hnb
        go_wp2_with fail
        go_ret
        exact ⟨by (rw [HF.out]; first | done | rfl), by rw [← HBX.out]; exact hB2⟩
      | true =>
        have HNB := Lib.hid hnb
        clear hnb
        have hR2 := hR1.below hb1
        have hB2 : Below bx w w1 := hB1.trans (hb1.mono (Nat.le_of_lt hR1.lt.2))
        have kb2 := kb1.below hb1
        obtain ⟨c0, c1, c2, c3, c4, c5⟩ := six_cells kb2
        clear hR1 hB1 kb1 hb1
        go_wp2_with fail
        refine (Kids_any x _).mono ?_
        rintro r w2 ⟨kv, rfl, hkr0, hb2⟩
        have hR3 := hR2.below hb2
        have hB3 : Below bx w w2 := hB2.trans (hb2.mono (Nat.le_of_lt hR2.lt.2))
        have kb3 := kb2.below hb2
        have hkr := hkr0.mono (b2 := bx + 1) (Nat.lt_of_lt_of_le hbk (Nat.le_of_lt kb2.lt))
        obtain ⟨ka, kc, hkv, hkc⟩ := hkr.form
        subst hkv
        obtain ⟨kn, hkn2⟩ : ∃ kn, kn = (kids x).length := ⟨_, rfl⟩
        have h3 := kids_len x
        rw [← hkn2] at hkr hkc h3 ⊢
        have HKN := Lib.hid hkn2
        clear hkn2 hkr0 hR2 hB2 kb2 hb2 c0 c1 c2 c3 c4 c5
        go_wp2_with fail
        obtain ⟨wo, rfl⟩ : ∃ wo : World, wo = wr := ⟨_, rfl⟩
        go_loopw [43] (fun i wr => ∃ (t : Nat) (U : List Bool), i = .int .i64 t ∧ t ≤ kn ∧ RowL vB 4 bx wr bx n U ∧ MayLp e k (allK (e.take k) ++ (kids x).take t) U ∧ Below bx w wr ∧ RowI (bx + 1) wr (.slice ka kn kc) (kids x) ∧
          Blk wr nbk #[.int .i64 x.op, .int .i64 x.a, .int .i64 x.b, .int .i64 x.c, .int .i64 x.n, .string x.s] 42 ∧ (∀ t' y, t' < t → (kids x)[t']? = some y → 0 ≤ y ∧ y < (k : Int) ∧ ((e.getD y.toNat dft).op == 28) = argWant x t')) (fun i _ => kn - (intOf i).toNat)
        case atStart => exact ⟨0, U, rfl, Nat.zero_le _, hR3, by rw [List.take_zero, List.append_nil]; exact hM, hB3, hkr, kb3, fun t' y h => by omega⟩
        case round =>
          obtain ⟨t, U, rfl, ht, hR, hM, hB, hkr, kb, hok⟩ := hrel
          clear hR3 hB3 kb3
          by_cases hlt2 : t < kn
          · obtain ⟨y, hy⟩ : ∃ y, (kids x)[t]? = some y := ⟨_, List.getElem?_eq_getElem (by have := HKN.out; omega)⟩
            obtain ⟨g, rfl, hg1, hg2, cy, -⟩ := hkr.at hy
            have HY := Lib.hid hy
            have htk : (t : Int) < (kn : Int) := by omega
            have ht0 : (0 : Int) ≤ (t : Int) := by omega
            clear hy
            by_cases hyr : 0 ≤ y ∧ y < (k : Int)
            · obtain ⟨hy0, hyk⟩ := hyr
              obtain ⟨j, rfl⟩ : ∃ j : Nat, y = (j : Int) := ⟨y.toNat, by omega⟩
              have hUl := hR.len
              have cu := hR.cell (hM.mark j (by omega))
              have fu := hR.free j
              have hjn : (j : Int) < (n : Int) := by omega
              by_cases hm : (j : Int) ∈ allK (e.take k) ++ (kids x).take t
              · have HF : Hid (mayB e = false) := may_twice HXX.out HY.out hm
                rw [decide_eq_true hm] at cu
                clear hm hUl hR hM hkr hok
                go_wp2_with fail
                go_ret
                exact ⟨by (rw [HF.out]; first | done | rfl), by rw [← HBX.out]; exact hB⟩
              · rw [decide_eq_false hm] at cu
                obtain ⟨z2, hz2⟩ : ∃ z2, e[j]? = some z2 := ⟨_, List.getElem?_eq_getElem (by have := HN.out; omega)⟩
                have HZ2 : Hid ((e.getD (j : Int).toNat dft) = z2) := by show _ = _; rw [show (j : Int).toNat = j by omega, List.getD_eq_getElem?_getD, hz2]; rfl
                obtain ⟨b2, o2, hab, hcell⟩ := HX.out wr (by rw [← HBX.out]; exact hB) j z2 hz2
                cases hab
                obtain ⟨b3, o3, hab, hcell3⟩ := HX.out w (Below.refl _ _) j z2 hz2
                cases hab
                have hzb : zb ≠ bx := by
                  have := World.block_lt_of_cell? w _ (hcell3 0 _ rfl)
                  have h8 := HBX.out
                  simp at this; omega
                have ce := hcell 0 _ rfl
                simp only [Nat.add_zero] at ce
                have hM2 := hM.put hm
                rw [List.append_assoc, ← take_at HY.out] at hM2
                have HM2 := Lib.hid hM2
                have hR2 := hR.set j true
                have HR2 := Lib.hid hR2
                have hkr2 := hkr.other (p := bx) (by omega) j (.bool true)
                have HKR2 := Lib.hid hkr2
                have kb2 := kb.other (p := bx) j (by omega) (.bool true)
                have HKB2 := Lib.hid kb2
                have hB2 : Below bx w (wr.setCell ⟨bx, j, none⟩ (.bool true)) := below_set hB (Nat.le_refl _)
                obtain ⟨c0, c1, c2, c3, c4, c5⟩ := six_cells kb
                have hnb2 : nbk ≠ bx := by omega
                obtain ⟨wt, hwt⟩ : ∃ wt, wt = argWant x t := ⟨_, rfl⟩
                have hor : ((x.op == 27) = true ∧ wt = true) ∨ ((x.op == 27) = false ∧ (x.op == 28) = false ∧ wt = false) ∨ ((x.op == 27) = false ∧ (x.op == 28) = true ∧ (x.b != -1) = false ∧ wt = false) ∨
                    ((x.op == 27) = false ∧ (x.op == 28) = true ∧ (x.b != -1) = true ∧ ((t : Int) == 0) = false ∧ wt = false) ∨ ((x.op == 27) = false ∧ (x.op == 28) = true ∧ (x.b != -1) = true ∧ ((t : Int) == 0) = true ∧ wt = true) := by
                  have e1 : ((t : Int) == 0) = (t == 0) := by rw [Bool.eq_iff_iff]; simp
                  rw [hwt, e1]; unfold argWant
                  cases (x.op == 27) <;> cases (x.op == 28) <;> cases (x.b != -1) <;> cases (t == 0) <;> simp
                obtain ⟨zo28, hzo⟩ : ∃ q, q = (z2.op == 28) := ⟨_, rfl⟩
                have hzo2 : (z2.op == 28) = zo28 := hzo.symm
                have HWT : Hid (wt = argWant x t) := hwt
                have HOK : Hid (∀ t' y, t' < t → (kids x)[t']? = some y → 0 ≤ y ∧ y < (k : Int) ∧ ((e.getD y.toNat dft).op == 28) = argWant x t') := hok
                have HZO : Hid (zo28 = (z2.op == 28)) := hzo
                by_cases heq : zo28 = wt
                · have HALL : Hid (∀ t' y, t' < t + 1 → (kids x)[t']? = some y → 0 ≤ y ∧ y < (k : Int) ∧ ((e.getD y.toNat dft).op == 28) = argWant x t') := fun t' y h1 h2 => by
                    by_cases q : t' = t
                    · subst q
                      have := HY.out; rw [h2] at this; cases this
                      exact ⟨hy0, hyk, by rw [HZ2.out, ← HZO.out, ← HWT.out]; exact heq⟩
                    · exact HOK.out t' y (by omega) h2
                  clear hM hM2 hR hR2 hkr hkr2 kb kb2 hok hm hz2 hcell hcell3 hwt hzo hUl
                  rcases hor with ⟨g1, rfl⟩ | ⟨g1, g2, rfl⟩ | ⟨g1, g2, g3, rfl⟩ | ⟨g1, g2, g3, g4, rfl⟩ | ⟨g1, g2, g3, g4, rfl⟩
                  all_goals
                    subst heq
                    go_wp2_with fail
                    go_roundw
                    case rel => exact ⟨t + 1, U.set j true, by go_num, by omega, HR2.out, HM2.out, hB2, HKR2.out, HKB2.out, HALL.out⟩
                    case measure => simp [intOf]; omega
                · have HF : Hid (mayB e = false) := may_no fun h => by
                    have h1 := (argsOk_iff e x).1 (h.node k x HXX.out).2.2 t _ HY.out
                    rw [HZ2.out, ← HZO.out, ← HWT.out] at h1
                    exact heq h1
                  clear hM hM2 hR hR2 hkr hkr2 kb kb2 hok hm hz2 hcell hcell3 hwt hzo hUl
                  have heq2 : zo28 = !wt := by revert heq; cases zo28 <;> cases wt <;> simp
                  clear heq
                  rcases hor with ⟨g1, rfl⟩ | ⟨g1, g2, rfl⟩ | ⟨g1, g2, g3, rfl⟩ | ⟨g1, g2, g3, g4, rfl⟩ | ⟨g1, g2, g3, g4, rfl⟩
                  all_goals
                    subst heq2
                    simp only [Bool.not_true, Bool.not_false] at hzo2
                    go_wp2_with fail
                    go_ret
                    exact ⟨by (rw [HF.out]; first | done | rfl), by rw [← HBX.out]; exact hB2⟩
            · have HF : Hid (mayB e = false) := may_no fun h => hyr ((h.node k x HXX.out).2.1 y (List.mem_of_getElem? HY.out))
              have hor : y < (0 : Int) ∨ (¬ y < (0 : Int) ∧ (k : Int) ≤ y) := by omega
              clear hyr hR hM hkr hok
              rcases hor with h1 | ⟨h1, h2⟩
              all_goals
                go_wp2_with fail
                go_ret
                exact ⟨by (rw [HF.out]; first | done | rfl), by rw [← HBX.out]; exact hB⟩
          · have hte : t = kn := by omega
            subst hte
            have hfull : (kids x).take t = kids x := List.take_of_length_le (by have := HKN.out; omega)
            rw [hfull] at hM
            have hin : inR x k := fun y hy => by
              obtain ⟨t', ht'⟩ := List.getElem?_of_mem hy
              have := hok t' y (by have := (List.getElem?_eq_some_iff.1 ht').1; have := HKN.out; omega) ht'
              exact ⟨this.1, this.2.1⟩
            have harg : argsOk e x = true := (argsOk_iff e x).2 fun t' y ht' => (hok t' y (by have := (List.getElem?_eq_some_iff.1 ht').1; have := HKN.out; omega) ht').2.2
            have HM := Lib.hid (hM.next HXX.out HNB.out hin harg)
            clear hM hfull hin harg hok hkr kb
            have HR := Lib.hid hR
            clear hR
            go_wp2_with fail
            go_roundw
            case rel => exact ⟨k + 1, U, by go_num, by omega, HR.out, HM.out, hB⟩
            case measure => simp [intOf]; omega
    · have hke : k = n := by omega
      subst hke
      have hUl := hR.len
      have htk : e.take k = e := List.take_of_length_le (by have := HN.out; omega)
      rw [htk] at hM
      have hMF : MayLp e e.length (allK e) U := by rw [← HN.out]; exact hM
      have HFI := Lib.hid (hMF.finish (by have := HN.out; omega) (by have := HN.out; omega) (by have := HN.out; omega) HLAST.out)
      have hsl : Sl boolC 1 wr (.slice (some ⟨bx, 0, none⟩) k k) U := hR.sl (fun _ => rfl)
      have hsl2 : Sl boolC 1 wr (.slice (some ⟨bx, 0, none⟩) (k - 1) k) (U.take (k - 1)) := by
        have h9 : Sl boolC 1 wr (.slice (some ⟨bx, 0, none⟩) U.length k) U := by rw [hUl]; exact hsl
        exact h9.take (by omega)
      have HC := containsB_any (U.take (k - 1)) (.slice (some ⟨bx, 0, none⟩) (k - 1) k) false wr (by rw [List.length_take]; omega) hsl2
      obtain ⟨q, hq⟩ : ∃ q, q = (U.take (k - 1)).contains false := ⟨_, rfl⟩
      rw [← hq] at HC
      have HFI2 : Hid (mayB e = (!q && decide (depL e ≤ 40))) := by
        show _ = _
        rw [HFI.out, hq, ← HN.out]
      have HD := Depth_any e _ wr (by have := HN.out; omega) (Sl.below HVV.out (by rw [← HBX.out]; exact hB))
      have HDD := Lib.hid HD
      have hkm : ((k : Int) - 1) ≤ (k : Int) := by omega
      clear hM hMF hsl hsl2 hq htk hUl hR HD
      cases q
      · go_wp2_with fail
        refine HC.mono ?_
        rintro r w1 ⟨rfl, rfl⟩
        clear HC
        go_wp2_with fail
        refine HDD.out.mono ?_
        rintro r w2 ⟨rfl, hb2⟩
        obtain ⟨dd, hdd⟩ : ∃ dd, dd = depL e := ⟨_, rfl⟩
        have HE : Hid (mayB e = decide (dd ≤ 40)) := by show _ = _; rw [HFI2.out, hdd]; rfl
        rw [← hdd]
        clear hdd
        have hB2 : Below bx w w2 := hB.trans (hb2.mono (by have := hB.size; have := HBX.out; omega))
        go_wp2_with fail
        go_ret
        exact ⟨by rw [HE.out]; simp; omega, by rw [← HBX.out]; exact hB2⟩
      · go_wp2_with fail
        refine HC.mono ?_
        rintro r w1 ⟨rfl, rfl⟩
        clear HC
        go_wp2_with fail
        go_ret
        exact ⟨by (rw [HFI2.out]; first | done | rfl), by rw [← HBX.out]; exact hB⟩
end Go.Proofs.YtjnpkdpljmkpiaaGreatDoor
