/- The reference: a node's number and name; its Args: the walks. -/
import Derived.Test.YtmklieoikbgmpaaGreatDoorJ5
import Derived.Test.YtmklieoikbgmpaaGreatDoorJ9
namespace Go.Proofs.YtmklieoikbgmpaaGreatDoor
open Go.RowKit Go.Shelf Tx
theorem plainB_is (op n : Int) (s : ByteArray) (se : Bool) (h : s.toList.isEmpty = se) : plainB op n s = (((!se) == (op == 3 || op == 27)) && decide (0 ≤ n) && decide (n ≤ mostN op)) := by
  have hse2 : decide (s ≠ ByteArray.empty) = !se := by
    rw [← h, Bool.eq_iff_iff]
    simp only [decide_eq_true_eq, Bool.not_eq_true', List.isEmpty_eq_false_iff, ne_eq]
    refine not_congr ?_
    rw [Lib.toList_data]
    exact ⟨fun h => by rw [h]; rfl, fun h => bytes_ext (by rw [h]; rfl)⟩
  unfold plainB mostN; rw [hse2]
set_option maxRecDepth 100000 in
set_option maxHeartbeats 2000000 in
theorem plain_any (x : Nd) (w : World) : Calls Tryz.prog 26 #[ndV x] w fun e w' => e = .returned (.bool (plainB x.op x.n x.s)) ∧ Below w.heap.size w w' := by
  obtain ⟨op, a, b, c, n, s⟩ := x
  have HB : Hid (Below w.heap.size w (w.alloc (.cells #[.int .i64 op, .int .i64 a, .int .i64 b, .int .i64 c, .int .i64 n, .string s] 60))) := (Below.refl _ _).alloc (Nat.le_refl _) _
  obtain ⟨se, hse⟩ : ∃ se, s.toList.isEmpty = se := ⟨_, rfl⟩
  have HF := Lib.hid (plainB_is op n s se hse)
  unfold ndV
  simp only []
  obtain ⟨nm, hnm⟩ : ∃ nm, nm = (op == 3 || op == 27) := ⟨_, rfl⟩
  have HNM : Hid (nm = (op == 3 || op == 27)) := hnm
  have hor : ((op == 3) = true ∧ (op == 27) = false ∧ nm = true) ∨ ((op == 3) = false ∧ (op == 27) = true ∧ nm = true) ∨ ((op == 3) = false ∧ (op == 27) = false ∧ nm = false) := by
    rw [hnm]
    by_cases h3 : op = 3
    · subst h3; exact Or.inl ⟨rfl, rfl, rfl⟩
    · have : (op == 3) = false := by simp [h3]
      rw [this]; cases (op == 27) <;> simp
  clear hnm
  by_cases hq : (!se) = nm
  · by_cases h1 : op = 1
    · subst h1
      have e3 : nm = false := HNM.out
      subst e3
      obtain rfl : se = true := by cases se <;> simp at hq ⊢
      clear hor hq HNM
      by_cases c1 : 0 ≤ n
      · by_cases c2 : n ≤ 2147483647
        · go_enter Tryz.func26, Tryz.ntmps26
          go_wp2_with fail
          go_ret
          exact ⟨ret_bool' (by rw [HF.out]; simp [mostN, c1, c2]), HB.out⟩
        · have C : Hid (decide (n ≤ 2147483647) = false) := decide_eq_false c2
          go_enter Tryz.func26, Tryz.ntmps26
          go_wp2_with fail
          go_ret
          exact ⟨ret_bool' (by rw [HF.out, show mostN 1 = 2147483647 from rfl, C.out]; simp), HB.out⟩
      · have C : Hid (decide (0 ≤ n) = false) := decide_eq_false c1
        go_enter Tryz.func26, Tryz.ntmps26
        go_wp2_with fail
        go_ret
        exact ⟨ret_bool' (by rw [HF.out, C.out]; simp), HB.out⟩
    by_cases h2 : op = 2
    · subst h2
      have e3 : nm = false := HNM.out
      subst e3
      obtain rfl : se = true := by cases se <;> simp at hq ⊢
      clear hor hq HNM h1
      have HD : Hid ((decide (0 ≤ n) && decide (n ≤ 1)) = (n == 0 || n == 1)) := by
        show _ = _; rw [Bool.eq_iff_iff]; simp; omega
      cases c1 : (n == 0) <;> cases c2 : (n == 1)
      all_goals
        go_enter Tryz.func26, Tryz.ntmps26
        go_wp2_with fail
        go_ret
        exact ⟨ret_bool' (by rw [HF.out, show mostN 2 = 1 from rfl, Bool.and_assoc, HD.out, c1, c2]; rfl), HB.out⟩
    by_cases h25 : op = 25
    · subst h25
      have e3 : nm = false := HNM.out
      subst e3
      obtain rfl : se = true := by cases se <;> simp at hq ⊢
      clear hor hq HNM h1 h2
      by_cases c1 : 0 ≤ n
      · by_cases c2 : n ≤ 1000
        · go_enter Tryz.func26, Tryz.ntmps26
          go_wp2_with fail
          go_ret
          exact ⟨ret_bool' (by rw [HF.out]; simp [mostN, c1, c2]), HB.out⟩
        · have C : Hid (decide (n ≤ 1000) = false) := decide_eq_false c2
          go_enter Tryz.func26, Tryz.ntmps26
          go_wp2_with fail
          go_ret
          exact ⟨ret_bool' (by rw [HF.out, show mostN 25 = 1000 from rfl, C.out]; simp), HB.out⟩
      · have C : Hid (decide (0 ≤ n) = false) := decide_eq_false c1
        go_enter Tryz.func26, Tryz.ntmps26
        go_wp2_with fail
        go_ret
        exact ⟨ret_bool' (by rw [HF.out, C.out]; simp), HB.out⟩
    have HD : Hid ((decide (0 ≤ n) && decide (n ≤ mostN op)) = (n == 0)) := by
      show _ = _; rw [show mostN op = 0 by unfold mostN; rw [if_neg h1, if_neg h2, if_neg h25], Bool.eq_iff_iff]; simp; omega
    have f1 : (op == 1) = false := by simp [h1]
    have f2 : (op == 2) = false := by simp [h2]
    have f25 : (op == 25) = false := by simp [h25]
    have HQ : Hid (((!se) == nm) = true) := by show _ = _; rw [hq]; simp
    clear h1 h2 h25
    rcases hor with ⟨g1, g2, rfl⟩ | ⟨g1, g2, rfl⟩ | ⟨g1, g2, rfl⟩
    all_goals
      cases se <;> first | (exfalso; exact absurd hq (by decide)) | skip
      clear hq
      go_enter Tryz.func26, Tryz.ntmps26
      go_wp2_with fail
      go_ret
      exact ⟨ret_bool' (by rw [HF.out, ← HNM.out, HQ.out, Bool.and_assoc, HD.out]; rfl), HB.out⟩
  · have HQ : Hid (((!se) == nm) = false) := by show _ = _; rw [beq_eq_false_iff_ne]; exact hq
    rcases hor with ⟨g1, g2, rfl⟩ | ⟨g1, g2, rfl⟩ | ⟨g1, g2, rfl⟩
    all_goals
      cases se <;> first | (exfalso; exact absurd rfl hq) | skip
      clear hq
      go_enter Tryz.func26, Tryz.ntmps26
      go_wp2_with fail
      go_ret
      exact ⟨ret_bool' (by rw [HF.out, ← HNM.out, HQ.out]; rfl), HB.out⟩
set_option maxRecDepth 100000 in
set_option maxHeartbeats 4000000 in
theorem args_any (e : List Nd) (i : Nat) (x : Nd) (hx : e[i]? = some x) (hr : inR x i) (v : Value) (w : World) (_he : e.length ≤ 1000000000) (hv : IsE w v e) :
    Calls Tryz.prog 28 #[v, .int .i64 i] w fun r w' => r = .returned (.bool (argsOk e x)) ∧ Below w.heap.size w w' := by
  obtain ⟨a, c, rfl, hc, hX⟩ := hv.form
  obtain ⟨n, hn⟩ : ∃ n, n = e.length := ⟨_, rfl⟩
  rw [← hn] at hc _he ⊢
  have HN : Hid (n = e.length) := hn
  have HX : Hid (∀ W, Below w.heap.size w W → ∀ i x, e[i]? = some x → ∃ b o, a = some ⟨b, o, none⟩ ∧ ∀ j u, (ndL x)[j]? = some u → W.cell? ⟨b, o + i * 6 + j, none⟩ = some u) := hX
  have HR : Hid (inR x i) := hr
  have HI : Hid (e[i]? = some x) := hx
  have hi : i < n := by rw [hn]; exact (List.getElem?_eq_some_iff.1 hx).1
  obtain ⟨b, o, rfl, hcell⟩ := HX.out w (Below.refl _ _) i x hx
  obtain ⟨c0, c1, c2, c3, c4, c5⟩ := nd_cells hcell
  have hkn : (i : Int) < (n : Int) := by omega
  have hk0 : (0 : Int) ≤ (i : Int) := by omega
  have nb := (Below.refl w.heap.size w).alloc (Nat.le_refl _) (.cells (ndA x) 60)
  have kb := Blk.new w (ndA x) 60
  clear hn hX hv hx hr hcell
  unfold ndA at nb kb
  have HNB := Lib.hid nb
  have HKB := Lib.hid kb
  clear nb kb
  go_enter Tryz.func28, Tryz.ntmps28
  go_wp2_with fail
  refine (rKids_any x _).mono ?_
  rintro r w2 ⟨kv, rfl, hkr0, hb2⟩
  have hB3 : Below w.heap.size w w2 := below_next HNB.out hb2
  have kb3 := HKB.out.below hb2
  have hkr := hkr0.mono (b2 := w.heap.size) (by simp)
  obtain ⟨ka, kc, hkv, hkc⟩ := hkr.form
  subst hkv
  obtain ⟨kn, hkn2⟩ : ∃ kn, kn = (kids x).length := ⟨_, rfl⟩
  have h3 := kids_len x
  rw [← hkn2] at hkr hkc h3 ⊢
  have HKN := Lib.hid hkn2
  obtain ⟨nbk, hnbk⟩ : ∃ q, q = w.heap.size := ⟨_, rfl⟩
  obtain ⟨y0, y1, y2, y3, y4, y5⟩ := six_cells kb3
  have HB3 := Lib.hid hB3
  have HKR := Lib.hid hkr
  clear hkn2 hkr0 hb2 c0 c1 c2 c3 c4 c5 HNB HKB kb3 hB3 hkr
  go_wp2_with fail
  have HL2 : Hid ((x.op == 28) = true → ((kn : Int) == 2) = (x.b != -1)) := fun h => by
    have h28 : x.op = 28 := by simpa using h
    have h26 : ¬ x.op = 26 := by omega
    have hk := HKN.out
    unfold kids at hk
    rw [if_neg h26, if_pos h28] at hk
    by_cases hb : x.b = -1
    · rw [if_pos hb] at hk; subst hk; simp [hb]
    · rw [if_neg hb] at hk; subst hk; simp [hb]
  go_loop [7] (fun i => ∃ t : Nat, i = .int .i64 t ∧ t ≤ kn ∧ ∀ t' y, t' < t → (kids x)[t']? = some y → ((e.getD y.toNat dft).op == 28) = argWant x t') (fun i => kn - (intOf i).toNat)
  case atStart => exact ⟨0, rfl, Nat.zero_le _, fun t' y h => by omega⟩
  case round =>
    obtain ⟨t, rfl, ht, hok⟩ := hrel
    by_cases hlt2 : t < kn
    · obtain ⟨y, hy⟩ : ∃ y, (kids x)[t]? = some y := ⟨_, List.getElem?_eq_getElem (by have := HKN.out; omega)⟩
      obtain ⟨g, rfl, hg1, hg2, cy, -⟩ := HKR.out.at hy
      have HY := Lib.hid hy
      have htk : (t : Int) < (kn : Int) := by omega
      have ht0 : (0 : Int) ≤ (t : Int) := by omega
      obtain ⟨hy0, hyk⟩ := HR.out y (List.mem_of_getElem? hy)
      obtain ⟨j, rfl⟩ : ∃ j : Nat, y = (j : Int) := ⟨y.toNat, by omega⟩
      have hjn : (j : Int) < (n : Int) := by omega
      clear hy
      obtain ⟨z2, hz2⟩ : ∃ z2, e[j]? = some z2 := ⟨_, List.getElem?_eq_getElem (by have := HN.out; omega)⟩
      have HZ2 : Hid ((e.getD (j : Int).toNat dft) = z2) := by show _ = _; rw [show (j : Int).toNat = j by omega, List.getD_eq_getElem?_getD, hz2]; rfl
      obtain ⟨b2, o2, hab, hcell⟩ := HX.out w2 HB3.out j z2 hz2
      cases hab
      have ce := hcell 0 _ rfl
      simp only [Nat.add_zero] at ce
      obtain ⟨wt, hwt⟩ : ∃ wt, wt = argWant x t := ⟨_, rfl⟩
      have hor : ((x.op == 27) = true ∧ wt = true) ∨ ((x.op == 27) = false ∧ (x.op == 28) = false ∧ wt = false) ∨ ((x.op == 27) = false ∧ (x.op == 28) = true ∧ ((kn : Int) == 2) = false ∧ wt = false) ∨
          ((x.op == 27) = false ∧ (x.op == 28) = true ∧ ((kn : Int) == 2) = true ∧ ((t : Int) == 0) = false ∧ wt = false) ∨ ((x.op == 27) = false ∧ (x.op == 28) = true ∧ ((kn : Int) == 2) = true ∧ ((t : Int) == 0) = true ∧ wt = true) := by
        have e1 : ((t : Int) == 0) = (t == 0) := by rw [Bool.eq_iff_iff]; simp
        rw [hwt, e1]; unfold argWant
        have := HL2.out
        revert this
        cases (x.op == 27) <;> cases (x.op == 28) <;> cases ((kn : Int) == 2) <;> cases (x.b != -1) <;> cases (t == 0) <;> simp
      obtain ⟨zo28, hzo⟩ : ∃ q, q = (z2.op == 28) := ⟨_, rfl⟩
      have hzo2 : (z2.op == 28) = zo28 := hzo.symm
      have HWT : Hid (wt = argWant x t) := hwt
      have HOK : Hid (∀ t' y, t' < t → (kids x)[t']? = some y → ((e.getD y.toNat dft).op == 28) = argWant x t') := hok
      have HZO : Hid (zo28 = (z2.op == 28)) := hzo
      clear hok hz2 hcell hwt hzo
      by_cases heq : zo28 = wt
      · have HALL : Hid (∀ t' y, t' < t + 1 → (kids x)[t']? = some y → ((e.getD y.toNat dft).op == 28) = argWant x t') := fun t' y h1 h2 => by
          by_cases q : t' = t
          · subst q
            have := HY.out; rw [h2] at this; cases this
            rw [HZ2.out, ← HZO.out, ← HWT.out]; exact heq
          · exact HOK.out t' y (by omega) h2
        rcases hor with ⟨g1, rfl⟩ | ⟨g1, g2, rfl⟩ | ⟨g1, g2, g3, rfl⟩ | ⟨g1, g2, g3, g4, rfl⟩ | ⟨g1, g2, g3, g4, rfl⟩
        all_goals
          subst heq
          go_wp2_with fail
          go_round
          case rel => exact ⟨t + 1, by go_num, by omega, HALL.out⟩
          case measure => simp [intOf]; omega
      · have HF : Hid (argsOk e x = false) := by
          show _ = _
          rw [Bool.eq_false_iff]
          intro h
          have h1 := (argsOk_iff e x).1 h t _ HY.out
          rw [HZ2.out, ← HZO.out, ← HWT.out] at h1
          exact heq h1
        have heq2 : zo28 = !wt := by revert heq; cases zo28 <;> cases wt <;> simp
        clear heq
        rcases hor with ⟨g1, rfl⟩ | ⟨g1, g2, rfl⟩ | ⟨g1, g2, g3, rfl⟩ | ⟨g1, g2, g3, g4, rfl⟩ | ⟨g1, g2, g3, g4, rfl⟩
        all_goals
          subst heq2
          go_wp2_with fail
          go_ret
          exact ⟨ret_bool' HF.out.symm, HB3.out⟩
    · have hte : t = kn := by omega
      subst hte
      have HF : Hid (argsOk e x = true) := (argsOk_iff e x).2 fun t' k hk => hok t' k (by have := (List.getElem?_eq_some_iff.1 hk).1; have := HKN.out; omega) hk
      clear hok
      go_wp2_with fail
      go_ret
      exact ⟨ret_bool' HF.out.symm, HB3.out⟩
end Go.Proofs.YtmklieoikbgmpaaGreatDoor
