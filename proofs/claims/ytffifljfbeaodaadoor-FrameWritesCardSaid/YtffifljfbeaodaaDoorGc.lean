/- The reference's Write: its loops. -/
import Derived.Test.YtffifljfbeaodaaDoorGb
import Derived.Deep.RegionHeld3
namespace Go.Proofs.YtffifljfbeaodaaDoor
open Go.RowKit Go.Shelf

theorem rText_len {t n : Int} (hm : Fx.may t n = true) (w : World) : Calls Tryd.prog 28 #[.int .i64 t, .int .i64 n] w fun e w' => ∃ s : ByteArray, e = .returned (.string s) ∧ s.data.toList = Fx.text t n ∧ s.size ≤ 11 ∧ Below w.heap.size w w' := by
  refine (rText_any t n hm w).mono ?_
  rintro e w' ⟨s, h1, h2, h3⟩
  exact ⟨s, h1, h2, by rw [← list_size, h2]; exact Fx.text_len hm, h3⟩

set_option maxRecDepth 100000 in
set_option maxHeartbeats 4000000 in
theorem rWrite_any (T : List Int) (R : List (List Int)) (vt vr : Value) (hTl : T.length ≤ 1000000) (hRl : R.length ≤ 1000000) (w : World) (ht : Sl intC 1 w vt T) (hr : Rs w vr R) :
    Calls Tryd.prog 14 #[vt, vr] w (WriteRes T R w) := by
  obtain ⟨ta, tc, rfl, htc, hcell⟩ := ht.form
  obtain ⟨ra, rc, rfl, hrc, hrcell⟩ := hr.form
  clear ht hr
  obtain ⟨n, hn⟩ : ∃ n, n = T.length := ⟨_, rfl⟩
  obtain ⟨m, hm⟩ : ∃ m, m = R.length := ⟨_, rfl⟩
  rw [← hn] at htc hTl ⊢
  rw [← hm] at hrc hRl ⊢
  have HN : Hid (n = T.length) := hn
  have HM : Hid (m = R.length) := hm
  by_cases h200 : n ≤ 200
  · have h200' : ¬ (200 : Int) < (n : Int) := by omega
    have HOK : Hid (wrOk T R = Fx.writeOk T R) := by show _ = _; unfold wrOk; rw [← hn, decide_eq_true h200]; rfl
    clear hn hm
    go_enter Tryd.func14, Tryd.ntmps14
    go_wp2_with fail
    go_loopw [6] (fun i wr => ∃ j : Nat, i = .int .i64 j ∧ j ≤ n ∧ wr = w ∧ (T.take j).all Fx.typeOk = true) (fun i _ => n - (intOf i).toNat)
    case atStart => exact ⟨0, rfl, Nat.zero_le _, rfl, by simp⟩
    case round =>
      obtain ⟨j, rfl, hj, hW, hall⟩ := hrel
      subst hW
      by_cases hlt : j < n
      · obtain ⟨x, hx⟩ : ∃ x, T[j]? = some x := ⟨_, List.getElem?_eq_getElem (by have := HN.out; omega)⟩
        have hjm : (j : Int) < (n : Int) := by omega
        have hj0 : (0 : Int) ≤ (j : Int) := by omega
        obtain ⟨xb, xo, rfl, hxc⟩ := hcell wr (Below.refl _ _) j x hx
        have cx := hxc 0 _ rfl
        simp only [Nat.mul_one, Nat.add_zero] at cx
        have HX : Hid (T[j]? = some x) := hx
        clear hxc hcell hrcell hx
        by_cases hok : Fx.typeOk x = true
        · have HA : Hid ((T.take (j + 1)).all Fx.typeOk = true) := by
            show _ = _
            rw [List.take_add_one, HX.out]; simp [List.all_append, hall, hok]
          have hor : (x != 1) = false ∨ ((x != 1) = true ∧ (x != 2) = false) := by
            unfold Fx.typeOk at hok
            by_cases h : x = 1
            · exact Or.inl (by simp [h])
            · simp [h] at hok; exact Or.inr ⟨by simpa using h, by simp [hok]⟩
          clear hall hok
          rcases hor with h1 | ⟨h1, h2⟩
          all_goals
            go_wp2_with fail
            go_roundw
            case rel => exact ⟨j + 1, by go_num, by omega, by trivial, HA.out⟩
            case measure => simp [intOf]; omega
        · have HF : Hid (wrOk T R = false) := by
            show _ = _
            rw [HOK.out]
            have : T.all Fx.typeOk = false := by
              rw [Bool.eq_false_iff]; intro q
              exact hok (List.all_eq_true.1 q x (List.mem_of_getElem? HX.out))
            unfold Fx.writeOk; rw [this]; rfl
          have h1 : (x != 1) = true := by
            simp only [bne_iff_ne]; rintro rfl; exact hok rfl
          have h2 : (x != 2) = true := by
            simp only [bne_iff_ne]; rintro rfl; exact hok rfl
          clear hall hok
          go_wp2_with fail
          go_ret2
          exact wr_no HF.out (Below.refl _ _)
      · have hje : j = n := by omega
        subst hje
        have HTY : Hid (T.all Fx.typeOk = true) := by
          show _ = _
          rwa [List.take_of_length_le (by have := HN.out; omega)] at hall
        clear hall hlt
        go_wp2_with fail
        obtain ⟨w0, rfl⟩ : ∃ w0 : World, w0 = wr := ⟨_, rfl⟩
        obtain ⟨n, rfl⟩ : ∃ n : Nat, n = j := ⟨_, rfl⟩
        go_loopw [7, 8, 9] (fun s i _ wr => ∃ (j : Nat) (t : ByteArray), i = .int .i64 j ∧ j ≤ m ∧ s = .string t ∧ t.data.toList = Fx.writeText T (R.take j) ∧ Below w0.heap.size w0 wr ∧ (R.take j).all (Fx.rowOk T) = true) (fun _ i _ _ => m - (intOf i).toNat)
        case atStart => exact ⟨0, ⟨#[]⟩, rfl, Nat.zero_le _, rfl, rfl, Below.refl _ _, by simp⟩
        case round =>
          obtain ⟨j, t, rfl, hj2, rfl, htx, hbw, hall⟩ := hrel
          have hlenW : t.size ≤ 1000000 * 2401 := by
            rw [← list_size, htx]
            have h1 := Fx.writeText_len T _ hall
            have h2 : (R.take j).length ≤ 1000000 := by rw [List.length_take]; omega
            have h3 : 12 * T.length + 1 ≤ 2401 := by have := HN.out; omega
            exact Nat.le_trans h1 (Nat.mul_le_mul h2 h3)
          by_cases hlt2 : j < m
          · obtain ⟨r, hr⟩ : ∃ r, R[j]? = some r := ⟨_, List.getElem?_eq_getElem (by have := HM.out; omega)⟩
            have hjm : (j : Int) < (m : Int) := by omega
            have hj0 : (0 : Int) ≤ (j : Int) := by omega
            obtain ⟨rb, ro, u, rfl, cr0, su⟩ := hrcell w0 (Below.refl _ _) j r hr
            obtain ⟨pu, cu, rfl, hcu, hucell⟩ := su.form
            obtain ⟨L, hL⟩ : ∃ L, L = r.length := ⟨_, rfl⟩
            rw [← hL] at cr0 hcu
            have rlt := World.block_lt_of_cell? w0 _ cr0
            have cr : wr.cell? ⟨rb, ro + j, none⟩ = some (.slice pu L cu) := (hbw.cell rlt).trans cr0
            have HL : Hid (L = r.length) := hL
            have HR : Hid (R[j]? = some r) := hr
            have HALL : Hid ((R.take j).all (Fx.rowOk T) = true) := hall
            have HTX : Hid (t.data.toList = Fx.writeText T (R.take j)) := htx
            clear hrcell hr hall su hL htx
            by_cases hLn : L = n
            · have hne : ((L : Int) != (n : Int)) = false := by simp [hLn]
              have HLT : Hid (L = T.length) := by show _ = _; have := HN.out; omega
              subst hLn
              go_wp2_with fail
              obtain ⟨w1, rfl⟩ : ∃ w1 : World, w1 = wr := ⟨_, rfl⟩
              obtain ⟨t1, rfl⟩ : ∃ t1 : ByteArray, t1 = t := ⟨_, rfl⟩
              go_loopw [7, 9] (fun s i wr => ∃ (k : Nat) (t : ByteArray), i = .int .i64 k ∧ k ≤ L ∧ s = .string t ∧ t.data.toList = t1.data.toList ++ Fx.pt T r k ∧ Below w0.heap.size w0 wr ∧ Fx.rowOk (T.take k) (r.take k) = true) (fun _ i _ => L - (intOf i).toNat)
              case atStart => exact ⟨0, _, rfl, Nat.zero_le _, rfl, by rw [Fx.pt_zero, List.append_nil], hbw, by simp [Fx.rowOk]⟩
              case round =>
                obtain ⟨k, t, rfl, hk, rfl, htx3, hbw3, hok⟩ := hrel
                clear cr
                have hptl : (Fx.pt T r k).length ≤ 2400 := by
                  have := Fx.pt_len (T := T) (r := r) (i := k) (by have := HLT.out; omega) (by have := HL.out; omega) hok
                  have := HLT.out; have := HN.out; omega
                have hts : t.size ≤ 1000000 * 2401 + 2400 := by
                  rw [← list_size, htx3, List.length_append, list_size]; omega
                clear hptl
                by_cases hlt3 : k < L
                · obtain ⟨x, hx⟩ : ∃ x, T[k]? = some x := ⟨_, List.getElem?_eq_getElem (by have := HLT.out; omega)⟩
                  obtain ⟨y, hy⟩ : ∃ y, r[k]? = some y := ⟨_, List.getElem?_eq_getElem (by have := HL.out; omega)⟩
                  have hkL : (k : Int) < (L : Int) := by omega
                  have hk0 : (0 : Int) ≤ (k : Int) := by omega
                  obtain ⟨xb, xo, rfl, hxc⟩ := hcell wr hbw3 k x hx
                  have cx : wr.cell? ⟨xb, xo + k, none⟩ = some (.int .i64 x) := by have := hxc 0 _ rfl; simpa using this
                  obtain ⟨yb, yo, rfl, hyc⟩ := hucell wr hbw3 k y hy
                  have cy : wr.cell? ⟨yb, yo + k, none⟩ = some (.int .i64 y) := by have := hyc 0 _ rfl; simpa using this
                  have cr : wr.cell? ⟨rb, ro + j, none⟩ = some (.slice (some ⟨yb, yo, none⟩) L cu) := (hbw3.cell rlt).trans cr0
                  have HPS : Hid (Fx.pt T r (k + 1) = if k = 0 then Fx.text x y else Fx.pt T r k ++ 32 :: Fx.text x y) := Fx.pt_succ T r hx hy
                  have HOK2 : Hid (Fx.rowOk (T.take (k + 1)) (r.take (k + 1)) = Fx.may x y) := by show _ = _; rw [Fx.rowOk_take hx hy, hok]; rfl
                  have HNO : Hid (Fx.may x y = false → wrOk T R = false) := fun h => wr_row_no HR.out (Fx.rowOk_no hx hy h)
                  have HT3 : Hid (t.data.toList = t1.data.toList ++ Fx.pt T r k) := htx3
                  clear hcell hucell hyc hx hy hok htx3 hxc cr0 hbw hlenW
                  cases hm : Fx.may x y with
                  | false =>
                    have HF := HNO.out hm
                    have hmay : ∀ w', Calls Tryd.prog 27 #[.int .i64 x, .int .i64 y] w' fun e w'' => e = .returned (.bool false) ∧ w'' = w' := fun w' => by rw [← hm]; exact rMay_any x y w'
                    have HF2 : Hid (wrOk T R = false) := HF
                    clear hm HF
                    go_wp2_with fail
                    go_quiet ((go_at_call 27; exact Calls.quiet_of_same (hmay _)))
                    go_wp2_with fail
                    go_ret2
                    exact wr_no HF2.out (below_drawn hbw3 _)
                  | true =>
                    have hmay : ∀ w', Calls Tryd.prog 27 #[.int .i64 x, .int .i64 y] w' fun e w'' => e = .returned (.bool true) ∧ w'' = w' := fun w' => by rw [← hm]; exact rMay_any x y w'
                    have HMAY : Hid (Fx.may x y = true) := hm
                    clear hm HNO
                    go_wp2_with fail
                    go_quiet ((go_at_call 27; exact Calls.quiet_of_same (hmay _)))
                    have hbq : Below wr.heap.size wr (wr.drewN nq) := below_drawn (Below.refl _ _) nq
                    have hb4 := below_next hbw3 hbq
                    have xlt := World.block_lt_of_cell? wr _ cx
                    have ylt := World.block_lt_of_cell? wr _ cy
                    have rlt2 := World.block_lt_of_cell? wr _ cr
                    have cx4 := (hbq.cell xlt).trans cx
                    have cy4 := (hbq.cell ylt).trans cy
                    have cr4 := (hbq.cell rlt2).trans cr
                    clear cx cy cr
                    have xlt := Nat.lt_of_lt_of_le xlt hbq.size
                    have ylt := Nat.lt_of_lt_of_le ylt hbq.size
                    have rlt2 := Nat.lt_of_lt_of_le rlt2 hbq.size
                    clear hbq hbw3 hmay
                    generalize wr.drewN nq = w4 at hb4 cx4 cy4 cr4 xlt ylt rlt2 ⊢
                    by_cases hk00 : k = 0
                    · have hnk : ¬ (0 : Int) < (k : Int) := by omega
                      have HP : Hid (Fx.pt T r (k + 1) = Fx.pt T r k ++ Fx.text x y) := by show _ = _; rw [HPS.out, if_pos hk00, hk00, Fx.pt_zero]; rfl
                      clear hk00
                      go_wp2_with fail
                      have KD := (Below.refl w4.heap.size w4).drew
                      have HK0 : w4.cell? ⟨xb, xo + k, none⟩ = some (.int .i64 x) ∧ w4.cell? ⟨yb, yo + k, none⟩ = some (.int .i64 y) ∧ w4.cell? ⟨rb, ro + j, none⟩ = some (.slice (some ⟨yb, yo, none⟩) L cu) := ⟨cx4, cy4, cr4⟩
                      have HK1 : w4.drew.cell? ⟨xb, xo + k, none⟩ = some (.int .i64 x) ∧ w4.drew.cell? ⟨yb, yo + k, none⟩ = some (.int .i64 y) ∧ w4.drew.cell? ⟨rb, ro + j, none⟩ = some (.slice (some ⟨yb, yo, none⟩) L cu) := ⟨(KD.cell xlt).trans cx4, (KD.cell ylt).trans cy4, (KD.cell rlt2).trans cr4⟩
                      go_region_held3 (fun w' => w'.cell? ⟨xb, xo + k, none⟩ = some (.int .i64 x) ∧ w'.cell? ⟨yb, yo + k, none⟩ = some (.int .i64 y) ∧ w'.cell? ⟨rb, ro + j, none⟩ = some (.slice (some ⟨yb, yo, none⟩) L cu))
                        (first | exact HK2 | exact HK1 | exact HK0)
                        ((go_at_call 28; refine (rText_len HMAY.out _).mono ?_; rintro e w5 ⟨s5, rfl, hs5, hsz5, hb5⟩; have hadd : ¬ 9223372036854775807 < t.size + s5.size := (by omega); have HK2 : w5.cell? ⟨xb, xo + k, none⟩ = some (.int .i64 x) ∧ w5.cell? ⟨yb, yo + k, none⟩ = some (.int .i64 y) ∧ w5.cell? ⟨rb, ro + j, none⟩ = some (.slice (some ⟨yb, yo, none⟩) L cu) := ⟨(hb5.cell xlt).trans HK1.1, (hb5.cell ylt).trans HK1.2.1, (hb5.cell rlt2).trans HK1.2.2⟩))
                      have hb6 := below_next hb4 (below_next KD hb5)
                      clear HK0 HK1 HK2 KD hb5 cx4 cy4 cr4 xlt ylt rlt2 hb4
                      go_wp2_with fail
                      go_roundw
                      case rel => exact ⟨k + 1, _, by go_num, by omega, rfl, by rw [concat_list, HT3.out, hs5, HP.out, List.append_assoc], hb6, by rw [HOK2.out]; exact HMAY.out⟩
                      case measure => simp [intOf]; omega
                    · have hnk : (0 : Int) < (k : Int) := by omega
                      have HP : Hid (Fx.pt T r (k + 1) = (Fx.pt T r k ++ [32]) ++ Fx.text x y) := by show _ = _; rw [HPS.out, if_neg hk00]; simp
                      clear hk00
                      go_wp2_with fail
                      have KD := (Below.refl w4.heap.size w4).drew
                      have HK0 : w4.cell? ⟨xb, xo + k, none⟩ = some (.int .i64 x) ∧ w4.cell? ⟨yb, yo + k, none⟩ = some (.int .i64 y) ∧ w4.cell? ⟨rb, ro + j, none⟩ = some (.slice (some ⟨yb, yo, none⟩) L cu) := ⟨cx4, cy4, cr4⟩
                      have HK1 : w4.drew.cell? ⟨xb, xo + k, none⟩ = some (.int .i64 x) ∧ w4.drew.cell? ⟨yb, yo + k, none⟩ = some (.int .i64 y) ∧ w4.drew.cell? ⟨rb, ro + j, none⟩ = some (.slice (some ⟨yb, yo, none⟩) L cu) := ⟨(KD.cell xlt).trans cx4, (KD.cell ylt).trans cy4, (KD.cell rlt2).trans cr4⟩
                      go_region_held3 (fun w' => w'.cell? ⟨xb, xo + k, none⟩ = some (.int .i64 x) ∧ w'.cell? ⟨yb, yo + k, none⟩ = some (.int .i64 y) ∧ w'.cell? ⟨rb, ro + j, none⟩ = some (.slice (some ⟨yb, yo, none⟩) L cu))
                        (first | exact HK2 | exact HK1 | exact HK0)
                        ((go_at_call 28; refine (rText_len HMAY.out _).mono ?_; rintro e w5 ⟨s5, rfl, hs5, hsz5, hb5⟩; have hadd : ¬ 9223372036854775807 < t.size + 1 + s5.size := (by omega); have HK2 : w5.cell? ⟨xb, xo + k, none⟩ = some (.int .i64 x) ∧ w5.cell? ⟨yb, yo + k, none⟩ = some (.int .i64 y) ∧ w5.cell? ⟨rb, ro + j, none⟩ = some (.slice (some ⟨yb, yo, none⟩) L cu) := ⟨(hb5.cell xlt).trans HK1.1, (hb5.cell ylt).trans HK1.2.1, (hb5.cell rlt2).trans HK1.2.2⟩))
                      have hb6 := below_next hb4 (below_next KD hb5)
                      clear HK0 HK1 HK2 KD hb5 cx4 cy4 cr4 xlt ylt rlt2 hb4
                      go_wp2_with fail
                      go_roundw
                      case rel => exact ⟨k + 1, _, by go_num, by omega, rfl, by rw [concat_list, concat_list, HT3.out, hs5, HP.out]; simp, hb6, by rw [HOK2.out]; exact HMAY.out⟩
                      case measure => simp [intOf]; omega
                · have hke : k = L := by omega
                  subst hke
                  have HN1 : Hid (Fx.writeText T (R.take (j + 1)) = (t1.data.toList ++ Fx.pt T r k) ++ [10]) := by
                    show _ = _
                    rw [Fx.writeText_succ T HR.out, HTX.out, ← Fx.pt_full (by have := HL.out; have := HLT.out; omega), ← HLT.out, List.append_assoc]
                  have HT3 : Hid (t.data.toList = t1.data.toList ++ Fx.pt T r k) := htx3
                  have HA : Hid ((R.take (j + 1)).all (Fx.rowOk T) = true) := by
                    show _ = _
                    rw [List.take_add_one, HR.out]
                    rw [List.take_of_length_le (by have := HLT.out; omega), List.take_of_length_le (by have := HL.out; omega)] at hok
                    simp [List.all_append, HALL.out, hok]
                  clear hcell hucell hok htx3 cr0 hbw hlenW
                  go_wp2_with fail
                  go_roundw
                  case rel => exact ⟨j + 1, _, by go_num, by omega, rfl, by rw [concat_list, HT3.out, HN1.out], hbw3, HA.out⟩
                  case measure => simp [intOf]; omega
            · have hne : ((L : Int) != (n : Int)) = true := by simp; omega
              have HF : Hid (wrOk T R = false) := wr_row_no HR.out (by
                rw [Bool.eq_false_iff]; intro q
                have := Fx.rowOk_len q
                have := HL.out; have := HN.out; omega)
              clear hLn hcell hucell cr0
              go_wp2_with fail
              go_ret2
              exact wr_no HF.out hbw
          · have hje : j = m := by omega
            subst hje
            have HW : Hid (wrOk T R = true) := by
              show _ = _
              rw [List.take_of_length_le (by have := HM.out; omega)] at hall
              rw [HOK.out]; unfold Fx.writeOk; rw [HTY.out, hall]; rfl
            have HTX : Hid (t.data.toList = Fx.writeText T R) := by
              show _ = _
              rw [List.take_of_length_le (by have := HM.out; omega)] at htx; exact htx
            clear hcell hrcell hall htx
            go_wp2_with fail
            go_ret2
            exact ⟨_, _, rfl, hbw, by unfold wrText; rw [HW.out, HTX.out]; rfl, by unfold wrEr; rw [HW.out]; rfl⟩
  · have h200' : (200 : Int) < (n : Int) := by omega
    have HF : Hid (wrOk T R = false) := by show _ = _; unfold wrOk; rw [← hn, decide_eq_false h200]; rfl
    clear hn hm hcell hrcell
    go_enter Tryd.func14, Tryd.ntmps14
    go_wp2_with fail
    go_ret2
    exact wr_no HF.out (Below.refl _ _)
end Go.Proofs.YtffifljfbeaodaaDoor
