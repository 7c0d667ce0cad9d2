/- The law FrameRight: the walk. -/
import Derived.Test.YtffifljfbeaodaaDoorFs
namespace Go.Proofs.YtffifljfbeaodaaDoor
open Go.RowKit Go.Shelf

theorem rowOk_at {T r : List Int} (h : Fx.rowOk T r = true) {i : Nat} {t n : Int} (ht : T[i]? = some t) (hn : r[i]? = some n) : Fx.may t n = true := by
  cases hm : Fx.may t n with
  | true => rfl
  | false => rw [Fx.rowOk_no ht hn hm] at h; cases h
/-- What the law asks of a number. -/
theorem may_cases {t n : Int} (h : Fx.may t n = true) : ¬ n < -2147483648 ∧ ¬ (2147483647 : Int) < n ∧ ((t = 2) ∨ (t = 1 ∧ n = 0) ∨ (t = 1 ∧ n = 1)) := by
  unfold Fx.may Fx.fits at h
  simp at h
  omega

set_option maxRecDepth 100000 in
set_option maxHeartbeats 2000000 in
theorem right_any (T : List Int) (vt : Value) (s : ByteArray) (w : World) (G : Gl w) (ht : Sl intC 1 w vt T) : Calls Tryd.prog 7 #[vt, .string s] w fun e w' => e = .returned (.bool true) ∧ Below w.heap.size w w' := by
  obtain ⟨ta, tc, rfl, -, hcell⟩ := ht.form
  by_cases hbig : 2000 < s.size ∨ 60 < T.length
  · have hor : (2000 : Int) < (s.size : Int) ∨ (¬ (2000 : Int) < (s.size : Int) ∧ (60 : Int) < (T.length : Int)) := by omega
    clear hbig ht hcell
    generalize T.length = n at hor ⊢
    rcases hor with h1 | ⟨h1, h2⟩
    all_goals
      go_enter Tryd.func7, Tryd.ntmps7
      go_wp2_with fail
      refine (live_any w G).mono ?_
      rintro e w1 ⟨rfl, hb1⟩
      go_wp2_with fail
      go_ret
      exact ⟨rfl, hb1⟩
  have hs0 : ¬ (2000 : Int) < (s.size : Int) := by omega
  have hT1 : ¬ (60 : Int) < (T.length : Int) := by omega
  obtain ⟨n, hn⟩ : ∃ n, n = T.length := ⟨_, rfl⟩
  have HN : Hid (n = T.length) := hn
  have HTY : Hid (Sl intC 1 w (.slice ta T.length tc) T) := ht
  rw [← hn] at hT1 HTY ⊢
  clear hn hbig ht
  obtain ⟨R, hR⟩ : ∃ R, R = rdRows T s.data.toList := ⟨_, rfl⟩
  obtain ⟨E, hE⟩ : ∃ E, E = rdEr T s.data.toList := ⟨_, rfl⟩
  obtain ⟨A, hA⟩ : ∃ A, A = rdAt T s.data.toList := ⟨_, rfl⟩
  have hmany : rdMany T s.data.toList = false := by unfold rdMany; rw [list_size, ← HN.out]; simp; omega
  have HRL : Hid (R.length ≤ 1000000) := by rw [hR]; exact (rdRows_len T s (by omega)).1
  have HOK : Hid (∀ r ∈ R, Fx.rowOk T r = true) := by
    intro r hr
    rw [hR] at hr
    unfold rdRows at hr; rw [hmany] at hr
    exact List.all_eq_true.1 (Fx.rows_read T (Fx.lines s.data.toList)).1 r hr
  have HEA : Hid (E = 0 ∨ (E = 17 ∧ A = R.length)) := by
    rw [hE, hA, hR]; unfold rdEr rdAt rdRows; rw [hmany]
    cases (Fx.readS T s.data.toList).2
    · left; simp
    · right; simp
  have hRead := Read_any T (.slice ta n tc) s (by omega) (by have := HN.out; omega) w G HTY.out
  unfold ReadRes at hRead
  rw [← hR, ← hE, ← hA] at hRead
  clear hR hE hA hmany
  go_enter Tryd.func7, Tryd.ntmps7
  go_wp2_with fail
  refine hRead.mono ?_
  rintro e w1 ⟨v, er, at_, rfl, hb1, s1, rfl, rfl⟩
  have nb1 := (Below.refl w1.heap.size w1).alloc (Nat.le_refl _) (.cells #[.int .i64 er, .int .i64 at_] 27)
  have B1 := below_next hb1 nb1
  have k1 := Blk.new w1 #[.int .i64 er, .int .i64 at_] 27
  have s1 := s1.below nb1
  have G1 := (G.below hb1).below nb1
  clear hb1 nb1 G HTY hRead
  obtain ⟨p1, c1, rfl, hc1, hrcell⟩ := s1.form
  obtain ⟨m, hm⟩ : ∃ m, m = R.length := ⟨_, rfl⟩
  have HM : Hid (m = R.length) := hm
  rw [← hm] at hc1 ⊢
  clear hm s1
  go_wp2_with fail
  generalize w1.alloc (.cells #[.int .i64 er, .int .i64 at_] 27) = W1 at B1 k1 G1 hrcell ⊢
  generalize w1.heap.size = b1 at k1 ⊢
  go_loopw [7] (fun i wr => ∃ j : Nat, i = .int .i64 j ∧ j ≤ m ∧ wr = W1) (fun i _ => m - (intOf i).toNat)
  case atStart => exact ⟨0, rfl, Nat.zero_le _, rfl⟩
  case round =>
    obtain ⟨j, rfl, hj, hW⟩ := hrel
    subst hW
    by_cases hlt : j < m
    · obtain ⟨r, hr⟩ : ∃ r, R[j]? = some r := ⟨_, List.getElem?_eq_getElem (by have := HM.out; omega)⟩
      have hjm : (j : Int) < (m : Int) := by omega
      have hj0 : (0 : Int) ≤ (j : Int) := by omega
      have hm6 : m ≤ 1000000 := by have := HM.out; have := HRL.out; omega
      obtain ⟨rb, ro, u, rfl, cr, su⟩ := hrcell wr (Below.refl _ _) j r hr
      obtain ⟨pu, cu, rfl, hcu, hucell⟩ := su.form
      have HROK : Hid (Fx.rowOk T r = true) := HOK.out r (List.mem_of_getElem? hr)
      have hrl : r.length = n := by rw [HN.out]; exact Fx.rowOk_len HROK.out
      rw [hrl] at cr hcu
      have HRN : Hid (r.length = n) := hrl
      clear hrl su hr
      go_wp2_with fail
      obtain ⟨w2, rfl⟩ : ∃ w2 : World, w2 = wr := ⟨_, rfl⟩
      go_loopw [8] (fun i wr => ∃ k : Nat, i = .int .i64 k ∧ k ≤ n ∧ wr = w2) (fun i _ => n - (intOf i).toNat)
      case atStart => exact ⟨0, rfl, Nat.zero_le _, rfl⟩
      case round =>
        obtain ⟨k, rfl, hk, hW⟩ := hrel
        subst hW
        by_cases hlt2 : k < n
        · obtain ⟨x, hx⟩ : ∃ x, T[k]? = some x := ⟨_, List.getElem?_eq_getElem (by have := HN.out; omega)⟩
          obtain ⟨y, hy⟩ : ∃ y, r[k]? = some y := ⟨_, List.getElem?_eq_getElem (by have := HRN.out; omega)⟩
          have hkn : (k : Int) < (n : Int) := by omega
          have hk0 : (0 : Int) ≤ (k : Int) := by omega
          obtain ⟨xb, xo, rfl, hxc⟩ := hcell wr B1 k x hx
          obtain ⟨yb, yo, rfl, hyc⟩ := hucell wr (Below.refl _ _) k y hy
          have cx : wr.cell? ⟨xb, xo + k, none⟩ = some (.int .i64 x) := by have := hxc 0 _ rfl; simpa using this
          have cy : wr.cell? ⟨yb, yo + k, none⟩ = some (.int .i64 y) := by have := hyc 0 _ rfl; simpa using this
          obtain ⟨m1, m2, m3⟩ := may_cases (rowOk_at HROK.out hx hy)
          clear hx hy hxc hyc hcell hucell hrcell
          rcases m3 with rfl | ⟨rfl, rfl⟩ | ⟨rfl, rfl⟩
          all_goals
            go_wp2_with fail
            go_roundw
            case rel => exact ⟨k + 1, by go_num, by omega, by trivial⟩
            case measure => simp [intOf]; omega
        · have hkk : k = n := by omega
          subst hkk
          clear hcell hucell hrcell
          go_wp2_with fail
          go_roundw
          case rel => exact ⟨j + 1, by go_num, by omega, by trivial⟩
          case measure => simp [intOf]; omega
    · have hje : j = m := by omega
      subst hje
      obtain ⟨g1, g2, -, -⟩ := two_cells k1
      have hEA : (er == 0) = true ∨ ((er == 0) = false ∧ at_ = (j : Int)) := by
        rcases HEA.out with h | ⟨h, h2⟩
        · left; rw [h]; rfl
        · right; exact ⟨by rw [h]; rfl, by rw [h2, HM.out]⟩
      clear hcell hrcell HEA
      rcases hEA with h1 | ⟨h1, rfl⟩
      all_goals
        go_wp2_with fail
        refine (live_any _ G1).mono ?_
        rintro e w5 ⟨rfl, hb5⟩
        have B5 := below_next B1 hb5
        go_wp2_with fail
        go_ret
        exact ⟨rfl, B5⟩
end Go.Proofs.YtffifljfbeaodaaDoor
