/- The reference's Write: the walk. -/
import Derived.Test.YtffifljfbeaodaaDoorGa
namespace Go.Proofs.YtffifljfbeaodaaDoor
open Go.RowKit Go.Shelf

theorem rMay_any (t n : Int) (w : World) : Calls Tryd.prog 27 #[.int .i64 t, .int .i64 n] w fun e w' => e = .returned (.bool (Fx.may t n)) ∧ w' = w := by
  by_cases h2 : t = 2
  · obtain ⟨b, hb⟩ : ∃ b, b = Fx.fits n := ⟨_, rfl⟩
    have hF : ∀ w', Calls Tryd.prog 41 #[.int .i64 n] w' fun e w'' => e = .returned (.bool b) ∧ w'' = w' := fun w' => by rw [hb]; exact rFits_any n w'
    have HM : Hid (Fx.may t n = b) := by show _ = _; unfold Fx.may; rw [h2, hb]; simp
    have e1 : (t == 2) = true := by simp [h2]
    have e2 : (t == 1) = false := by simp [h2]
    clear hb h2
    cases b
    all_goals
      go_enter Tryd.func27, Tryd.ntmps27
      go_wp2_with fail
      refine (hF _).mono ?_
      rintro e w1 ⟨rfl, rfl⟩
      go_wp2_with fail
      go_ret
      exact ⟨by rw [HM.out]; rfl, rfl⟩
  · have e1 : (t == 2) = false := by simp [h2]
    by_cases h1 : t = 1
    · have e2 : (t == 1) = true := by simp [h1]
      have HM : Hid (Fx.may t n = ((n == 0) || (n == 1))) := by
        show _ = _; unfold Fx.may; rw [h1]; simp
        rfl
      clear h1 h2
      have hor : (n == 0) = true ∨ ((n == 0) = false ∧ (n == 1) = true) ∨ ((n == 0) = false ∧ (n == 1) = false) := by
        cases (n == 0) <;> cases (n == 1) <;> simp
      rcases hor with h | ⟨h, h'⟩ | ⟨h, h'⟩
      · have HM2 : Hid (Fx.may t n = true) := by show _ = _; rw [HM.out, h]; rfl
        go_enter Tryd.func27, Tryd.ntmps27
        go_wp2_with fail
        go_ret
        exact ⟨by rw [HM2.out]; rfl, rfl⟩
      · have HM2 : Hid (Fx.may t n = true) := by show _ = _; rw [HM.out, h, h']; rfl
        go_enter Tryd.func27, Tryd.ntmps27
        go_wp2_with fail
        go_ret
        exact ⟨by rw [HM2.out]; rfl, rfl⟩
      · have HM2 : Hid (Fx.may t n = false) := by show _ = _; rw [HM.out, h, h']; rfl
        go_enter Tryd.func27, Tryd.ntmps27
        go_wp2_with fail
        go_ret
        exact ⟨by rw [HM2.out]; rfl, rfl⟩
    · have e2 : (t == 1) = false := by simp [h1]
      have HM : Hid (Fx.may t n = false) := by show _ = _; unfold Fx.may; simp [h1, h2]
      go_enter Tryd.func27, Tryd.ntmps27
      go_wp2_with fail
      go_ret
      exact ⟨by rw [HM.out]; rfl, rfl⟩

theorem rText_any (t n : Int) (hm : Fx.may t n = true) (w : World) : Calls Tryd.prog 28 #[.int .i64 t, .int .i64 n] w fun e w' => ∃ s : ByteArray, e = .returned (.string s) ∧ s.data.toList = Fx.text t n ∧ Below w.heap.size w w' := by
  by_cases h1 : t = 1
  · have e1 : (t == 1) = true := by simp [h1]
    obtain ⟨b, hb⟩ : ∃ b, b = (n == 1) := ⟨_, rfl⟩
    have HT : Hid (Fx.text t n = if b then Fx.tru else Fx.fal) := by
      show _ = _; unfold Fx.text; rw [if_pos h1, hb]; simp
    have e2 : (n == 1) = b := hb.symm
    clear hb h1 hm
    cases b
    all_goals
      go_enter Tryd.func28, Tryd.ntmps28
      go_wp2_with fail
      go_ret
      exact ⟨_, rfl, by rw [HT.out]; rfl, Below.refl _ _⟩
  · have e1 : (t == 1) = false := by simp [h1]
    have hf : Fx.fits n = true := by unfold Fx.may at hm; simp [h1] at hm; exact hm.2
    have hf2 : -2147483648 ≤ n ∧ n ≤ 2147483647 := by simpa [Fx.fits] using hf
    obtain ⟨hf3, hf4⟩ := hf2
    by_cases hn : n < 0
    · have HT : Hid (Fx.text t n = 45 :: Fx.dec n.natAbs) := by show _ = _; unfold Fx.text Fx.itoa; rw [if_neg h1, if_pos hn]
      have hD : ∀ w', Calls Tryd.prog 42 #[.int .i64 (-n)] w' fun e w'' => ∃ t : ByteArray, e = .returned (.string t) ∧ t.data.toList = Fx.dec n.natAbs ∧ t.size ≤ 20 ∧ Below w'.heap.size w' w'' := fun w' => by
        rw [show -n = ((n.natAbs : Nat) : Int) by omega]
        refine (rDigits_any n.natAbs (by omega) w').mono ?_
        rintro e w2 ⟨s, a, b, c⟩
        have := (Fx.dec_is n.natAbs).2.2.2.2 9 (by omega)
        exact ⟨s, a, b, by rw [← list_size, b]; omega, c⟩
      clear h1 hm hf
      go_enter Tryd.func28, Tryd.ntmps28
      go_wp2_with fail
      refine (hD _).mono ?_
      rintro e w1 ⟨s, rfl, hs, hss, hb⟩
      go_wp2_with fail
      go_ret
      exact ⟨_, rfl, by rw [concat_list, hs, HT.out]; rfl, hb⟩
    · have HT : Hid (Fx.text t n = Fx.dec n.natAbs) := by show _ = _; unfold Fx.text Fx.itoa; rw [if_neg h1, if_neg hn]; congr 1; omega
      have hD : ∀ w', Calls Tryd.prog 42 #[.int .i64 n] w' fun e w'' => ∃ t : ByteArray, e = .returned (.string t) ∧ t.data.toList = Fx.dec n.natAbs ∧ t.size ≤ 20 ∧ Below w'.heap.size w' w'' := fun w' => by
        have e : n = ((n.natAbs : Nat) : Int) := by omega
        have key := rDigits_any n.natAbs (by omega) w'
        rw [← e] at key
        refine key.mono ?_
        rintro e w2 ⟨s, a, b, c⟩
        have := (Fx.dec_is n.natAbs).2.2.2.2 9 (by omega)
        exact ⟨s, a, b, by rw [← list_size, b]; omega, c⟩
      clear h1 hm hf
      go_enter Tryd.func28, Tryd.ntmps28
      go_wp2_with fail
      refine (hD _).mono ?_
      rintro e w1 ⟨s, rfl, hs, hss, hb⟩
      go_wp2_with fail
      go_ret
      exact ⟨_, rfl, by rw [hs, HT.out], hb⟩
end Go.Proofs.YtffifljfbeaodaaDoor
