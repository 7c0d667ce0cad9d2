/- The reference's numbers and words of a type. -/
import Derived.Test.YtffifljfbeaodaaDoorFh
namespace Go.Proofs.YtffifljfbeaodaaDoor
open Go.RowKit Go.Shelf

def sizeZ (d : Fx.Bs) : Int := match Fx.size d with
  | some n => n
  | none => -1
namespace Fx
theorem val_lt : ∀ (d : Bs), d.all isD = true → val d < 10 ^ d.length := by
  intro d
  have key : ∀ (n : Nat) (l : Bs), l.length = n → l.all isD = true → val l < 10 ^ l.length := by
    intro n
    induction n with
    | zero => intro l hl _; have := List.length_eq_zero_iff.1 hl; subst this; decide
    | succ n ih =>
      intro l hl h
      have hne : l ≠ [] := by intro e; rw [e] at hl; simp at hl
      have e := List.dropLast_concat_getLast hne
      have h1 : l.dropLast.all isD = true := by
        rw [← e, List.all_append] at h; simp at h; simpa using h.1
      have h2 := isD_nat (c := l.getLast hne) (by rw [← e, List.all_append] at h; simp at h; exact h.2)
      have h3 := ih l.dropLast (by simp [hl]) h1
      have h4 : l.dropLast.length = n := by simp [hl]
      rw [h4] at h3
      have h5 : val l = 10 * val l.dropLast + ((l.getLast hne).toNat - 48) := by conv => lhs; rw [← e]
                                                                                 exact val_snoc _ _
      rw [h5, hl, Nat.pow_succ]; omega
  exact key _ d rfl
theorem val_take (l : Bs) (k : Nat) (c : UInt8) (h : l[k]? = some c) : val (l.take (k + 1)) = 10 * val (l.take k) + (c.toNat - 48) := by
  rw [List.take_add_one, h]; exact val_snoc _ _
theorem all_take {p : UInt8 → Bool} (l : Bs) (k : Nat) (c : UInt8) (h : l[k]? = some c) : (l.take (k + 1)).all p = ((l.take k).all p && p c) := by
  rw [List.take_add_one, h]; simp [List.all_append]
theorem all_no {p : UInt8 → Bool} (l : Bs) (k : Nat) (c : UInt8) (h : l[k]? = some c) (hp : p c = false) : l.all p = false := by
  rw [Bool.eq_false_iff]; intro q
  have := List.all_eq_true.1 q c (List.mem_of_getElem? h)
  rw [hp] at this; cases this
end Fx
theorem ret_int {a b : Int} (h : a = b) : Ending.returned (.int .i64 a) = .returned (.int .i64 b) := by rw [h]
theorem is48 (c : UInt8) : (((c.toNat : Nat) : Int) == 48) = decide (c = 48) := by
  have := byte_eq (c := c) (d := 48); rwa [show (((48 : UInt8).toNat : Nat) : Int) = 48 from rfl] at this
theorem is45 (c : UInt8) : (((c.toNat : Nat) : Int) == 45) = decide (c = 45) := by
  have := byte_eq (c := c) (d := 45); rwa [show (((45 : UInt8).toNat : Nat) : Int) = 45 from rfl] at this

set_option maxHeartbeats 1000000 in
theorem rsize_any (s : ByteArray) (hs : s.size ≤ 1000000) (w : World) :
    Calls Tryd.prog 48 #[.string s] w fun e w' => e = .returned (.int .i64 (sizeZ s.data.toList)) ∧ w' = w := by
  by_cases he : s.data.toList = []
  · have he2 : s.toList.isEmpty = true := by rw [Lib.toList_data, he]; rfl
    have HZ : Hid (sizeZ s.data.toList = -1) := by show _ = _; rw [he]; rfl
    clear he
    go_enter Tryd.func48, Tryd.ntmps48
    go_wp2_with fail
    go_ret
    exact ⟨ret_int HZ.out.symm, rfl⟩
  · have he2 : s.toList.isEmpty = false := by rw [Lib.toList_data]; simpa using he
    have hpos : 0 < s.size := by rw [← list_size]; exact List.length_pos_iff.2 he
    have hh0 := byte_at s 0 hpos
    have hhead : s.data.toList.headD 0 = s[0] := by
      rw [List.headD_eq_head?_getD, List.head?_eq_getElem?, hh0]; rfl
    have hem : s.data.toList.isEmpty = false := by simpa using he
    by_cases hbig : 10 < s.size ∨ (s[0] = 48 ∧ 1 < s.size)
    · have HZ : Hid (sizeZ s.data.toList = -1) := by
        show _ = _
        have : Fx.size s.data.toList = none := by
          unfold Fx.size
          rw [if_pos]
          rw [hem, hhead, list_size]
          rcases hbig with h | ⟨h1, h2⟩
          · simp [h]
          · simp [h1, h2]
        unfold sizeZ; rw [this]
      have hor : (10 : Int) < (s.size : Int) ∨ (¬ (10 : Int) < (s.size : Int) ∧ ((((s[0]).toNat : Nat) : Int) == 48) = true ∧ (1 : Int) < (s.size : Int)) := by
        by_cases h : 10 < s.size
        · exact Or.inl (by omega)
        · obtain ⟨h1, h2⟩ := hbig.resolve_left h
          exact Or.inr ⟨by omega, by rw [is48, h1]; rfl, by omega⟩
      clear he hh0 hhead hem hbig
      rcases hor with h1 | ⟨h1, h2, h3⟩
      all_goals
        go_enter Tryd.func48, Tryd.ntmps48
        go_wp2_with fail
        go_ret
        exact ⟨ret_int HZ.out.symm, rfl⟩
    · have h10 : ¬ (10 : Int) < (s.size : Int) := by omega
      have hor : ((((s[0]).toNat : Nat) : Int) == 48) = false ∨ (((((s[0]).toNat : Nat) : Int) == 48) = true ∧ ¬ (1 : Int) < (s.size : Int)) := by
        by_cases h : s[0] = 48
        · exact Or.inr ⟨by rw [is48, h]; rfl, (by have h1s : ¬ 1 < s.size := fun q => hbig (Or.inr ⟨h, q⟩); exact fun q => h1s (by omega))⟩
        · exact Or.inl (by rw [is48]; simpa using h)
      have HZ : Hid (sizeZ s.data.toList = if s.data.toList.all Fx.isD then (Fx.val s.data.toList : Int) else -1) := by
        show _ = _
        have h1 : decide (10 < s.size) = false := by simp; omega
        have h2 : (s[0] == 48 && decide (1 < s.size)) = false := by
          rw [Bool.eq_false_iff]; simp; intro h; have h1s : ¬ 1 < s.size := fun q => hbig (Or.inr ⟨h, q⟩)
          omega
        unfold sizeZ Fx.size
        rw [hem, hhead, list_size, h1, h2]
        cases s.data.toList.all Fx.isD <;> simp
      clear he hh0 hhead hem hbig
      rcases hor with h1 | ⟨h1, h2⟩
      all_goals
        go_enter Tryd.func48, Tryd.ntmps48
        go_wp2_with fail
        go_loopw [3, 4] (fun n i wr => ∃ (j m : Nat), n = .int .i64 m ∧ i = .int .i64 j ∧ j ≤ s.size ∧ m = Fx.val (s.data.toList.take j) ∧ m < 10000000000 ∧ (s.data.toList.take j).all Fx.isD = true ∧ wr = w) (fun _ i _ => s.size - (intOf i).toNat)
        case atStart => exact ⟨0, 0, rfl, rfl, Nat.zero_le _, rfl, by omega, by simp, rfl⟩
        case round =>
          obtain ⟨j, m, rfl, rfl, hj, hm, hmb, hall, hW⟩ := hrel
          subst hW
          by_cases hlt : j < s.size
          · have hj2 : (j : Int) < (s.size : Int) := by omega
            have hat := byte_at s j hlt
            by_cases hd : Fx.isD s[j] = true
            · have hdn := Fx.isD_nat hd
              have hv : 10 * m + ((s[j]).toNat - 48) = Fx.val (s.data.toList.take (j + 1)) := by rw [Fx.val_take _ _ _ hat, hm]
              have HA : Hid ((s.data.toList.take (j + 1)).all Fx.isD = true) := by show _ = _; rw [Fx.all_take _ _ _ hat, hall, hd]; rfl
              have hb : 10 * m + ((s[j]).toNat - 48) < 10000000000 := by
                have h3 := Fx.val_lt _ HA.out
                rw [← hv] at h3
                have h4 : (s.data.toList.take (j + 1)).length ≤ 10 := by rw [List.length_take, list_size]; omega
                have h5 : 10 ^ (s.data.toList.take (j + 1)).length ≤ 10 ^ 10 := Nat.pow_le_pow_right (by omega) h4
                omega
              have HV : Hid (_ = _) := hv
              have d1 : ¬ ((s[j]).toNat : Int) < 48 := by omega
              have d2 : ¬ (57 : Int) < ((s[j]).toNat : Int) := by omega
              have d3 : (((s[j]).toNat : Int) - 48) % 256 = ((s[j]).toNat : Int) - 48 := by omega
              clear hd hat hall hm hv
              go_wp2_with fail
              go_roundw
              case rel => exact ⟨j + 1, 10 * m + ((s[j]).toNat - 48), by go_num, by go_num, by omega, HV.out, hb, HA.out, by trivial⟩
              case measure => simp [intOf]; omega
            · have hd2 : Fx.isD s[j] = false := by simpa using hd
              have hor2 : ((s[j]).toNat : Int) < 48 ∨ (¬ ((s[j]).toNat : Int) < 48 ∧ (57 : Int) < ((s[j]).toNat : Int)) := by
                have : ¬ (48 ≤ (s[j]).toNat ∧ (s[j]).toNat ≤ 57) := fun h => hd (by
                  unfold Fx.isD
                  rw [Bool.and_eq_true, decide_eq_true_eq, decide_eq_true_eq, UInt8.le_iff_toNat_le, UInt8.le_iff_toNat_le]; exact h)
                omega
              have HN : Hid (sizeZ s.data.toList = -1) := by show _ = _; rw [HZ.out, Fx.all_no _ _ _ hat hd2]; rfl
              clear hd hd2 hat hall hm
              rcases hor2 with d1 | ⟨d1, d2⟩
              all_goals
                go_wp2_with fail
                go_ret
                exact ⟨ret_int HN.out.symm, rfl⟩
          · have hje : j = s.size := by omega
            subst hje
            have HN : Hid (sizeZ s.data.toList = (m : Int)) := by
              show _ = _
              rw [List.take_of_length_le (by rw [list_size]; exact Nat.le_refl _)] at hm hall
              rw [HZ.out, hall, hm]; rfl
            clear hm hall
            go_wp2_with fail
            go_ret
            exact ⟨ret_int HN.out.symm, rfl⟩
end Go.Proofs.YtffifljfbeaodaaDoor
