/- The reference's word of a type. -/
import Derived.Test.YtffifljfbeaodaaDoorFi
namespace Go.Proofs.YtffifljfbeaodaaDoor
open Go.RowKit Go.Shelf

theorem sizeZ_bound (d : Fx.Bs) : -1 ≤ sizeZ d ∧ sizeZ d < 10000000000 := by
  unfold sizeZ
  cases h : Fx.size d with
  | none => simp
  | some n => have := (Fx.size_some h).2; simp; omega
theorem readInt_neg (d : Fx.Bs) : Fx.readInt (45 :: d) = if (decide (0 < sizeZ d) && Fx.fits (-(sizeZ d))) = true then some (-(sizeZ d)) else none := by
  have e : Fx.readInt (45 :: d) = match Fx.size d with
    | some n => if 0 < n ∧ n ≤ 2147483648 then some (-(n : Int)) else none
    | none => none := rfl
  rw [e]
  unfold sizeZ Fx.fits
  cases h : Fx.size d with
  | none => simp
  | some n =>
    simp only
    by_cases h1 : 0 < n ∧ n ≤ 2147483648
    · rw [if_pos h1, if_pos (by simp; omega)]
    · rw [if_neg h1, if_neg (by simp; omega)]
theorem readInt_pos {w : Fx.Bs} (hw : w.head? ≠ some 45) : Fx.readInt w = if (decide (0 ≤ sizeZ w) && Fx.fits (sizeZ w)) = true then some (sizeZ w) else none := by
  have e : Fx.readInt w = match Fx.size w with
    | some n => if n ≤ 2147483647 then some (n : Int) else none
    | none => none := by
    unfold Fx.readInt
    split
    · simp at hw
    · rfl
  rw [e]
  unfold sizeZ Fx.fits
  cases h : Fx.size w with
  | none => simp
  | some n =>
    simp only
    by_cases h1 : n ≤ 2147483647
    · rw [if_pos h1, if_pos (by simp; omega)]
    · rw [if_neg h1, if_neg (by simp; omega)]
theorem tail_list (s : ByteArray) : (s.extract 1 s.size).data.toList = s.data.toList.drop 1 := ext_to_end s 1

/-- The number that the reference's word tells, of a type or not. -/
def wordN (t : Int) (s : Fx.Bs) : Int := if t = 1 then (if s = Fx.tru then 1 else 0) else if t = 2 then (if s.head? = some 45 then -(sizeZ (s.drop 1)) else sizeZ s) else 0
theorem wordN_is {t : Int} {s : Fx.Bs} {m : Int} (h : Fx.readW t s = some m) : wordN t s = m := by
  unfold Fx.readW at h
  unfold wordN
  by_cases h1 : t = 1
  · rw [if_pos h1] at h ⊢
    by_cases ht : s = Fx.tru
    · rw [if_pos ht] at h ⊢; exact Option.some.inj h
    · rw [if_neg ht] at h ⊢
      split at h
      · exact Option.some.inj h
      · cases h
  · rw [if_neg h1] at h ⊢
    by_cases h2 : t = 2
    · rw [if_pos h2] at h ⊢
      by_cases hm : s.head? = some 45
      · rw [if_pos hm]
        cases s with
        | nil => simp at hm
        | cons a l =>
          simp at hm; subst hm
          rw [readInt_neg] at h
          split at h
          · simpa using Option.some.inj h
          · cases h
      · rw [if_neg hm]
        rw [readInt_pos hm] at h
        split at h
        · exact Option.some.inj h
        · cases h
    · rw [if_neg h2] at h; cases h

set_option maxRecDepth 100000 in
set_option maxHeartbeats 1000000 in
theorem rword_any (t : Int) (s : ByteArray) (hs : s.size ≤ 1000000) (w : World) :
    Calls Tryd.prog 37 #[.int .i64 t, .string s] w fun e w' => e = .returned (.tuple #[.int .i64 (wordN t s.data.toList), .bool (Fx.readW t s.data.toList).isSome]) ∧ w' = w := by
  by_cases h1 : t = 1
  · subst h1
    by_cases ht : s.data.toList = Fx.tru
    · have hb : (s.toList == [116, 114, 117, 101]) = true := by rw [Lib.toList_data, ht]; rfl
      have HF : Hid ((Fx.readW 1 s.data.toList).isSome = true ∧ wordN 1 s.data.toList = 1) := by rw [ht]; exact ⟨rfl, rfl⟩
      clear ht
      go_enter Tryd.func37, Tryd.ntmps37
      go_wp2_with fail
      go_ret2
      exact ⟨by rw [HF.out.1, HF.out.2]; rfl, rfl⟩
    · have HN1 : Hid (wordN 1 s.data.toList = 0) := by show _ = _; unfold wordN; rw [if_pos rfl, if_neg ht]
      have hb : (s.toList == [116, 114, 117, 101]) = false := by rw [Lib.toList_data, beq_eq_false_iff_ne]; exact ht
      obtain ⟨b, hb2⟩ : ∃ b, (s.toList == [102, 97, 108, 115, 101]) = b := ⟨_, rfl⟩
      have HF : Hid (Fx.readW 1 s.data.toList = if b then some 0 else none) := by
        show _ = _
        have e : Fx.readW 1 s.data.toList = if s.data.toList = Fx.tru then some 1 else if s.data.toList = Fx.fal then some 0 else none := rfl
        rw [e, if_neg ht, ← hb2, Lib.toList_data]
        by_cases h : s.data.toList = Fx.fal
        · rw [if_pos h, h]; rfl
        · rw [if_neg h]
          have : (s.data.toList == [102, 97, 108, 115, 101]) = false := by rw [beq_eq_false_iff_ne]; exact h
          rw [this]; rfl
      clear ht
      go_enter Tryd.func37, Tryd.ntmps37
      go_wp2_with fail
      go_ret2
      refine ⟨?_, rfl⟩
      rw [HF.out, HN1.out]; cases b <;> rfl
  · by_cases h2 : t = 2
    · subst h2
      clear h1
      have HW : Hid (Fx.readW 2 s.data.toList = Fx.readInt s.data.toList) := rfl
      have fin : ∀ (z z' : Int) (b b' : Bool), Fx.readInt s.data.toList = (if b' = true then some z' else none) → b = b' → z = wordN 2 s.data.toList → Ending.returned (.tuple #[.int .i64 z, .bool b]) = .returned (.tuple #[.int .i64 (wordN 2 s.data.toList), .bool (Fx.readW 2 s.data.toList).isSome]) := fun z z' b b' h hb hz => by
        rw [HW.out, h, hz, hb]; cases b' <;> rfl
      have HFIN : Hid (∀ (z z' : Int) (b b' : Bool), _ → _ → _ → _) := fin
      clear fin
      by_cases hm : s.data.toList.head? = some 45
      · have hpos : 0 < s.size := by
          rw [← list_size]; cases hl : s.data.toList with
          | nil => rw [hl] at hm; simp at hm
          | cons a l => simp
        have hs0 : s[0] = 45 := by
          rw [List.head?_eq_getElem?, byte_at s 0 hpos] at hm; exact Option.some.inj hm
        have he : (!s.toList.isEmpty) = true := by rw [Lib.toList_data]; cases hl : s.data.toList <;> simp_all
        have hb : ((((s[0]).toNat : Nat) : Int) == 45) = true := by rw [is45, hs0]; rfl
        have hd : s.data.toList = 45 :: s.data.toList.drop 1 := by
          cases hl : s.data.toList with
          | nil => rw [hl] at hm; simp at hm
          | cons a l => rw [hl] at hm; simp at hm; rw [hm]; rfl
        obtain ⟨z, hz⟩ : ∃ z, z = sizeZ (s.data.toList.drop 1) := ⟨_, rfl⟩
        have hzb := sizeZ_bound (s.data.toList.drop 1)
        rw [← hz] at hzb
        have HR : Hid (Fx.readInt s.data.toList = if (decide (0 < z) && Fx.fits (-z)) = true then some (-z) else none) := by
          show _ = _
          rw [hd, readInt_neg, hz]
        have hsz : ∀ w, Calls Tryd.prog 48 #[.string (s.extract 1 s.size)] w fun e w' => e = .returned (.int .i64 z) ∧ w' = w := fun w => by
          have := rsize_any (s.extract 1 s.size) (by rw [← list_size, tail_list, List.length_drop, list_size]; omega) w
          rwa [tail_list, ← hz] at this
        have h1s : (1 : Int) ≤ (s.size : Int) := by omega
        have HWN : Hid (-z = wordN 2 s.data.toList) := by show _ = _; unfold wordN; rw [if_neg (by decide), if_pos rfl, if_pos hm, hz]
        clear hm hs0 hd hz
        by_cases hz0 : 0 < z
        · go_enter Tryd.func37, Tryd.ntmps37
          go_wp2_with fail
          refine (hsz _).mono ?_
          rintro e w1 ⟨rfl, rfl⟩
          go_wp2_with fail
          refine (rFits_any _ _).mono ?_
          rintro e w2 ⟨rfl, rfl⟩
          go_wp2_with fail
          go_ret2
          exact ⟨HFIN.out _ _ _ _ HR.out (by rw [decide_eq_true hz0]; rfl) HWN.out, rfl⟩
        · go_enter Tryd.func37, Tryd.ntmps37
          go_wp2_with fail
          refine (hsz _).mono ?_
          rintro e w1 ⟨rfl, rfl⟩
          go_wp2_with fail
          go_ret2
          exact ⟨HFIN.out _ _ _ _ HR.out (by rw [decide_eq_false (by omega)]; rfl) HWN.out, rfl⟩
      · obtain ⟨z, hz⟩ : ∃ z, z = sizeZ s.data.toList := ⟨_, rfl⟩
        have hzb := sizeZ_bound s.data.toList
        rw [← hz] at hzb
        have HR : Hid (Fx.readInt s.data.toList = if (decide (0 ≤ z) && Fx.fits z) = true then some z else none) := by
          show _ = _
          rw [readInt_pos hm, hz]
        have hsz : ∀ w, Calls Tryd.prog 48 #[.string s] w fun e w' => e = .returned (.int .i64 z) ∧ w' = w := fun w => by
          have := rsize_any s hs w
          rwa [← hz] at this
        have hor : (!s.toList.isEmpty) = false ∨ ((!s.toList.isEmpty) = true ∧ ∃ h : 0 < s.size, ((((s[0]).toNat : Nat) : Int) == 45) = false) := by
          rw [Lib.toList_data]
          cases hl : s.data.toList with
          | nil => exact Or.inl rfl
          | cons a l =>
            have hp : 0 < s.size := by rw [← list_size, hl]; simp
            refine Or.inr ⟨rfl, hp, ?_⟩
            rw [is45]
            have h3 := byte_at s 0 hp
            rw [List.head?_eq_getElem?, h3] at hm
            simpa using hm
        have HWN : Hid (z = wordN 2 s.data.toList) := by show _ = _; unfold wordN; rw [if_neg (by decide), if_pos rfl, if_neg hm, hz]
        clear hm hz
        rcases hor with he | ⟨he, hp, h45⟩
        all_goals
          by_cases hz0 : 0 ≤ z
          · go_enter Tryd.func37, Tryd.ntmps37
            go_wp2_with fail
            refine (hsz _).mono ?_
            rintro e w1 ⟨rfl, rfl⟩
            go_wp2_with fail
            refine (rFits_any _ _).mono ?_
            rintro e w2 ⟨rfl, rfl⟩
            go_wp2_with fail
            go_ret2
            exact ⟨HFIN.out _ _ _ _ HR.out (by rw [decide_eq_true hz0]; rfl) HWN.out, rfl⟩
          · go_enter Tryd.func37, Tryd.ntmps37
            go_wp2_with fail
            refine (hsz _).mono ?_
            rintro e w1 ⟨rfl, rfl⟩
            go_wp2_with fail
            go_ret2
            exact ⟨HFIN.out _ _ _ _ HR.out (by rw [decide_eq_false (by omega)]; rfl) HWN.out, rfl⟩
    · have HN : Hid (Fx.readW t s.data.toList = none ∧ wordN t s.data.toList = 0) := by
        unfold Fx.readW wordN; rw [if_neg h1, if_neg h2, if_neg h1, if_neg h2]; exact ⟨rfl, rfl⟩
      go_enter Tryd.func37, Tryd.ntmps37
      go_wp2_with fail
      go_ret2
      exact ⟨by rw [HN.out.1, HN.out.2]; rfl, rfl⟩
end Go.Proofs.YtffifljfbeaodaaDoor
