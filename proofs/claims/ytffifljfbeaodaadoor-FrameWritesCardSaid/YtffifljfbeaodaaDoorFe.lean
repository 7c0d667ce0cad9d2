/- A word of a type, read. -/
import Derived.Test.YtffifljfbeaodaaDoorFd
namespace Go.Proofs.YtffifljfbeaodaaDoor
open Go.RowKit Go.Shelf

theorem below_bytes (B : Nat) (w : World) (e : TypeId) (s : ByteArray) (h : B ≤ w.heap.size) : Below B w (Lib.bytesWorld w e s) :=
  ⟨rfl, rfl, rfl, by rw [Lib.bytesWorld_size]; omega, fun k hk => Lib.bytesWorld_at_old w e s k (by omega)⟩
/-- What read answers. -/
def ReadPost (t : Int) (s : ByteArray) (w : World) (e : Ending) (w' : World) : Prop :=
  ∃ n b, e = .returned (.tuple #[.int .i64 n, .bool b]) ∧ Below w.heap.size w w' ∧ b = (Fx.readW t s.data.toList).isSome ∧ ∀ m, Fx.readW t s.data.toList = some m → n = m

set_option maxRecDepth 100000 in
set_option maxHeartbeats 1000000 in
theorem read_any (t : Int) (s : ByteArray) (hs : s.size ≤ 100000) (w : World) (G : Gl w) :
    Calls Tryd.prog 17 #[.int .i64 t, .string s] w (ReadPost t s w) := by
  by_cases h1 : t = 1
  · subst h1
    by_cases ht : s.data.toList = Fx.tru
    · have hb : (s.toList == [116, 114, 117, 101]) = true := by rw [Lib.toList_data, ht]; rfl
      have HF : Hid (Fx.readW 1 s.data.toList = some 1) := by show _ = _; rw [ht]; rfl
      clear ht
      go_enter Tryd.func17, Tryd.ntmps17
      go_wp2_with fail
      refine (truth_any true w).mono ?_
      rintro e w1 ⟨rfl, rfl⟩
      go_wp2_with fail
      go_ret2
      exact ⟨_, _, rfl, Below.refl _ _, by rw [HF.out]; rfl, fun m hm => by rw [HF.out] at hm; exact Option.some.inj hm⟩
    · have hb : (s.toList == [116, 114, 117, 101]) = false := by rw [Lib.toList_data, beq_eq_false_iff_ne]; exact ht
      obtain ⟨b, hb2⟩ : ∃ b, (s.toList == [102, 97, 108, 115, 101]) = b := ⟨_, rfl⟩
      have HF : Hid (Fx.readW 1 s.data.toList = if b then some 0 else none) := by
        show _ = _
        have e : Fx.readW 1 s.data.toList = if s.data.toList = Fx.tru then some 1 else if s.data.toList = Fx.fal then some 0 else none := rfl
        rw [e, if_neg ht, ← hb2, Lib.toList_data]
        by_cases h : s.data.toList = Fx.fal
        · rw [if_pos h, h]; rfl
        · rw [if_neg h]
          have : (s.data.toList == [102, 97, 108, 115, 101]) = false := by rw [beq_eq_false_iff_ne]; exact h
          rw [this]; rfl
      clear ht
      go_enter Tryd.func17, Tryd.ntmps17
      go_wp2_with fail
      refine (truth_any false w).mono ?_
      rintro e w1 ⟨rfl, rfl⟩
      go_wp2_with fail
      go_ret2
      refine ⟨_, _, rfl, Below.refl _ _, ?_, fun m hm => ?_⟩
      · rw [HF.out]; cases b <;> rfl
      · rw [HF.out] at hm; cases b
        · cases hm
        · exact Option.some.inj hm
  · by_cases h2 : t = 2
    · subst h2
      clear h1
      have HW : Hid (Fx.readW 2 s.data.toList = Fx.readInt s.data.toList) := rfl
      obtain ⟨q1, q2, hsv⟩ := G.syn
      obtain ⟨q3, q4, hrv⟩ := G.ran
      have HB : Hid (∀ n, Fx.readInt s.data.toList = some n → Lib.atoiAll s.data.toList = .ok n) := fun n hn => by
        obtain ⟨h3, h4⟩ := Fx.readInt_some hn
        rw [h3]; exact Fx.atoi_itoa h4
      cases ha : Lib.atoiAll s.data.toList with
      | ok v =>
        have hbd := Lib.atoiAll_bounds ha
        have hA := Tryd.strconv_Atoi_ok s (by omega) v ha w
        have HV : Hid (∀ n, Fx.readInt s.data.toList = some n → n = v) := fun n hn => by
          have := HB.out n hn; rw [ha] at this; cases this; rfl
        clear hsv hrv HB ha
        by_cases hf : Fx.fits v = true
        · obtain ⟨T, hT⟩ : ∃ T : ByteArray, T = ⟨(Lib.itoa v).toArray⟩ := ⟨_, rfl⟩
          have HT : Hid (T.data.toList = Fx.itoa v) := by show _ = _; rw [hT, ← Fx.lib_itoa]
          have hI : ∀ w', Gl w' → Calls Tryd.prog 24 #[.int .i64 v] w' fun e w'' => e = .returned (.string T) ∧ Below w'.heap.size w' w'' := fun w' G' => by
            refine (Tryd.strconv_Itoa v (by omega) (by omega) w' G'.tab).mono ?_
            rintro e w2 ⟨h, k, os, rfl⟩
            exact ⟨by rw [h, hT], below_grown w' k os⟩
          have HF : Hid (Fx.fits v = true) := hf
          have hFt : ∀ w', Calls Tryd.prog 22 #[.int .i64 v] w' fun e w'' => e = .returned (.bool true) ∧ w'' = w' := fun w' => by
            have := Fits_any v hbd.1 hbd.2 w'; rwa [hf] at this
          clear hT hf
          go_enter Tryd.func17, Tryd.ntmps17
          go_wp2_with fail
          refine hA.mono ?_
          rintro e w1 ⟨rfl, hw1⟩
          have hb1 : Below w.heap.size w w1 := by
            rcases hw1 with rfl | ⟨t, rfl⟩
            · exact Below.refl _ _
            · exact below_bytes _ _ _ _ (Nat.le_refl _)
          clear hw1 hA
          go_wp2_with fail
          refine (hFt w1).mono ?_
          rintro e w2 ⟨rfl, rfl⟩
          go_wp2_with fail
          have G2 := G.below hb1
          refine (hI _ G2).mono ?_
          rintro e w3 ⟨rfl, hb3⟩
          go_wp2_with fail
          go_ret2
          refine ⟨_, _, rfl, below_next hb1 hb3, ?_, fun m hm => ?_⟩
          · rw [HW.out]
            cases hr : Fx.readInt s.data.toList with
            | some n =>
              have := HV.out n hr
              subst this
              have h4 := (Fx.readInt_some hr).1
              show (T.toList == s.toList) = true
              rw [Lib.toList_data, Lib.toList_data, HT.out, h4]; simp
            | none =>
              show (T.toList == s.toList) = false
              rw [beq_eq_false_iff_ne, Lib.toList_data, Lib.toList_data, HT.out]
              intro h
              rw [← h, Fx.readInt_itoa HF.out] at hr; cases hr
          · rw [HW.out] at hm; exact (HV.out m hm).symm
        · have hff : Fx.fits v = false := by simpa using hf
          have HN : Hid (Fx.readInt s.data.toList = none) := by
            show _ = _
            cases hr : Fx.readInt s.data.toList with
            | some n =>
              have := HV.out n hr
              subst this
              exact absurd (Fx.readInt_some hr).2 hf
            | none => rfl
          have hFt : ∀ w', Calls Tryd.prog 22 #[.int .i64 v] w' fun e w'' => e = .returned (.bool false) ∧ w'' = w' := fun w' => by
            have := Fits_any v hbd.1 hbd.2 w'; rwa [hff] at this
          clear hf hff
          go_enter Tryd.func17, Tryd.ntmps17
          go_wp2_with fail
          refine hA.mono ?_
          rintro e w1 ⟨rfl, hw1⟩
          have hb1 : Below w.heap.size w w1 := by
            rcases hw1 with rfl | ⟨t, rfl⟩
            · exact Below.refl _ _
            · exact below_bytes _ _ _ _ (Nat.le_refl _)
          clear hw1 hA
          go_wp2_with fail
          refine (hFt w1).mono ?_
          rintro e w2 ⟨rfl, rfl⟩
          go_wp2_with fail
          go_ret2
          exact ⟨_, _, rfl, hb1, by rw [HW.out, HN.out]; rfl, fun m hm => by rw [HW.out, HN.out] at hm; cases hm⟩
      | range =>
        have hA := Tryd.strconv_Atoi_range_var s (by omega) ha q3 q4 w hrv
        have HN : Hid (Fx.readInt s.data.toList = none) := by
          show _ = _
          cases hr : Fx.readInt s.data.toList with
          | some n => have := HB.out n hr; rw [ha] at this; cases this
          | none => rfl
        clear HB ha hsv hrv
        generalize Lib.atoiSat s.data.toList = v at hA
        go_enter Tryd.func17, Tryd.ntmps17
        go_wp2_with fail
        refine hA.mono ?_
        rintro e w1 ⟨N, rfl, hN, hB1, hb1⟩
        clear hA
        go_wp2_with fail
        go_ret2
        exact ⟨_, _, rfl, hb1, by rw [HW.out, HN.out]; rfl, fun m hm => by rw [HW.out, HN.out] at hm; cases hm⟩
      | _ =>
        have hA := Tryd.strconv_Atoi_syntax_var s (by omega) (fun v q => by rw [ha] at q; cases q) (fun q => by rw [ha] at q; cases q) q1 q2 w hsv
        have HN : Hid (Fx.readInt s.data.toList = none) := by
          show _ = _
          cases hr : Fx.readInt s.data.toList with
          | some n => have := HB.out n hr; rw [ha] at this; cases this
          | none => rfl
        clear HB ha hsv hrv
        go_enter Tryd.func17, Tryd.ntmps17
        go_wp2_with fail
        refine hA.mono ?_
        rintro e w1 ⟨N, rfl, hN, hB1, hb1⟩
        clear hA
        go_wp2_with fail
        go_ret2
        exact ⟨_, _, rfl, hb1, by rw [HW.out, HN.out]; rfl, fun m hm => by rw [HW.out, HN.out] at hm; cases hm⟩
    · have HN : Hid (Fx.readW t s.data.toList = none) := by
        show _ = _
        unfold Fx.readW; rw [if_neg h1, if_neg h2]
      go_enter Tryd.func17, Tryd.ntmps17
      go_wp2_with fail
      go_ret2
      exact ⟨_, _, rfl, Below.refl _ _, by rw [HN.out]; rfl, fun m hm => by rw [HN.out] at hm; cases hm⟩
end Go.Proofs.YtffifljfbeaodaaDoor
