/- The reference's lines and words. -/
import Derived.Test.YtffifljfbeaodaaDoorFg
namespace Go.Proofs.YtffifljfbeaodaaDoor
open Go.RowKit Go.Shelf

theorem byte_at (s : ByteArray) (k : Nat) (h : k < s.size) : s.data.toList[k]? = some s[k] := by
  rw [List.getElem?_eq_getElem (by rw [list_size]; exact h)]; rfl
theorem byte_eq {c d : UInt8} : (((c.toNat : Nat) : Int) == ((d.toNat : Nat) : Int)) = decide (c = d) := by
  rw [Bool.eq_iff_iff]; simp [← UInt8.toNat_inj]; omega
theorem ext_list (s : ByteArray) (a b : Nat) : (s.extract a b).data.toList = (s.data.toList.drop a).take (b - a) := by
  rw [ByteArray.data_extract, Array.toList_extract, List.extract_eq_take_drop]
theorem ext_to_end (s : ByteArray) (n : Nat) : (s.extract n s.size).data.toList = s.data.toList.drop n := by
  rw [ext_list, List.take_of_length_le (by simp)]
theorem rowS : RowTy Tryd.prog 39 9 1 16 := RowTy.mk' Tryd.underlying39 (z := .string ByteArray.empty) (by kernel_rfl) rfl (by decide)
/-- A stretch without a byte, and what ends it. -/
theorem stretch {l : List UInt8} {a j : Nat} {c : UInt8} (hc : l[j]? = some c) (ha : a ≤ j) : l.drop a = (l.drop a).take (j - a) ++ c :: l.drop (j + 1) := by
  obtain ⟨hl, he⟩ := List.getElem?_eq_some_iff.1 hc
  have : l.drop j = c :: l.drop (j + 1) := by rw [List.drop_eq_getElem_cons hl, he]
  rw [← this]
  conv => lhs; rw [← List.take_append_drop (j - a) (l.drop a)]
  rw [List.drop_drop, show a + (j - a) = j by omega]
theorem no_in_stretch {l : List UInt8} {a j : Nat} {d : UInt8} (h : ∀ q, a ≤ q → q < j → l[q]? ≠ some d) : d ∉ (l.drop a).take (j - a) := by
  intro hin
  obtain ⟨i, hi, he⟩ := List.getElem_of_mem hin
  have h1 : i < j - a := by have := hi; rw [List.length_take] at this; omega
  have h2 : ((l.drop a).take (j - a))[i]? = some d := by rw [List.getElem?_eq_getElem hi, he]
  rw [List.getElem?_take, if_pos h1, List.getElem?_drop] at h2
  exact h (a + i) (by omega) (by omega) h2
theorem flat_str (l : List ByteArray) : l.flatMap strC = l.map Value.string := by
  induction l with
  | nil => rfl
  | cons a l ih => simp [List.flatMap_cons, strC, ih]

set_option maxHeartbeats 1000000 in
theorem rLines_any (s : ByteArray) (hs : s.size ≤ 1000000) (w : World) :
    Calls Tryd.prog 18 #[.string s] w fun e w' => ∃ v l, e = .returned v ∧ Below w.heap.size w w' ∧ Sl strC 1 w' v l ∧ l.map (·.data.toList) = Fx.lines s.data.toList := by
  go_enter Tryd.func18, Tryd.ntmps18
  go_wp2_with fail
  go_loopw [3, 4, 5] (fun out at_ i wr => ∃ (done : List ByteArray) (a j : Nat), at_ = .int .i64 a ∧ i = .int .i64 j ∧ a ≤ j ∧ j ≤ s.size ∧ done.length ≤ a ∧ Below w.heap.size w wr ∧ wr.ownsRow w.heap.size 9 1 out done.length (done.map Value.string) ∧
      Fx.lines s.data.toList = done.map (·.data.toList) ++ Fx.lines (s.data.toList.drop a) ∧ ∀ q, a ≤ q → q < j → s.data.toList[q]? ≠ some 10) (fun _ _ i _ => s.size - (intOf i).toNat)
  case atStart => exact ⟨[], 0, 0, rfl, rfl, Nat.le_refl _, Nat.zero_le _, Nat.le_refl _, Below.refl _ _, World.ownsRow_nil _ _ _ _, by simp, fun q h1 h2 => by omega⟩
  case round =>
    obtain ⟨done, a, j, rfl, rfl, haj, hjs, hda, hB, hrow, hq, hno⟩ := hrel
    by_cases hlt : j < s.size
    · have hjs2 : (j : Int) < (s.size : Int) := by omega
      have hat := byte_at s j hlt
      by_cases hc : s[j] = 10
      · have hc2 : ((((s[j]).toNat : Nat) : Int) == 10) = true := by rw [hc]; rfl
        rw [hc] at hat
        have HS : Hid (Fx.lines (s.data.toList.drop a) = (s.extract a j).data.toList :: Fx.lines (s.data.toList.drop (j + 1))) := by
          show _ = _
          rw [ext_list]
          conv => lhs; rw [stretch hat haj]
          exact Fx.lines_line (no_in_stretch hno) _
        have HQ : Hid (_ = _) := hq
        have ha1 : (0 : Int) ≤ (a : Int) := by omega
        have ha2 : (a : Int) ≤ (j : Int) := by omega
        have hsz := hB.size
        clear hno hq hat hc
        go_wp2_with (at_builtin; refine wpList_app rowS rfl _ _ rfl w.heap.size _ _ _ rfl (hrow.alloc _) ⟨wr.heap.size, 0, none⟩ 1 [.string (s.extract a j)] rfl rfl (cell_one_new _ _ _) (by simp [Value.oneCell']) (by omega) (by simp; omega) (wr.heap.size + 1) (by simp) ?_)
        intro g cap w4 hown hgrow _ _ _
        have hb4 : Below w.heap.size w w4 := (hB.alloc (by omega) _).trans (below_grown' hgrow (by simp; omega) (fun q hq => (hrow.lt q hq).1))
        clear hgrow hrow
        go_wp2_with fail
        go_roundw
        case rel => exact ⟨done ++ [s.extract a j], j + 1, j + 1, by go_num, by go_num, Nat.le_refl _, by omega, by simp; omega, hb4, by simpa using hown, by rw [HQ.out, HS.out]; simp, fun q h1 h2 => by omega⟩
        case measure => simp [intOf]; omega
      · have hc2 : ((((s[j]).toNat : Nat) : Int) == 10) = false := by
          have := byte_eq (c := s[j]) (d := 10); rw [show (((10 : UInt8).toNat : Nat) : Int) = 10 from rfl] at this; rw [this]; simpa using hc
        have hno2 : ∀ q, a ≤ q → q < j + 1 → s.data.toList[q]? ≠ some 10 := fun q h1 h2 => by
          by_cases hqj : q = j
          · rw [hqj, hat]; intro h; exact hc (Option.some.inj h)
          · exact hno q h1 (by omega)
        clear hc hat hno
        go_wp2_with fail
        go_roundw
        case rel => exact ⟨done, a, j + 1, rfl, by go_num, by omega, by omega, hda, hB, hrow, hq, hno2⟩
        case measure => simp [intOf]; omega
    · have hje : j = s.size := by omega
      subst hje
      by_cases hae : a < s.size
      · have HS : Hid (Fx.lines (s.data.toList.drop a) = [(s.extract a s.size).data.toList]) := by
          show _ = _
          rw [ext_to_end]
          have hn : (10 : UInt8) ∉ s.data.toList.drop a := by
            have := no_in_stretch hno
            rwa [List.take_of_length_le (by simp)] at this
          have hne : s.data.toList.drop a ≠ [] := by rw [ne_eq, List.drop_eq_nil_iff, list_size]; omega
          rw [Fx.lines_cons hne, (Fx.line_all hn).1, (Fx.line_all hn).2]; rfl
        have HQ : Hid (_ = _) := hq
        have ha1 : (0 : Int) ≤ (a : Int) := by omega
        have ha2 : (a : Int) < (s.size : Int) := by omega
        have hsz := hB.size
        clear hno hq
        go_wp2_with (at_builtin; refine wpList_app rowS rfl _ _ rfl w.heap.size _ _ _ rfl (hrow.alloc _) ⟨wr.heap.size, 0, none⟩ 1 [.string (s.extract a s.size)] rfl rfl (cell_one_new _ _ _) (by simp [Value.oneCell']) (by omega) (by simp; omega) (wr.heap.size + 1) (by simp) ?_)
        intro g cap w4 hown hgrow _ _ _
        have hb4 : Below w.heap.size w w4 := (hB.alloc (by omega) _).trans (below_grown' hgrow (by simp; omega) (fun q hq => (hrow.lt q hq).1))
        clear hgrow hrow
        go_wp2_with fail
        go_ret
        exact ⟨_, done ++ [s.extract a s.size], rfl, hb4, Sl.own strC_len (by rw [flat_str]; simpa using hown) (by simp), by rw [HQ.out, HS.out]; simp⟩
      · have hae2 : ¬ (a : Int) < (s.size : Int) := by omega
        have HQ : Hid (Fx.lines s.data.toList = done.map (·.data.toList)) := by
          show _ = _
          have : s.data.toList.drop a = [] := by rw [List.drop_eq_nil_iff, list_size]; omega
          rw [hq, this, Fx.lines_nil]; simp
        clear hq hno
        go_wp2_with fail
        go_ret
        exact ⟨_, rfl, hB, done, Sl.own strC_len (by rw [flat_str]; exact hrow) rfl, HQ.out.symm⟩

theorem is32 (c : UInt8) : (((c.toNat : Nat) : Int) == 32) = decide (c = 32) := by
  have := byte_eq (c := c) (d := 32); rwa [show (((32 : UInt8).toNat : Nat) : Int) = 32 from rfl] at this
/-- What the walk over a line has found. -/
def Wd (s : Fx.Bs) (done : List ByteArray) (at_ : Int) (j : Nat) : Prop :=
  (at_ = -1 ∧ done.length ≤ j ∧ Fx.words s = done.map (·.data.toList) ++ Fx.words (s.drop j)) ∨
  (∃ a : Nat, at_ = a ∧ a < j ∧ done.length ≤ a ∧ j ≤ s.length ∧ Fx.words s = done.map (·.data.toList) ++ Fx.words (s.drop a) ∧ ∀ q, a ≤ q → q < j → s[q]? ≠ some 32)
theorem wd_end {s : ByteArray} {done : List ByteArray} {a j : Nat} (hj : j = s.size ∨ s.data.toList[j]? = some 32) (haj : a < j) (hjl : j ≤ s.size) (hq : Fx.words s.data.toList = done.map (·.data.toList) ++ Fx.words (s.data.toList.drop a)) (hno : ∀ q, a ≤ q → q < j → s.data.toList[q]? ≠ some 32) :
    Fx.words s.data.toList = (done ++ [s.extract a j]).map (·.data.toList) ++ Fx.words (s.data.toList.drop (j + 1)) := by
  have hn := no_in_stretch hno
  have hne : ((s.data.toList.drop a).take (j - a)).isEmpty = false := by
    rw [List.isEmpty_eq_false_iff, ne_eq, ← List.length_eq_zero_iff, List.length_take, List.length_drop, list_size]; omega
  rw [hq]
  simp only [List.map_append, List.map_cons, List.map_nil, ext_list, List.append_assoc]
  congr 1
  rcases hj with rfl | h32
  · have e1 : s.data.toList.drop (s.size + 1) = [] := by rw [List.drop_eq_nil_iff, list_size]; omega
    have e2 : (s.data.toList.drop a).take (s.size - a) = s.data.toList.drop a := List.take_of_length_le (by simp)
    rw [e2] at hn hne ⊢
    rw [e1, Fx.words_one hn, hne]; simp [Fx.words_nil]
  · conv => lhs; rw [stretch h32 (by omega), Fx.words_two hn, hne]
    simp
theorem wd_skip {s : ByteArray} {done : List ByteArray} {j : Nat} (hj : s.size ≤ j ∨ s.data.toList[j]? = some 32) (hq : Fx.words s.data.toList = done.map (·.data.toList) ++ Fx.words (s.data.toList.drop j)) :
    Fx.words s.data.toList = done.map (·.data.toList) ++ Fx.words (s.data.toList.drop (j + 1)) := by
  rw [hq]
  congr 1
  rcases hj with h | h32
  · have e1 : s.data.toList.drop (j + 1) = [] := by rw [List.drop_eq_nil_iff, list_size]; omega
    have e2 : s.data.toList.drop j = [] := by rw [List.drop_eq_nil_iff, list_size]; omega
    rw [e1, e2]
  · have : s.data.toList.drop j = 32 :: s.data.toList.drop (j + 1) := drop_cons h32
    rw [this, Fx.words_blank]

set_option maxHeartbeats 2000000 in
theorem rWords_any (s : ByteArray) (hs : s.size ≤ 1000000) (w : World) :
    Calls Tryd.prog 36 #[.string s] w fun e w' => ∃ v l, e = .returned v ∧ Below w.heap.size w w' ∧ Sl strC 1 w' v l ∧ l.map (·.data.toList) = Fx.words s.data.toList := by
  go_enter Tryd.func36, Tryd.ntmps36
  go_wp2_with fail
  go_loopw [3, 4, 5] (fun out at_ i wr => ∃ (done : List ByteArray) (z : Int) (j : Nat), at_ = .int .i64 z ∧ i = .int .i64 j ∧ j ≤ s.size + 1 ∧ (j = s.size + 1 → z = -1) ∧ Below w.heap.size w wr ∧ wr.ownsRow w.heap.size 9 1 out done.length (done.map Value.string) ∧ Wd s.data.toList done z j)
    (fun _ _ i _ => s.size + 1 - (intOf i).toNat)
  case atStart => exact ⟨[], -1, 0, rfl, rfl, by omega, by omega, Below.refl _ _, World.ownsRow_nil _ _ _ _, Or.inl ⟨rfl, by simp, by simp⟩⟩
  case round =>
    obtain ⟨done, z, j, rfl, rfl, hj, hlast, hB, hrow, hwd⟩ := hrel
    by_cases hle : j ≤ s.size
    · have hje : (j : Int) ≤ (s.size : Int) := by omega
      by_cases hend : j = s.size ∨ s.data.toList[j]? = some 32
      · have hor : (((j : Int) == (s.size : Int)) = true) ∨ ((((j : Int) == (s.size : Int)) = false) ∧ ∃ h : j < s.size, ((((s[j]).toNat : Nat) : Int) == 32) = true) := by
          by_cases h : j = s.size
          · exact Or.inl (by rw [h]; simp)
          · refine Or.inr ⟨by rw [beq_eq_false_iff_ne]; omega, by omega, ?_⟩
            have h2 := hend.resolve_left h
            rw [byte_at s j (by omega)] at h2
            rw [is32, Option.some.inj h2]; rfl
        rcases hwd with ⟨rfl, hd, hq⟩ | ⟨a, rfl, haj, hda, hjl, hq, hno⟩
        · have HQ : Hid (_ = _) := wd_skip (hend.imp (fun h => by omega) id) hq
          clear hq hend hlast
          rcases hor with h1 | ⟨h1, h0, h2⟩
          all_goals
            try have hj3 : (j : Int) < (s.size : Int) := by omega
            go_wp2_with fail
            go_roundw
            case rel => exact ⟨done, -1, j + 1, by first | rfl | trivial, by go_num, by omega, fun _ => rfl, hB, hrow, Or.inl ⟨rfl, by omega, HQ.out⟩⟩
            case measure => simp [intOf]; omega
        · have HQ : Hid (_ = _) := wd_end hend haj hle hq hno
          have ha1 : (0 : Int) ≤ (a : Int) := by omega
          have ha2 : (a : Int) ≤ (j : Int) := by omega
          have hsz := hB.size
          clear hq hend hlast hno
          rcases hor with h1 | ⟨h1, h0, h2⟩
          all_goals
            try have hj3 : (j : Int) < (s.size : Int) := by omega
            go_wp2_with (at_builtin; refine wpList_app rowS rfl _ _ rfl w.heap.size _ _ _ rfl (hrow.alloc _) ⟨wr.heap.size, 0, none⟩ 1 [.string (s.extract a j)] rfl rfl (cell_one_new _ _ _) (by simp [Value.oneCell']) (by omega) (by simp; omega) (wr.heap.size + 1) (by simp) ?_)
            intro g cap w4 hown hgrow _ _ _
            have hb4 : Below w.heap.size w w4 := (hB.alloc (by omega) _).trans (below_grown' hgrow (by simp; omega) (fun q hq => (hrow.lt q hq).1))
            clear hgrow hrow
            go_wp2_with fail
            go_roundw
            case rel => exact ⟨done ++ [s.extract a j], -1, j + 1, by first | rfl | trivial, by go_num, by omega, fun _ => rfl, hb4, by simpa using hown, Or.inl ⟨rfl, by simp; omega, HQ.out⟩⟩
            case measure => simp [intOf]; omega
      · have hjl : j < s.size := by omega
        have hj2 : (j : Int) < (s.size : Int) := by omega
        have hj3 : ((j : Int) == (s.size : Int)) = false := by rw [beq_eq_false_iff_ne]; omega
        have h32 : s.data.toList[j]? ≠ some 32 := fun h => hend (Or.inr h)
        have hc : ((((s[j]).toNat : Nat) : Int) == 32) = false := by
          rw [is32]
          rw [byte_at s j hjl] at h32
          simpa using h32
        rcases hwd with ⟨rfl, hd, hq⟩ | ⟨a, rfl, haj, hda, hjl2, hq, hno⟩
        · have HW : Hid (Wd s.data.toList done j (j + 1)) := Or.inr ⟨j, rfl, by omega, hd, by rw [list_size]; omega, hq, fun q h1 h2 => by rw [show q = j by omega]; exact h32⟩
          clear hq hend h32 hlast
          go_wp2_with fail
          go_roundw
          case rel => exact ⟨done, j, j + 1, by first | rfl | trivial, by go_num, by omega, by omega, hB, hrow, HW.out⟩
          case measure => simp [intOf]; omega
        · have HW : Hid (Wd s.data.toList done a (j + 1)) := Or.inr ⟨a, rfl, by omega, hda, by rw [list_size]; omega, hq, fun q h1 h2 => by
            by_cases hqj : q = j
            · rw [hqj]; exact h32
            · exact hno q h1 (by omega)⟩
          have ha1 : (0 : Int) ≤ (a : Int) := by omega
          clear hq hend h32 hlast hno
          go_wp2_with fail
          go_roundw
          case rel => exact ⟨done, a, j + 1, by first | rfl | trivial, by go_num, by omega, by omega, hB, hrow, HW.out⟩
          case measure => simp [intOf]; omega
    · have hje : ¬ (j : Int) ≤ (s.size : Int) := by omega
      have hz : z = -1 := hlast (by omega)
      have HQ : Hid (Fx.words s.data.toList = done.map (·.data.toList)) := by
        show _ = _
        have e1 : s.data.toList.drop j = [] := by rw [List.drop_eq_nil_iff, list_size]; omega
        rcases hwd with ⟨_, _, hq⟩ | ⟨a, h, _⟩
        · rw [hq, e1, Fx.words_nil]; simp
        · omega
      clear hwd hlast hz
      go_wp2_with fail
      go_ret
      first
        | exact ⟨_, rfl, hB, done, Sl.own strC_len (by rw [flat_str]; exact hrow) rfl, HQ.out.symm⟩
        | exact ⟨_, done, rfl, hB, Sl.own strC_len (by rw [flat_str]; exact hrow) rfl, HQ.out.symm⟩
end Go.Proofs.YtffifljfbeaodaaDoor
