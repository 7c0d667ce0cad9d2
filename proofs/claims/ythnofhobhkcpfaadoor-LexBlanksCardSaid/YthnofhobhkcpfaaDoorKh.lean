/- The reference's lexer: words, signs, letters, names. -/
import Derived.Test.YthnofhobhkcpfaaDoorKf
namespace Go.Proofs.YthnofhobhkcpfaaDoor
open Go.RowKit Go.Shelf

def strC (l : Lx.Bs) : Value := .string ⟨l.toArray⟩

theorem Words_any (w : World) : Calls Tryd.prog 30 #[] w fun e w' => ∃ b c, e = .returned (.slice (some ⟨b, 0, none⟩) 35 c) ∧ Below w.heap.size w w' ∧ ∀ j x, Lx.words[j]? = some x → w'.cell? ⟨b, j, none⟩ = some (strC x) := by
  have hc : ∀ j x, Lx.words[j]? = some x → (w.alloc (.cells (Lx.words.map strC).toArray 9)).cell? ⟨w.heap.size, j, none⟩ = some (strC x) := by
    intro j x h
    rw [cell_of_row _ _ j _ _ _ (heap_alloc_new w _)]
    simp [h]
  go_enter Tryd.func30, Tryd.ntmps30
  go_wp2_with fail
  go_ret
  exact ⟨_, _, rfl, (Below.refl _ _).alloc (Nat.le_refl _) _, hc⟩

theorem Signs_any (w : World) : Calls Tryd.prog 58 #[] w fun e w' => ∃ b c, e = .returned (.slice (some ⟨b, 0, none⟩) 16 c) ∧ Below w.heap.size w w' ∧ ∀ j x, Lx.signs[j]? = some x → w'.cell? ⟨b, j, none⟩ = some (strC x) := by
  have hc : ∀ j x, Lx.signs[j]? = some x → (w.alloc (.cells (Lx.signs.map strC).toArray 9)).cell? ⟨w.heap.size, j, none⟩ = some (strC x) := by
    intro j x h
    rw [cell_of_row _ _ j _ _ _ (heap_alloc_new w _)]
    simp [h]
  go_enter Tryd.func58, Tryd.ntmps58
  go_wp2_with fail
  go_ret
  exact ⟨_, _, rfl, (Below.refl _ _).alloc (Nat.le_refl _) _, hc⟩

theorem contains_take (l : List Lx.Bs) (k : Nat) (x s : Lx.Bs) (h : l[k]? = some x) : (l.take (k + 1)).contains s = ((l.take k).contains s || x == s) := by
  rw [List.take_add_one, h]
  simp only [Option.toList_some]
  rw [Bool.eq_iff_iff]
  simp only [List.contains_iff_mem, List.mem_append, List.mem_singleton, Bool.or_eq_true, beq_iff_eq]
  constructor
  · rintro (h | h)
    · exact Or.inl h
    · exact Or.inr h.symm
  · rintro (h | h)
    · exact Or.inl h
    · exact Or.inr h.symm

set_option maxHeartbeats 400000 in
theorem rIsWord_any (s : ByteArray) (w : World) :
    Calls Tryd.prog 16 #[.string s] w fun e w' => e = .returned (.bool (Lx.isWord s.data.toList)) ∧ Below w.heap.size w w' := by
  go_enter Tryd.func16, Tryd.ntmps16
  go_wp2_with fail
  refine (Words_any w).mono ?_
  rintro e w1 ⟨b, c, rfl, hb1, hc1⟩
  go_wp2_with fail
  go_loopw [4] (fun i wr => ∃ k : Nat, k ≤ 35 ∧ i = .int .i64 k ∧ (Lx.words.take k).contains s.data.toList = false ∧ wr = w1) (fun i _ => 35 - (intOf i).toNat)
  case atStart => exact ⟨0, Nat.zero_le _, rfl, rfl, rfl⟩
  case round =>
    obtain ⟨k, hk, rfl, hno, hB⟩ := hrel
    subst hB
    by_cases hlt : k < 35
    · obtain ⟨x, hx⟩ : ∃ x, Lx.words[k]? = some x := ⟨_, List.getElem?_eq_getElem hlt⟩
      have hc := hc1 k x hx
      unfold strC at hc
      obtain ⟨y, hy⟩ : ∃ y : ByteArray, y = ⟨x.toArray⟩ := ⟨_, rfl⟩
      rw [← hy] at hc
      have hyl : y.data.toList = x := by rw [hy]
      have HT := contains_take Lx.words k x s.data.toList hx
      rw [hno, Bool.false_or] at HT
      have HW : Hid (x ∈ Lx.words) := List.mem_of_getElem? hx
      have hk2 : (k : Int) < 35 := by omega
      by_cases heq : y.toList = s.toList
      · have HF : Hid (Lx.isWord s.data.toList = true) := by
          show _ = _
          unfold Lx.isWord
          rw [List.contains_iff_mem, ← Lib.toList_data, ← heq, Lib.toList_data, hyl]; exact HW.out
        clear hc1 hx hy hyl HT hno
        go_wp2_with fail
        go_ret
        exact ⟨ret_bool HF.out.symm, hb1⟩
      · have HF : Hid ((Lx.words.take (k + 1)).contains s.data.toList = false) := by
          show _ = _
          rw [HT, beq_eq_false_iff_ne, ← hyl, ← Lib.toList_data, ← Lib.toList_data]; exact heq
        have hne : (y.toList == s.toList) = false := by simp [heq]
        clear hc1 hx hy hyl HT hno
        go_wp2_with fail
        go_roundw
        case rel => exact ⟨k + 1, by omega, by go_num, HF.out, by trivial⟩
        case measure => simp [intOf]; omega
    · have hke : k = 35 := by omega
      subst hke
      have HF : Hid (Lx.isWord s.data.toList = false) := hno
      clear hno hc1
      go_wp2_with fail
      go_ret
      exact ⟨ret_bool HF.out.symm, hb1⟩

theorem rdigit_any (c : UInt8) (w : World) :
    Calls Tryd.prog 28 #[.int .u8 c.toNat] w fun e w' => e = .returned (.bool (Lx.isDig c)) ∧ w' = w := by
  have h := digN_byte c
  unfold digN at h
  go_enter Tryd.func28, Tryd.ntmps28
  go_wp2_with fail
  all_goals
    go_ret
    exact ⟨ret_bool (by rw [← digN_byte, Bool.eq_iff_iff]; simp [digN]; omega), rfl⟩

theorem rletter_any (c : UInt8) (w : World) :
    Calls Tryd.prog 27 #[.int .u8 c.toNat] w fun e w' => e = .returned (.bool (Lx.isLet c)) ∧ w' = w := by
  by_cases h1 : (97 : Int) ≤ (c.toNat : Int)
  · by_cases h2 : (c.toNat : Int) ≤ 122
    · go_enter Tryd.func27, Tryd.ntmps27
      go_wp2_with fail
      all_goals
        go_ret
        exact ⟨ret_bool (by rw [← letN_byte, Bool.eq_iff_iff]; simp [letN]; omega), rfl⟩
    · go_enter Tryd.func27, Tryd.ntmps27
      go_wp2_with fail
      all_goals
        go_ret
        exact ⟨ret_bool (by rw [← letN_byte, Bool.eq_iff_iff]; simp [letN]; omega), rfl⟩
  · go_enter Tryd.func27, Tryd.ntmps27
    go_wp2_with fail
    all_goals
      go_ret
      exact ⟨ret_bool (by rw [← letN_byte, Bool.eq_iff_iff]; simp [letN]; omega), rfl⟩
end Go.Proofs.YthnofhobhkcpfaaDoor
