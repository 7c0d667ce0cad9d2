/- What the law of MeA needs of its own. -/
import Derived.WalkKit
import Derived.WalkSpells
import Derived.Deep.Onto
import Derived.Deep.AppendLies
import Derived.Deep.Draws
import Derived.OwnWalk
import Derived.Test.YtahalimekacliaaGreatDoorProg
import Derived.Shelf.Abstract
import Derived.Lib.Strings
import Derived.WalkLawsBesides
import Derived.Outline
import Derived.Laws.EntriesVeiled
import Derived.Deep.RegionHeld3
import Derived.Deep.QuietTactic
import Derived.BigQuiet
import Derived.StillTailTactics
import Derived.RegionTactic
import Derived.Lib.Hide
import Derived.Deep.DeepCutAuto
import Derived.Deep.CutBlock
import Derived.Laws.MakeOwn
import Derived.Laws.OwnMore
import Derived.OneCell
import Derived.Maps.Own
import Derived.Lib.AtoiAll
import Derived.Lib.AtoiAllCases
import Derived.Shelf.Spec.SearchS
import Derived.Shelf.GgClosure.StringsIndexFunc
import Derived.Lib.SlBy
import Derived.Lib.SlTrimSet
import Derived.Lib.CutLaws
import Derived.Lib.IndexLaws
import Derived.Lib.IndexBytes
import Derived.Shelf.Strings.SlTrimAscii
import Derived.Shelf.Small.Utf8
import Derived.Shelf.Small.Strs
import Derived.Shelf.Strconv.Atoi
import Derived.Shelf.Strconv.Itoa0
import Derived.Shelf.Strconv.Itoa1
import Derived.Shelf.LaysM
import Derived.Shelf.Strconv.Itoa2
import Derived.Shelf.Strconv.Itoa3
import Derived.Shelf.Strconv.AtoiErrFast
import Derived.Shelf.Strconv.ParseIntEmpty
import Derived.Shelf.Strconv.AtoiFail
import Derived.Shelf.Strconv.Clone
import Derived.Shelf.Strconv.SyntaxError
import Derived.Shelf.LaysC
import Derived.Shelf.Strconv.ToError
import Derived.Shelf.Strconv.AtoiErr
import Derived.Shelf.Strconv.ErrVar
import Derived.Shelf.Strconv.Lower
import Derived.Shelf.Strconv.ParseUint10
import Derived.Shelf.Strconv.ParseUint10Empty
import Derived.Shelf.Strconv.ParseUint10Any
import Derived.Shelf.Strconv.ParseInt10
import Derived.Shelf.Strconv.AtoiLong
import Derived.Shelf.Strconv.AtoiInnerAll
import Derived.Shelf.Strconv.RangeError
import Derived.Shelf.Strconv.ToErrorRange
import Derived.Shelf.Strconv.AtoiAll
import Derived.Shelf.Strconv.ErrVarAll
import Derived.Shelf.Strconv.ParseUintEmpty
import Derived.Shelf.Strconv.ParseUint10b64
import Derived.Shelf.Strconv.ParseUint10b32
import Derived.Shelf.Strconv.ParseUint10b16
import Derived.Shelf.Strings.Search1
import Derived.Shelf.Strings.Search2
import Derived.Shelf.Strings.Cut
import Derived.Shelf.Strings.Shaped
import Derived.Ground.GgwProg
import Derived.Shelf.GgClosure.StringsIndexFuncTop
import Derived.Shelf.Strings.Prefix
import Derived.Shelf.Strings.Runes
import Derived.Shelf.Strings.AsciiSet
import Derived.Shelf.Unicode.DecodeSlow
import Derived.Ground.SlgfProg
import Derived.Shelf.SlicesE.IndexFunc
import Derived.Defers
import Derived.Test.YtahalimekacliaaGreatDoorRows
import Derived.Test.YtahalimekacliaaGreatDoorTie
import Derived.Lib.LaidU8
import Derived.SliceStrings
import Derived.HandedShaped
import Derived.ProofKit
import Derived.OpenShut
import Derived.Lay
import Derived.SevenTiedAt
import Derived.Deep.Slices
import Derived.Test.YtahalimekacliaaGreatDoorJ1
import Derived.Test.YtahalimekacliaaGreatDoorJ2
import Derived.Test.YtahalimekacliaaGreatDoorJ3
import Derived.Test.YtahalimekacliaaGreatDoorJ4
import Derived.Test.YtahalimekacliaaGreatDoorJ5
import Derived.Test.YtahalimekacliaaGreatDoorJ6
import Derived.Test.YtahalimekacliaaGreatDoorJ7
import Derived.Test.YtahalimekacliaaGreatDoorJ8
import Derived.Test.YtahalimekacliaaGreatDoorJ9
import Derived.Test.YtahalimekacliaaGreatDoorJ10
import Derived.Test.YtahalimekacliaaGreatDoorJ11
import Derived.Test.YtahalimekacliaaGreatDoorJ12
import Derived.Test.YtahalimekacliaaGreatDoorJ13
import Derived.Test.YtahalimekacliaaGreatDoorJ14
import Derived.Test.YtahalimekacliaaGreatDoorJ15
import Derived.Test.YtahalimekacliaaGreatDoorJ16
import Derived.Test.YtahalimekacliaaGreatDoorJ17
import Derived.Test.YtahalimekacliaaGreatDoorJ18
import Derived.Test.YtahalimekacliaaGreatDoorJ19
import Derived.Test.YtahalimekacliaaGreatDoorJ20
import Derived.Test.YtahalimekacliaaGreatDoorJ21
import Derived.Test.YtahalimekacliaaGreatDoorJ22
import Derived.Test.YtahalimekacliaaGreatDoorJ23
import Derived.Test.YtahalimekacliaaGreatDoorJ24
import Derived.Test.YtahalimekacliaaGreatDoorJ25
import Derived.Test.YtahalimekacliaaGreatDoorJ26
import Derived.Test.YtahalimekacliaaGreatDoorJ27
import Derived.Test.YtahalimekacliaaGreatDoorJ28
import Derived.Test.YtahalimekacliaaGreatDoorJ29
import Derived.Test.YtahalimekacliaaGreatDoorJ30
import Derived.Test.YtahalimekacliaaGreatDoorJ31
import Derived.Test.YtahalimekacliaaGreatDoorJ32
import Derived.Test.YtahalimekacliaaGreatDoorJ33
import Derived.Test.YtahalimekacliaaGreatDoorJ34
import Derived.Test.YtahalimekacliaaGreatDoorJ35
import Derived.Test.YtahalimekacliaaGreatDoorJ36
import Derived.Test.YtahalimekacliaaGreatDoorJ37
import Derived.Test.YtahalimekacliaaGreatDoorJ38
import Derived.Test.YtahalimekacliaaGreatDoorJ39
import Derived.Test.YtahalimekacliaaGreatDoorJ40
import Derived.Test.YtahalimekacliaaGreatDoorJ41
import Derived.Test.YtahalimekacliaaGreatDoorJ42
import Derived.Test.YtahalimekacliaaGreatDoorJ43
import Derived.Test.YtahalimekacliaaGreatDoorJ44
import Derived.Test.YtahalimekacliaaGreatDoorJ45
import Derived.Test.YtahalimekacliaaGreatDoorJ46
set_option linter.unusedVariables false
set_option linter.unusedSimpArgs false
namespace Go.Proofs.YtahalimekacliaaGreatDoor.Lx
theorem name_not_word {s : Bs} (h : isName s = true) : isWord s = false := by
  simp only [isName, Bool.and_eq_true, Bool.not_eq_true'] at h; exact h.2
end Go.Proofs.YtahalimekacliaaGreatDoor.Lx
namespace Go.Proofs.YtahalimekacliaaGreatDoor
end Go.Proofs.YtahalimekacliaaGreatDoor
namespace Go.Proofs.YtahalimekacliaaGreatDoor
open Go.RowKit Go.Shelf
namespace Lx
end Lx
theorem ret_string {a b : ByteArray} (h : a = b) : Ending.returned (.string a) = .returned (.string b) := by rw [h]
end Go.Proofs.YtahalimekacliaaGreatDoor
namespace Go.Proofs.YtahalimekacliaaGreatDoor.Fx
theorem val_snoc (l : Bs) (c : UInt8) : val (l ++ [c]) = 10 * val l + (c.toNat - 48) := by simp [val, List.foldl_append]
end Go.Proofs.YtahalimekacliaaGreatDoor.Fx
namespace Go.Proofs.YtahalimekacliaaGreatDoor
open Go.RowKit Go.Shelf
def wordC (l : Lx.Bs) : Value := .string ⟨l.toArray⟩
theorem Words_any (w : World) : Calls Tryz.prog 72 #[] w fun e w' => ∃ b c, e = .returned (.slice (some ⟨b, 0, none⟩) 35 c) ∧ Below w.heap.size w w' ∧ ∀ j x, Lx.words[j]? = some x → w'.cell? ⟨b, j, none⟩ = some (wordC x) := by
  have hc : ∀ j x, Lx.words[j]? = some x → (w.alloc (.cells (Lx.words.map wordC).toArray 9)).cell? ⟨w.heap.size, j, none⟩ = some (wordC x) := by
    intro j x h
    rw [cell_of_row _ _ j _ _ _ (heap_alloc_new w _)]
    simp [h]
  go_enter Tryz.func72, Tryz.ntmps72
  go_wp2_with fail
  go_ret
  exact ⟨_, _, rfl, (Below.refl _ _).alloc (Nat.le_refl _) _, hc⟩
theorem Signs_any (w : World) : Calls Tryz.prog 48 #[] w fun e w' => ∃ b c, e = .returned (.slice (some ⟨b, 0, none⟩) 16 c) ∧ Below w.heap.size w w' ∧ ∀ j x, Lx.signs[j]? = some x → w'.cell? ⟨b, j, none⟩ = some (wordC x) := by
  have hc : ∀ j x, Lx.signs[j]? = some x → (w.alloc (.cells (Lx.signs.map wordC).toArray 9)).cell? ⟨w.heap.size, j, none⟩ = some (wordC x) := by
    intro j x h
    rw [cell_of_row _ _ j _ _ _ (heap_alloc_new w _)]
    simp [h]
  go_enter Tryz.func48, Tryz.ntmps48
  go_wp2_with fail
  go_ret
  exact ⟨_, _, rfl, (Below.refl _ _).alloc (Nat.le_refl _) _, hc⟩
theorem contains_take (l : List Lx.Bs) (k : Nat) (x s : Lx.Bs) (h : l[k]? = some x) : (l.take (k + 1)).contains s = ((l.take k).contains s || x == s) := by
  rw [List.take_add_one, h]
  simp only [Option.toList_some]
  rw [Bool.eq_iff_iff]
  simp only [List.contains_iff_mem, List.mem_append, List.mem_singleton, Bool.or_eq_true, beq_iff_eq]
  constructor
  · rintro (h | h)
    · exact Or.inl h
    · exact Or.inr h.symm
  · rintro (h | h)
    · exact Or.inl h
    · exact Or.inr h.symm
set_option maxHeartbeats 400000 in
theorem rIsWord_any (s : ByteArray) (w : World) :
    Calls Tryz.prog 46 #[.string s] w fun e w' => e = .returned (.bool (Lx.isWord s.data.toList)) ∧ Below w.heap.size w w' := by
  go_enter Tryz.func46, Tryz.ntmps46
  go_wp2_with fail
  refine (Words_any w).mono ?_
  rintro e w1 ⟨b, c, rfl, hb1, hc1⟩
  go_wp2_with fail
  go_loopw [4] (fun i wr => ∃ k : Nat, k ≤ 35 ∧ i = .int .i64 k ∧ (Lx.words.take k).contains s.data.toList = false ∧ wr = w1) (fun i _ => 35 - (intOf i).toNat)
  case atStart => exact ⟨0, Nat.zero_le _, rfl, rfl, rfl⟩
  case round =>
    obtain ⟨k, hk, rfl, hno, hB⟩ := hrel
    subst hB
    by_cases hlt : k < 35
    · obtain ⟨x, hx⟩ : ∃ x, Lx.words[k]? = some x := ⟨_, List.getElem?_eq_getElem hlt⟩
      have hc := hc1 k x hx
      unfold wordC at hc
      obtain ⟨y, hy⟩ : ∃ y : ByteArray, y = ⟨x.toArray⟩ := ⟨_, rfl⟩
      rw [← hy] at hc
      have hyl : y.data.toList = x := by rw [hy]
      have HT := contains_take Lx.words k x s.data.toList hx
      rw [hno, Bool.false_or] at HT
      have HW : Hid (x ∈ Lx.words) := List.mem_of_getElem? hx
      have hk2 : (k : Int) < 35 := by omega
      by_cases heq : y.toList = s.toList
      · have HF : Hid (Lx.isWord s.data.toList = true) := by
          show _ = _
          unfold Lx.isWord
          rw [List.contains_iff_mem, ← Lib.toList_data, ← heq, Lib.toList_data, hyl]; exact HW.out
        clear hc1 hx hy hyl HT hno
        go_wp2_with fail
        go_ret
        exact ⟨ret_bool HF.out.symm, hb1⟩
      · have HF : Hid ((Lx.words.take (k + 1)).contains s.data.toList = false) := by
          show _ = _
          rw [HT, beq_eq_false_iff_ne, ← hyl, ← Lib.toList_data, ← Lib.toList_data]; exact heq
        have hne : (y.toList == s.toList) = false := by simp [heq]
        clear hc1 hx hy hyl HT hno
        go_wp2_with fail
        go_roundw
        case rel => exact ⟨k + 1, by omega, by go_num, HF.out, by trivial⟩
        case measure => simp [intOf]; omega
    · have hke : k = 35 := by omega
      subst hke
      have HF : Hid (Lx.isWord s.data.toList = false) := hno
      clear hno hc1
      go_wp2_with fail
      go_ret
      exact ⟨ret_bool HF.out.symm, hb1⟩
theorem rdigit_any (c : UInt8) (w : World) :
    Calls Tryz.prog 27 #[.int .u8 c.toNat] w fun e w' => e = .returned (.bool (Lx.isDig c)) ∧ w' = w := by
  have h := digN_byte c
  unfold digN at h
  go_enter Tryz.func27, Tryz.ntmps27
  go_wp2_with fail
  all_goals
    go_ret
    exact ⟨ret_bool (by rw [← digN_byte, Bool.eq_iff_iff]; simp [digN]; omega), rfl⟩
theorem rletter_any (c : UInt8) (w : World) :
    Calls Tryz.prog 29 #[.int .u8 c.toNat] w fun e w' => e = .returned (.bool (Lx.isLet c)) ∧ w' = w := by
  by_cases h1 : (97 : Int) ≤ (c.toNat : Int)
  · by_cases h2 : (c.toNat : Int) ≤ 122
    · go_enter Tryz.func29, Tryz.ntmps29
      go_wp2_with fail
      all_goals
        go_ret
        exact ⟨ret_bool (by rw [← letN_byte, Bool.eq_iff_iff]; simp [letN]; omega), rfl⟩
    · go_enter Tryz.func29, Tryz.ntmps29
      go_wp2_with fail
      all_goals
        go_ret
        exact ⟨ret_bool (by rw [← letN_byte, Bool.eq_iff_iff]; simp [letN]; omega), rfl⟩
  · go_enter Tryz.func29, Tryz.ntmps29
    go_wp2_with fail
    all_goals
      go_ret
      exact ⟨ret_bool (by rw [← letN_byte, Bool.eq_iff_iff]; simp [letN]; omega), rfl⟩
end Go.Proofs.YtahalimekacliaaGreatDoor
namespace Go.Proofs.YtahalimekacliaaGreatDoor
open Go.RowKit Go.Shelf
namespace Lx
theorem let_not_dig {c : UInt8} (h : isLet c = true) : isDig c = false := by
  simp only [isLet, isDig, Bool.or_eq_true, Bool.and_eq_true, decide_eq_true_eq, beq_iff_eq, UInt8.le_iff_toNat_le] at h ⊢
  rw [Bool.eq_false_iff]
  simp only [ne_eq, Bool.and_eq_true, decide_eq_true_eq]
  rcases h with h | rfl
  · have h2 : (97 : UInt8).toNat = 97 := rfl
    have h3 : (57 : UInt8).toNat = 57 := rfl
    omega
  · decide
theorem name_ref {t : Bs} (h1 : t ≠ []) (h2 : t.length ≤ 40) (h3 : isLet (t.headD 0) = true) (h4 : isWord t = false) : isName t = t.all isPt := by
  unfold isName
  have e1 : t.isEmpty = false := by cases t with | nil => exact absurd rfl h1 | cons _ _ => rfl
  simp only [e1, decide_eq_true h2, let_not_dig h3, h4, Bool.not_false, Bool.true_and, Bool.and_true]
theorem name_ref_no {t : Bs} (h1 : t ≠ []) (h3 : isLet (t.headD 0) = false) : isName t = false := by
  cases t with
  | nil => exact absurd rfl h1
  | cons c r =>
    simp only [List.headD_cons] at h3
    unfold isName
    cases hd : isDig c <;> simp [isPt, h3, hd]
theorem all_take {p : UInt8 → Bool} (l : Bs) (k : Nat) (c : UInt8) (h : l[k]? = some c) : (l.take (k + 1)).all p = ((l.take k).all p && p c) := by
  rw [List.take_add_one, h]; simp [List.all_append]
theorem all_no {p : UInt8 → Bool} (l : Bs) (k : Nat) (c : UInt8) (h : l[k]? = some c) (hp : p c = false) : l.all p = false := by
  rw [Bool.eq_false_iff]; intro q
  have := List.all_eq_true.1 q c (List.mem_of_getElem? h)
  rw [hp] at this; cases this
theorem val_snoc (l : Bs) (c : UInt8) : val (l ++ [c]) = 10 * val l + (c.toNat - 48) := by simp [val, List.foldl_append]
theorem val_take (l : Bs) (k : Nat) (c : UInt8) (h : l[k]? = some c) : val (l.take (k + 1)) = 10 * val (l.take k) + (c.toNat - 48) := by
  rw [List.take_add_one, h]; exact val_snoc _ _
theorem fold_ge : ∀ (b : Bs) (n : Nat), n * 10 ^ b.length ≤ b.foldl (fun n c => 10 * n + (c.toNat - 48)) n
  | [], n => by simp
  | c :: b, n => by
    have := fold_ge b (10 * n + (c.toNat - 48))
    rw [List.foldl_cons, List.length_cons, Nat.pow_succ]
    refine Nat.le_trans ?_ this
    rw [Nat.mul_comm (10 ^ _), ← Nat.mul_assoc]
    exact Nat.mul_le_mul_right _ (by omega)
theorem val_mono (a b : Bs) : val a ≤ val (a ++ b) := by
  unfold val
  rw [List.foldl_append]
  refine Nat.le_trans ?_ (fold_ge b _)
  exact Nat.le_mul_of_pos_right _ (Nat.pow_pos (by omega))
theorem val_take_le (l : Bs) (k : Nat) : val (l.take k) ≤ val l := by
  have := val_mono (l.take k) (l.drop k)
  rwa [List.take_append_drop] at this
theorem val_big (c : UInt8) (r : Bs) (h : 49 ≤ c.toNat) : 10 ^ r.length ≤ val (c :: r) := by
  unfold val
  rw [List.foldl_cons]
  refine Nat.le_trans ?_ (fold_ge r _)
  exact Nat.le_mul_of_pos_left _ (by omega)
theorem tooBig_ref (d : Bs) (hd : d.all isDig = true) (hn : d ≠ []) : tooBig d = true ↔ (1 < d.length ∧ d.headD 0 = 48) ∨ 2147483647 < val d := by
  unfold tooBig
  simp only [Bool.or_eq_true, decide_eq_true_eq, Bool.and_eq_true, beq_iff_eq]
  constructor
  · rintro ((h | h) | h)
    · cases d with
      | nil => exact absurd rfl hn
      | cons c r =>
        by_cases h48 : c = 48
        · exact Or.inl ⟨by omega, by simpa using h48⟩
        · refine Or.inr ?_
          simp only [List.all_cons, Bool.and_eq_true] at hd
          have hc := dig_nat hd.1
          have h2 : c.toNat ≠ 48 := fun q => h48 (by rw [← UInt8.toNat_inj]; exact q)
          have h3 := val_big c r (by omega)
          have h4 : 10 ^ 10 ≤ 10 ^ r.length := Nat.pow_le_pow_right (by omega) (by simp at h; omega)
          omega
    · exact Or.inr h
    · exact Or.inl h
  · rintro (h | h)
    · exact Or.inr h
    · exact Or.inl (Or.inr h)
end Lx
theorem byte_at (s : ByteArray) (k : Nat) (h : k < s.size) : s.data.toList[k]? = some s[k] := by
  rw [List.getElem?_eq_getElem (by rw [size_toList]; exact h)]; rfl
set_option maxHeartbeats 1000000 in
theorem rIsName_any (s : ByteArray) (w : World) :
    Calls Tryz.prog 47 #[.string s] w fun e w' => e = .returned (.bool (Lx.isName s.data.toList)) ∧ Below w.heap.size w w' := by
  by_cases he : s.toList = []
  · have HF : Hid (Lx.isName s.data.toList = false) := by
      show _ = _
      rw [← Lib.toList_data, he]; rfl
    have he2 : s.toList.isEmpty = true := by simp [he]
    go_enter Tryz.func47, Tryz.ntmps47
    go_wp2_with fail
    go_ret
    exact ⟨ret_bool HF.out.symm, Below.refl _ _⟩
  have he2 : s.toList.isEmpty = false := by simp [he]
  have HE : Hid (s.data.toList ≠ []) := by rw [Lib.toList_data] at he; exact he
  have hpos : 0 < s.size := by rw [← size_toList]; exact List.length_pos_iff.2 HE.out
  by_cases hl : 40 < s.size
  · have HF : Hid (Lx.isName s.data.toList = false) := by
      show _ = _
      unfold Lx.isName
      rw [size_toList]
      have : decide (s.size ≤ 40) = false := by simp; omega
      rw [this]; simp
    go_enter Tryz.func47, Tryz.ntmps47
    go_wp2_with fail
    go_ret
    exact ⟨ret_bool HF.out.symm, Below.refl _ _⟩
  have hl2 : s.size ≤ 40 := by omega
  have hb0 := headD_byte s hpos
  obtain ⟨b1, hb1⟩ : ∃ b, b = Lx.isLet (s.data.toList.headD 0) := ⟨_, rfl⟩
  have c1 := rletter_any s[0] w
  rw [← hb0, ← hb1] at c1
  have H1 : Hid (Lx.isLet (s.data.toList.headD 0) = b1) := hb1.symm
  rw [hb0] at c1
  clear hb0 hb1 hl
  go_enter Tryz.func47, Tryz.ntmps47
  go_wp2_with fail
  refine c1.mono ?_
  rintro e w1 ⟨rfl, hW⟩
  subst hW
  clear c1
  cases b1
  · go_wp2_with fail
    go_ret
    exact ⟨ret_bool (Lx.name_ref_no HE.out H1.out).symm, Below.refl _ _⟩
  · go_wp2_with fail
    refine (rIsWord_any s w1).mono ?_
    rintro e w2 ⟨rfl, hb2⟩
    obtain ⟨b2, hb2'⟩ : ∃ b, b = Lx.isWord s.data.toList := ⟨_, rfl⟩
    rw [← hb2']
    have H2 : Hid (Lx.isWord s.data.toList = b2) := hb2'.symm
    clear hb2'
    cases b2
    · have HN : Hid (Lx.isName s.data.toList = s.data.toList.all Lx.isPt) := Lx.name_ref HE.out (by rw [size_toList]; omega) H1.out H2.out
      go_wp2_with fail
      go_loopw [3] (fun i wr => ∃ k : Nat, k ≤ s.size ∧ i = .int .i64 k ∧ (s.data.toList.take k).all Lx.isPt = true ∧ wr = w2) (fun i _ => s.size - (intOf i).toNat)
      case atStart => exact ⟨0, Nat.zero_le _, rfl, rfl, rfl⟩
      case round =>
        obtain ⟨k, hk, rfl, hall, hB⟩ := hrel
        subst hB
        by_cases hlt : k < s.size
        · have HA : Hid ((s.data.toList.take k).all Lx.isPt = true) := hall
          have HK : Hid (s.data.toList[k]? = some s[k]) := byte_at s k hlt
          have hk2 : (k : Int) < (s.size : Int) := by omega
          have c3 := rletter_any s[k] wr
          have c4 := rdigit_any s[k] wr
          obtain ⟨b3, hb3⟩ : ∃ b, b = Lx.isLet s[k] := ⟨_, rfl⟩
          obtain ⟨b4, hb4⟩ : ∃ b, b = Lx.isDig s[k] := ⟨_, rfl⟩
          rw [← hb3] at c3
          rw [← hb4] at c4
          have HP : Hid (Lx.isPt s[k] = (b3 || b4)) := by show _ = _; unfold Lx.isPt; rw [hb3, hb4]
          clear hb3 hb4 hall
          cases b3
          · go_wp2_with fail
            refine c3.mono ?_
            rintro e w5 ⟨rfl, hW⟩
            subst hW
            go_wp2_with fail
            refine c4.mono ?_
            rintro e w5 ⟨rfl, hW⟩
            subst hW
            clear c3 c4
            cases b4
            · go_wp2_with fail
              go_ret
              exact ⟨ret_bool (by rw [HN.out, Lx.all_no _ k _ HK.out (by rw [HP.out]; rfl)]), hb2⟩
            · have HF : Hid ((s.data.toList.take (k + 1)).all Lx.isPt = true) := by show _ = _; rw [Lx.all_take _ k _ HK.out, HA.out, HP.out]; rfl
              go_wp2_with fail
              go_roundw
              case rel => exact ⟨k + 1, by omega, by go_num, HF.out, by trivial⟩
              case measure => simp [intOf]; omega
          · have HF : Hid ((s.data.toList.take (k + 1)).all Lx.isPt = true) := by show _ = _; rw [Lx.all_take _ k _ HK.out, HA.out, HP.out]; rfl
            go_wp2_with fail
            refine c3.mono ?_
            rintro e w5 ⟨rfl, hW⟩
            subst hW
            clear c3 c4
            go_wp2_with fail
            go_roundw
            case rel => exact ⟨k + 1, by omega, by go_num, HF.out, by trivial⟩
            case measure => simp [intOf]; omega
        · have hke : k = s.size := by omega
          have HF : Hid (Lx.isName s.data.toList = true) := by
            show _ = _
            rw [HN.out, ← hall, hke, List.take_of_length_le (by rw [size_toList]; omega)]
          clear hall
          subst hke
          go_wp2_with fail
          go_ret
          exact ⟨ret_bool HF.out.symm, hb2⟩
    · have HF : Hid (Lx.isName s.data.toList = false) := by
        show _ = _
        cases h : Lx.isName s.data.toList with
        | false => rfl
        | true => have := Lx.name_not_word h; rw [H2.out] at this; cases this
      go_wp2_with fail
      go_ret
      exact ⟨ret_bool HF.out.symm, hb2⟩
def ValPost (d : ByteArray) (w : World) (e : Ending) (w' : World) : Prop := ∃ n : Nat, e = .returned (.int .i64 n) ∧ (2147483647 < n ↔ 2147483647 < Lx.val d.data.toList) ∧ (n ≤ 2147483647 → n = Lx.val d.data.toList) ∧ w' = w
set_option maxHeartbeats 1000000 in
theorem rValue_any (s : ByteArray) (hd : s.data.toList.all Lx.isDig = true) (hs : s.size ≤ 100000) (w : World) :
    Calls Tryz.prog 28 #[.string s] w (ValPost s w) := by
  have HD : Hid (s.data.toList.all Lx.isDig = true) := hd
  clear hd
  go_enter Tryz.func28, Tryz.ntmps28
  go_wp2_with fail
  go_loopw [3, 4] (fun n i wr => ∃ k : Nat, k ≤ s.size ∧ i = .int .i64 k ∧ n = .int .i64 (Lx.val (s.data.toList.take k) : Nat) ∧ Lx.val (s.data.toList.take k) ≤ 21474836479 ∧ wr = w) (fun _ i _ => s.size - (intOf i).toNat)
  case atStart => exact ⟨0, Nat.zero_le _, rfl, rfl, by simp [Lx.val], rfl⟩
  case round =>
    obtain ⟨k, hk, rfl, rfl, hle, hB⟩ := hrel
    subst hB
    have hmono := Lx.val_take_le s.data.toList k
    obtain ⟨n, hn⟩ : ∃ n, n = Lx.val (s.data.toList.take k) := ⟨_, rfl⟩
    rw [← hn] at hle hmono ⊢
    have HNN : Hid (n = Lx.val (s.data.toList.take k)) := hn
    have HM : Hid (n ≤ Lx.val s.data.toList) := hmono
    clear hn hmono
    by_cases hlt : k < s.size
    · by_cases hbig : n ≤ 2147483647
      · have HK : Hid (s.data.toList[k]? = some s[k]) := byte_at s k hlt
        have hdk := Lx.dig_nat (List.all_eq_true.1 HD.out s[k] (List.mem_of_getElem? HK.out))
        have hk2 : (k : Int) < (s.size : Int) := by omega
        have hn2 : (n : Int) ≤ 2147483647 := by omega
        have HV : Hid (Lx.val (s.data.toList.take (k + 1)) = 10 * n + (s[k].toNat - 48)) := by show _ = _; rw [Lx.val_take _ k _ HK.out, ← HNN.out]
        obtain ⟨q, hq⟩ : ∃ q, s[k].toNat = q + 48 := ⟨s[k].toNat - 48, by omega⟩
        have hq9 : q ≤ 9 := by omega
        have HQ : Hid (s[k].toNat = q + 48) := hq
        go_wp2_with fail
        go_roundw
        case rel =>
          have e : Lx.val (s.data.toList.take (k + 1)) = 10 * n + q := by rw [HV.out, HQ.out]; omega
          exact ⟨k + 1, by omega, by go_num, by rw [e]; go_num, by omega, by trivial⟩
        case measure => simp [intOf]; omega
      · have hn2 : (2147483647 : Int) < (n : Int) := by omega
        have hk2 : (k : Int) < (s.size : Int) := by omega
        go_wp2_with fail
        go_ret
        exact ⟨n, rfl, ⟨fun _ => by have := HM.out; omega, fun _ => by omega⟩, fun h => by omega, rfl⟩
    · have hke : k = s.size := by omega
      have HF : Hid (n = Lx.val s.data.toList) := by
        show _ = _
        rw [HNN.out, hke, List.take_of_length_le (by rw [size_toList]; omega)]
      subst hke
      go_wp2_with fail
      go_ret
      exact ⟨n, rfl, by rw [HF.out], fun _ => HF.out, rfl⟩
end Go.Proofs.YtahalimekacliaaGreatDoor
namespace Go.Proofs.YtahalimekacliaaGreatDoor
open Go.RowKit Go.Shelf
namespace Lx
def signOf (r : Bs) : Bs := match signs.find? (·.isPrefixOf r) with
  | some t => t
  | none => []
theorem find_take (l : List Bs) (p : Bs → Bool) (k : Nat) (x : Bs) (h : l[k]? = some x) (hno : (l.take k).find? p = none) : (p x = true → l.find? p = some x) ∧ (p x = false → (l.take (k + 1)).find? p = none) := by
  have hk := (List.getElem?_eq_some_iff.1 h).1
  constructor
  · intro hp
    have e : l = l.take k ++ x :: l.drop (k + 1) := by
      conv => lhs; rw [← List.take_append_drop k l]
      rw [List.drop_eq_getElem_cons hk]
      congr 2
      rw [List.getElem?_eq_getElem hk] at h
      exact Option.some.inj h
    rw [e, List.find?_append, hno]
    simp [hp]
  · intro hp
    rw [List.take_add_one, h, List.find?_append, hno]
    simp [hp]
end Lx
theorem pre_iff (s y : ByteArray) (_h : y.size ≤ s.size) : ((s.extract 0 y.size).toList = y.toList) ↔ y.data.toList.isPrefixOf s.data.toList = true := by
  rw [Lib.toList_data, Lib.toList_data, extract_take, List.isPrefixOf_iff_prefix, List.prefix_iff_eq_take, size_toList]
  exact ⟨fun h => h.symm, fun h => h.symm⟩
set_option maxHeartbeats 1000000 in
theorem rsign_any (s : ByteArray) (_hs : s.size ≤ 100000) (w : World) :
    Calls Tryz.prog 31 #[.string s] w fun e w' => e = .returned (.string ⟨(Lx.signOf s.data.toList).toArray⟩) ∧ Below w.heap.size w w' := by
  go_enter Tryz.func31, Tryz.ntmps31
  go_wp2_with fail
  refine (Signs_any w).mono ?_
  rintro e w1 ⟨b, c, rfl, hb1, hc1⟩
  go_wp2_with fail
  go_loopw [4] (fun i wr => ∃ k : Nat, k ≤ 16 ∧ i = .int .i64 k ∧ (Lx.signs.take k).find? (·.isPrefixOf s.data.toList) = none ∧ ∃ q, wr = w1.drewN q) (fun i _ => 16 - (intOf i).toNat)
  case atStart => exact ⟨0, Nat.zero_le _, rfl, rfl, 0, rfl⟩
  case round =>
    obtain ⟨k, hk, rfl, hno, q, rfl⟩ := hrel
    by_cases hlt : k < 16
    · obtain ⟨x, hx⟩ : ∃ x, Lx.signs[k]? = some x := ⟨_, List.getElem?_eq_getElem hlt⟩
      have hc := hc1 k x hx
      unfold wordC at hc
      obtain ⟨y, hy⟩ : ∃ y : ByteArray, y = ⟨x.toArray⟩ := ⟨_, rfl⟩
      rw [← hy] at hc
      have hyl : y.data.toList = x := by rw [hy]
      have HT : Hid _ := Lx.find_take Lx.signs (·.isPrefixOf s.data.toList) k x hx hno
      have hxl := (Lx.signs_ne x (List.mem_of_getElem? hx)).2.1
      have hysz : y.size ≤ 2 := by rw [← size_toList, hyl]; exact hxl
      have hk0 : (0 : Int) ≤ (k : Int) := by omega
      have hk2 : (k : Int) < 16 := by omega
      by_cases hsz : y.size ≤ s.size
      · have hs1 : decide ((y.size : Int) ≤ (s.size : Int)) = true := by simp; omega
        have hs2 : (y.size : Int) ≤ (s.size : Int) := by omega
        have HP : Hid _ := pre_iff s y hsz
        by_cases heq : (s.extract 0 y.size).toList = y.toList
        · have HF : Hid (Lx.signOf s.data.toList = y.data.toList) := by
            show _ = _
            have := HT.out.1 (by rw [← hyl]; exact HP.out.1 heq)
            unfold Lx.signOf; rw [this, hyl]
          have heq2 : ((s.extract 0 y.size).toList == y.toList) = true := by simp [heq]
          clear hc1 hx hy hyl hno hxl
          go_wp2_with fail
          go_quiet (fail)
          go_wp2_with fail
          go_ret
          exact ⟨ret_string (by rw [HF.out]), below_drawn hb1 _⟩
        · have HF : Hid ((Lx.signs.take (k + 1)).find? (·.isPrefixOf s.data.toList) = none) := by
            show _ = _
            refine HT.out.2 ?_
            rw [← hyl, ← Bool.not_eq_true, ← HP.out]; exact heq
          have heq2 : ((s.extract 0 y.size).toList == y.toList) = false := by simp [heq]
          clear hc1 hx hy hyl hno hxl
          go_wp2_with fail
          go_quiet (fail)
          go_wp2_with fail
          go_roundw
          case rel => exact ⟨k + 1, by omega, by go_num, HF.out, _, rfl⟩
          case measure => simp [intOf]; omega
      · have hs1 : decide ((y.size : Int) ≤ (s.size : Int)) = false := by simp; omega
        have hs2 : ¬ (y.size : Int) ≤ (s.size : Int) := by omega
        have HF : Hid ((Lx.signs.take (k + 1)).find? (·.isPrefixOf s.data.toList) = none) := by
          show _ = _
          refine HT.out.2 ?_
          rw [← hyl, ← Bool.not_eq_true]
          intro h
          have := (List.isPrefixOf_iff_prefix.1 h).length_le
          rw [size_toList, size_toList] at this; omega
        clear hc1 hx hy hyl hno hxl
        go_wp2_with fail
        go_quiet (fail)
        go_wp2_with fail
        go_roundw
        case rel => exact ⟨k + 1, by omega, by go_num, HF.out, _, rfl⟩
        case measure => simp [intOf]; omega
    · have hke : k = 16 := by omega
      subst hke
      have HF : Hid (Lx.signOf s.data.toList = []) := by
        show _ = _
        have h : Lx.signs.find? (·.isPrefixOf s.data.toList) = none := hno
        unfold Lx.signOf; rw [h]
      clear hno hc1
      go_wp2_with fail
      go_ret
      exact ⟨ret_string (by rw [HF.out]), below_drawn hb1 _⟩
def WordPost (s : ByteArray) (p : Nat) (w : World) (e : Ending) (w' : World) : Prop :=
  ∃ (k er : Nat) (t : ByteArray) (p' : Nat), e = .returned (.tuple #[.agg #[.int .i64 k, .string t, .int .i64 p'], .int .i64 er]) ∧ Below w.heap.size w w' ∧
    ((er = 0 ∧ t = s ∧ p' = p ∧ ((k = 3 ∧ Lx.isWord s.data.toList = true) ∨ (k = 1 ∧ Lx.isWord s.data.toList = false ∧ Lx.isName s.data.toList = true))) ∨
     (er = 5 ∧ Lx.isWord s.data.toList = false ∧ Lx.isName s.data.toList = false))
theorem three_cells {W : World} {b T : Nat} {x y z : Value} (h : W.heap[b]? = some (.cells #[x, y, z] T (0, 0))) :
    (W.cell? ⟨b, 0, none⟩ = some x ∧ W.cell? ⟨b, 1, none⟩ = some y ∧ W.cell? ⟨b, 2, none⟩ = some z) ∧ W.frozen? ⟨b, 0, none⟩ = false ∧ W.frozen? ⟨b, 1, none⟩ = false ∧ W.frozen? ⟨b, 2, none⟩ = false :=
  ⟨⟨by simp [World.cell?, h], by simp [World.cell?, h], by simp [World.cell?, h]⟩, by simp [World.frozen?, h], by simp [World.frozen?, h], by simp [World.frozen?, h]⟩
set_option maxHeartbeats 1000000 in
theorem rword_any (s : ByteArray) (p : Nat) (w : World) :
    Calls Tryz.prog 30 #[.string s, .int .i64 p] w (WordPost s p w) := by
  obtain ⟨b1, hb1⟩ : ∃ b, b = Lx.isWord s.data.toList := ⟨_, rfl⟩
  have H1 : Hid (Lx.isWord s.data.toList = b1) := hb1.symm
  obtain ⟨b2, hb2⟩ : ∃ b, b = Lx.isName s.data.toList := ⟨_, rfl⟩
  have H2 : Hid (Lx.isName s.data.toList = b2) := hb2.symm
  clear hb1 hb2
  obtain ⟨W0, hW0⟩ : ∃ W0, W0 = (w.alloc (.cells #[.int .i64 0, .string ⟨#[]⟩, .int .i64 0] 47)).alloc (.cells #[.int .i64 1, .string s, .int .i64 p] 47) := ⟨_, rfl⟩
  have bW : Below w.heap.size w W0 := by rw [hW0]; exact ((Below.refl _ _).alloc (Nat.le_refl _) _).alloc (by simp) _
  have hB : W0.heap[w.heap.size + 1]? = some (.cells #[.int .i64 1, .string s, .int .i64 p] 47) := by
    have := heap_alloc_new (w.alloc (.cells #[.int .i64 0, .string ⟨#[]⟩, .int .i64 0] 47)) (.cells #[.int .i64 1, .string s, .int .i64 p] 47)
    rw [hW0]; simpa using this
  have hA : W0.heap[w.heap.size]? = some (.cells #[.int .i64 0, .string ⟨#[]⟩, .int .i64 0] 47) := by
    rw [hW0, Below.heap_alloc _ _ _ (by simp)]; exact heap_alloc_new w _
  have HW0 : Hid (W0 = _) := hW0
  clear hW0
  go_enter Tryz.func30, Tryz.ntmps30
  go_wp2_with fail
  rw [← HW0.out]
  refine (rIsWord_any s W0).mono ?_
  rintro e w2 ⟨rfl, hb2⟩
  rw [H1.out]
  have B2 := below_next bW hb2
  have hA2 := (hb2.block _ (Array.getElem?_eq_some_iff.1 hA).1).trans hA
  have hB2 := (hb2.block _ (Array.getElem?_eq_some_iff.1 hB).1).trans hB
  clear HW0 bW hA hB hb2
  obtain ⟨a, ha⟩ : ∃ a, w.heap.size = a := ⟨_, rfl⟩
  have HAA : Hid (w.heap.size = a) := ha
  rw [ha] at hA2 hB2
  rw [ha]
  clear ha
  obtain ⟨⟨a0, a1, a2⟩, fa0, fa1, fa2⟩ := three_cells hA2
  obtain ⟨⟨d0, d1, d2⟩, fd0, fd1, fd2⟩ := three_cells hB2
  have up : ∀ q : Nat, w.heap.size ≤ a + q := fun q => by have := HAA.out; omega
  cases b1
  · go_wp2_with fail
    refine (rIsName_any s w2).mono ?_
    rintro e w3 ⟨rfl, hb3⟩
    rw [H2.out]
    have B3 := below_next B2 hb3
    have hA3 := (hb3.block _ (Array.getElem?_eq_some_iff.1 hA2).1).trans hA2
    have hB3 := (hb3.block _ (Array.getElem?_eq_some_iff.1 hB2).1).trans hB2
    clear a0 a1 a2 fa0 fa1 fa2 d0 d1 d2 fd0 fd1 fd2 hA2 hB2 hb3 B2
    obtain ⟨⟨a0, a1, a2⟩, fa0, fa1, fa2⟩ := three_cells hA3
    obtain ⟨⟨d0, d1, d2⟩, fd0, fd1, fd2⟩ := three_cells hB3
    cases b2
    · go_wp2_with fail
      refine bodyPost_ret (v := .tuple #[.agg #[.int .i64 0, .string ⟨#[]⟩, .int .i64 0], .int .i64 5]) (by simp [results, Tryz.results30, go_sem, a0, a1, a2]) rfl ?_
      exact ⟨0, 5, ⟨#[]⟩, 0, rfl, (((B3.setCell (up 0) _).setCell (up 0) _).setCell (up 0) _), Or.inr ⟨rfl, H1.out, H2.out⟩⟩
    · go_wp2_with fail
      refine bodyPost_ret (v := .tuple #[.agg #[.int .i64 1, .string s, .int .i64 p], .int .i64 0]) (by simp [results, Tryz.results30, go_sem, a0, a1, a2]) rfl ?_
      exact ⟨1, 0, s, p, rfl, (((B3.setCell (up 0) _).setCell (up 0) _).setCell (up 0) _), Or.inl ⟨rfl, rfl, rfl, Or.inr ⟨rfl, H1.out, H2.out⟩⟩⟩
  · go_wp2_with fail
    refine bodyPost_ret (v := .tuple #[.agg #[.int .i64 3, .string s, .int .i64 p], .int .i64 0]) (by simp [results, Tryz.results30, go_sem, a0, a1, a2]) rfl ?_
    exact ⟨3, 0, s, p, rfl, ((((B2.setCell (up 1) _).setCell (up 0) _).setCell (up 0) _).setCell (up 0) _), Or.inl ⟨rfl, rfl, rfl, Or.inl ⟨rfl, H1.out⟩⟩⟩
def OnePost (s : ByteArray) (p : Nat) (w : World) (e : Ending) (w' : World) : Prop :=
  ∃ (k er : Nat) (t : ByteArray) (p' : Nat), e = .returned (.tuple #[.agg #[.int .i64 k, .string t, .int .i64 p'], .int .i64 er]) ∧ Below w.heap.size w w' ∧
    ((er = 0 ∧ p' = p ∧ Lx.first s.data.toList = .tok k t.data.toList) ∨ (er ≠ 0 ∧ Lx.first s.data.toList = .err er))
namespace Lx
theorem row_facts (p : UInt8 → Bool) (l : Bs) : (∀ k c, k < (l.takeWhile p).length → l[k]? = some c → p c = true) ∧ (∀ c, l[(l.takeWhile p).length]? = some c → p c = false) := by
  induction l with
  | nil => exact ⟨fun k c h => by simp at h, fun c h => by simp at h⟩
  | cons x l ih =>
    rw [List.takeWhile_cons]
    split
    · rename_i hx
      refine ⟨fun k c h hc => ?_, fun c h => ih.2 c (by simpa using h)⟩
      cases k with
      | zero => simp at hc; subst hc; exact hx
      | succ k => exact ih.1 k c (by simpa using h) (by simpa using hc)
    · rename_i hx
      exact ⟨fun k c h => by simp at h, fun c h => by simp at h; subst h; simpa using hx⟩
theorem dig_empty {r : Bs} (h : isDig (r.headD 0) = false) : r.takeWhile isDig = [] := by
  cases r with
  | nil => rfl
  | cons c r => simp at h; rw [List.takeWhile_cons, if_neg (by simp [h])]
theorem pt_empty {r : Bs} (h : isDig (r.headD 0) = false) (h2 : isLet (r.headD 0) = false) : r.takeWhile isPt = [] := by
  cases r with
  | nil => rfl
  | cons c r => simp at h h2; rw [List.takeWhile_cons, if_neg (by simp [isPt, h, h2])]
end Lx
set_option maxHeartbeats 2000000 in
theorem rone_any (s : ByteArray) (p : Nat) (hs : s.size ≤ 100000) (hpos : 0 < s.size) (w : World) :
    Calls Tryz.prog 14 #[.string s, .int .i64 p] w (OnePost s p w) := by
  have hb0 := headD_byte s hpos
  obtain ⟨b1, hb1⟩ : ∃ b, b = Lx.isDig (s.data.toList.headD 0) := ⟨_, rfl⟩
  have c1 := rdigit_any s[0]
  rw [← hb0, ← hb1] at c1
  have H1 : Hid (Lx.isDig (s.data.toList.headD 0) = b1) := hb1.symm
  obtain ⟨b2, hb2⟩ : ∃ b, b = Lx.isLet (s.data.toList.headD 0) := ⟨_, rfl⟩
  have c2 := rletter_any s[0]
  rw [← hb0, ← hb2] at c2
  have H2 : Hid (Lx.isLet (s.data.toList.headD 0) = b2) := hb2.symm
  rw [hb0] at c1 c2
  clear hb0 hb1 hb2
  obtain ⟨W0, hW0⟩ : ∃ W0, W0 = w.alloc (.cells #[.int .i64 0, .string ⟨#[]⟩, .int .i64 0] 47) := ⟨_, rfl⟩
  have bW : Below w.heap.size w W0 := by rw [hW0]; exact (Below.refl _ _).alloc (Nat.le_refl _) _
  have hA : W0.heap[w.heap.size]? = some (.cells #[.int .i64 0, .string ⟨#[]⟩, .int .i64 0] 47) := by
    rw [hW0]; exact heap_alloc_new w _
  have HW0 : Hid (W0 = _) := hW0
  clear hW0
  have C1 := Lib.hid c1
  have C2 := Lib.hid c2
  clear c1 c2
  go_enter Tryz.func14, Tryz.ntmps14
  go_wp2_with fail
  rw [← HW0.out]
  refine (C1.out W0).mono ?_
  rintro e w1 ⟨rfl, hW⟩
  subst hW
  obtain ⟨a, ha⟩ : ∃ a, w.heap.size = a := ⟨_, rfl⟩
  have HAA : Hid (w.heap.size = a) := ha
  rw [ha] at hA
  rw [ha]
  clear ha
  obtain ⟨⟨a0, a1, a2⟩, fa0, fa1, fa2⟩ := three_cells hA
  have up : w.heap.size ≤ a := by have := HAA.out; omega
  clear HW0
  cases b1
  · go_wp2_with fail
    refine (C2.out w1).mono ?_
    rintro e w3 ⟨rfl, hW⟩
    subst hW
    cases b2
    · have HD : Hid (s.data.toList.takeWhile Lx.isDig = []) := Lx.dig_empty H1.out
      have HP : Hid (s.data.toList.takeWhile Lx.isPt = []) := Lx.pt_empty H1.out H2.out
      go_wp2_with fail
      refine (rsign_any s hs w3).mono ?_
      rintro e w4 ⟨rfl, hb4⟩
      obtain ⟨t, ht⟩ : ∃ t : ByteArray, t = ⟨(Lx.signOf s.data.toList).toArray⟩ := ⟨_, rfl⟩
      rw [← ht]
      have HT : Hid (t.data.toList = Lx.signOf s.data.toList) := by show _ = _; rw [ht]
      have B4 := below_next bW hb4
      have hA4 := (hb4.block _ (Array.getElem?_eq_some_iff.1 hA).1).trans hA
      clear a0 a1 a2 fa0 fa1 fa2 hA hb4 bW ht C1 C2
      obtain ⟨⟨a0, a1, a2⟩, fa0, fa1, fa2⟩ := three_cells hA4
      by_cases he : t.toList = []
      · have he2 : t.toList.isEmpty = true := by simp [he]
        have HF : Hid (Lx.first s.data.toList = .err 5) := by
          show _ = _
          rw [first_sign HD.out HP.out]
          have h1 : Lx.signOf s.data.toList = [] := by rw [← HT.out]; exact toList_nil.1 he
          unfold Lx.signOf at h1
          split at h1
          · rename_i x hx
            exact absurd h1 (Lx.signs_ne _ (List.mem_of_find?_eq_some hx)).1
          · rename_i hx; rw [hx]
        go_wp2_with fail
        refine bodyPost_ret (v := .tuple #[.agg #[.int .i64 0, .string ⟨#[]⟩, .int .i64 0], .int .i64 5]) (by simp [results, Tryz.results14, go_sem, a0, a1, a2]) rfl ?_
        exact ⟨0, 5, ⟨#[]⟩, 0, rfl, (((B4.setCell up _).setCell up _).setCell up _), Or.inr ⟨by omega, HF.out⟩⟩
      · have he2 : t.toList.isEmpty = false := by simp [he]
        have HF : Hid (Lx.first s.data.toList = .tok 4 t.data.toList) := by
          show _ = _
          rw [first_sign HD.out HP.out]
          have h1 : Lx.signOf s.data.toList ≠ [] := by rw [← HT.out]; exact fun h => he (toList_nil.2 h)
          have h2 := HT.out
          unfold Lx.signOf at h1 h2
          split at h1
          · rename_i x hx; rw [hx] at h2 ⊢; rw [h2]
          · exact absurd rfl h1
        go_wp2_with fail
        refine bodyPost_ret (v := .tuple #[.agg #[.int .i64 4, .string t, .int .i64 p], .int .i64 0]) (by simp [results, Tryz.results14, go_sem, a0, a1, a2]) rfl ?_
        exact ⟨4, 0, t, p, rfl, (((B4.setCell up _).setCell up _).setCell up _), Or.inl ⟨rfl, rfl, HF.out⟩⟩
    · have HD : Hid (s.data.toList.takeWhile Lx.isDig = []) := Lx.dig_empty H1.out
      obtain ⟨d, hd⟩ : ∃ d, d = (s.data.toList.takeWhile Lx.isPt).length := ⟨_, rfl⟩
      have hds : d ≤ s.size := by rw [hd, ← size_toList]; exact (List.takeWhile_prefix _).length_le
      have HTK : Hid (s.data.toList.takeWhile Lx.isPt = s.data.toList.take d) := by show _ = _; rw [hd]; exact List.prefix_iff_eq_take.1 (List.takeWhile_prefix _)
      have HYES : Hid (∀ k (h : k < s.size), k < d → Lx.isPt s[k] = true) := fun k h hk => by
        have h1 : (s.data.toList.takeWhile Lx.isPt)[k]? = some s[k] := by rw [HTK.out, List.getElem?_take, if_pos hk]; exact byte_at s k h
        exact List.all_eq_true.1 List.all_takeWhile s[k] (List.mem_of_getElem? h1)
      have HNO : Hid (∀ (h : d < s.size), Lx.isPt s[d] = false) := fun h => by
        cases q : Lx.isPt s[d] with
        | false => rfl
        | true =>
          have h2 : ∀ (l : Lx.Bs) (n : Nat) (c : UInt8), n = (l.takeWhile Lx.isPt).length → l[n]? = some c → Lx.isPt c = false := by
            intro l
            induction l with
            | nil => intro n c _ h; simp at h
            | cons x l ih =>
              intro n c hn h
              rw [List.takeWhile_cons] at hn
              split at hn
              · simp at hn; subst hn; exact ih _ c rfl (by simpa using h)
              · rename_i hx; simp at hn; subst hn; simp at h; subst h; simpa using hx
          rw [h2 _ _ _ hd (byte_at s d h)] at q; cases q
      have hpd : 0 < d := by
        rcases Nat.eq_zero_or_pos d with h | h
        · subst h
          have := HNO.out hpos
          have h2 := H2.out
          rw [headD_byte s hpos] at h2
          unfold Lx.isPt at this; rw [h2] at this; simp at this
        · exact h
      clear hd
      go_wp2_with fail
      go_loopw [6] (fun i wr => ∃ k : Nat, k ≤ d ∧ i = .int .i64 k ∧ wr = w3) (fun i _ => d - (intOf i).toNat)
      case atStart => exact ⟨0, Nat.zero_le _, rfl, rfl⟩
      case round =>
        obtain ⟨k, hk, rfl, hW⟩ := hrel
        subst hW
        by_cases hlt : k < d
        · have hks : k < s.size := by omega
          have hk2 : (k : Int) < (s.size : Int) := by omega
          have c3 := rletter_any s[k] wr
          have c4 := rdigit_any s[k] wr
          obtain ⟨b3, hb3⟩ : ∃ b, b = Lx.isLet s[k] := ⟨_, rfl⟩
          rw [← hb3] at c3
          have HY := HYES.out k hks hlt
          unfold Lx.isPt at HY
          rw [← hb3] at HY
          clear hb3
          cases b3
          · rw [Bool.false_or] at HY
            rw [HY] at c4
            clear HY
            go_wp2_with fail
            refine c3.mono ?_
            rintro e w5 ⟨rfl, hW⟩
            subst hW
            go_wp2_with fail
            refine c4.mono ?_
            rintro e w5 ⟨rfl, hW⟩
            subst hW
            clear c3 c4
            go_wp2_with fail
            go_roundw
            case rel => exact ⟨k + 1, by omega, by go_num, by trivial⟩
            case measure => simp [intOf]; omega
          · clear HY
            go_wp2_with fail
            refine c3.mono ?_
            rintro e w5 ⟨rfl, hW⟩
            subst hW
            clear c3 c4
            go_wp2_with fail
            go_roundw
            case rel => exact ⟨k + 1, by omega, by go_num, by trivial⟩
            case measure => simp [intOf]; omega
        · have hke : k = d := by omega
          subst hke
          clear hlt hk C1 C2
          rcases Nat.lt_or_eq_of_le hds with hlt | heq
          · have hk2 : (k : Int) < (s.size : Int) := by omega
            have c3 := rletter_any s[k] wr
            have c4 := rdigit_any s[k] wr
            have HY := HNO.out hlt
            unfold Lx.isPt at HY
            rw [Bool.or_eq_false_iff] at HY
            rw [HY.1] at c3
            rw [HY.2] at c4
            clear HY
            go_wp2_with fail
            refine c3.mono ?_
            rintro e w5 ⟨rfl, hW⟩
            subst hW
            go_wp2_with fail
            refine c4.mono ?_
            rintro e w5 ⟨rfl, hW⟩
            subst hW
            clear c3 c4
            go_wp2_with fail
            refine (rword_any (s.extract 0 k) p _).mono ?_
            rintro e w4 ⟨kk, er, t, p', rfl, hb4, hor⟩
            have HW : Hid ((er = 0 ∧ p' = p ∧ Lx.first s.data.toList = .tok kk t.data.toList) ∨ (er ≠ 0 ∧ Lx.first s.data.toList = .err er)) := by
              have hx : (s.extract 0 k).data.toList = s.data.toList.takeWhile Lx.isPt := by rw [HTK.out, extract_take]
              have hne : s.data.toList.takeWhile Lx.isPt ≠ [] := by
                rw [← List.length_pos_iff, HTK.out, List.length_take, size_toList]; omega
              rw [hx] at hor
              rcases hor with ⟨h1, h2, h3, h4 | h4⟩ | ⟨h1, h2, h3⟩
              · exact Or.inl ⟨h1, h3, by rw [first_word HD.out h4.2, h4.1, h2, hx]⟩
              · exact Or.inl ⟨h1, h3, by rw [first_name HD.out h4.2.1 h4.2.2, h4.1, h2, hx]⟩
              · exact Or.inr ⟨by omega, by rw [first_none HD.out h2 h3 hne, h1]⟩
            have B4 := below_next bW hb4
            have hA4 := (hb4.block _ (Array.getElem?_eq_some_iff.1 hA).1).trans hA
            clear a0 a1 a2 fa0 fa1 fa2 hA hb4 bW hor
            obtain ⟨⟨a0, a1, a2⟩, fa0, fa1, fa2⟩ := three_cells hA4
            go_wp2_with fail
            refine bodyPost_ret (v := .tuple #[.agg #[.int .i64 kk, .string t, .int .i64 p'], .int .i64 er]) (by simp [results, Tryz.results14, go_sem, a0, a1, a2]) rfl ?_
            exact ⟨kk, er, t, p', rfl, (((B4.setCell up _).setCell up _).setCell up _), HW.out⟩
          · have hk2 : ¬ (k : Int) < (s.size : Int) := by omega
            have HEQ : Hid (k = s.size) := heq
            clear heq
            go_wp2_with fail
            refine (rword_any (s.extract 0 k) p _).mono ?_
            rintro e w4 ⟨kk, er, t, p', rfl, hb4, hor⟩
            have HW : Hid ((er = 0 ∧ p' = p ∧ Lx.first s.data.toList = .tok kk t.data.toList) ∨ (er ≠ 0 ∧ Lx.first s.data.toList = .err er)) := by
              have hx : (s.extract 0 k).data.toList = s.data.toList.takeWhile Lx.isPt := by rw [HTK.out, extract_take]
              have hne : s.data.toList.takeWhile Lx.isPt ≠ [] := by
                rw [← List.length_pos_iff, HTK.out, List.length_take, size_toList]; omega
              rw [hx] at hor
              rcases hor with ⟨h1, h2, h3, h4 | h4⟩ | ⟨h1, h2, h3⟩
              · exact Or.inl ⟨h1, h3, by rw [first_word HD.out h4.2, h4.1, h2, hx]⟩
              · exact Or.inl ⟨h1, h3, by rw [first_name HD.out h4.2.1 h4.2.2, h4.1, h2, hx]⟩
              · exact Or.inr ⟨by omega, by rw [first_none HD.out h2 h3 hne, h1]⟩
            have B4 := below_next bW hb4
            have hA4 := (hb4.block _ (Array.getElem?_eq_some_iff.1 hA).1).trans hA
            clear a0 a1 a2 fa0 fa1 fa2 hA hb4 bW hor
            obtain ⟨⟨a0, a1, a2⟩, fa0, fa1, fa2⟩ := three_cells hA4
            go_wp2_with fail
            refine bodyPost_ret (v := .tuple #[.agg #[.int .i64 kk, .string t, .int .i64 p'], .int .i64 er]) (by simp [results, Tryz.results14, go_sem, a0, a1, a2]) rfl ?_
            exact ⟨kk, er, t, p', rfl, (((B4.setCell up _).setCell up _).setCell up _), HW.out⟩
  · obtain ⟨d, hd⟩ : ∃ d, d = (s.data.toList.takeWhile Lx.isDig).length := ⟨_, rfl⟩
    have hds : d ≤ s.size := by rw [hd, ← size_toList]; exact (List.takeWhile_prefix _).length_le
    have HTK : Hid (s.data.toList.takeWhile Lx.isDig = s.data.toList.take d) := by show _ = _; rw [hd]; exact List.prefix_iff_eq_take.1 (List.takeWhile_prefix _)
    have HLEN : Hid ((s.data.toList.takeWhile Lx.isDig).length = d) := hd.symm
    obtain ⟨HY0, HN0⟩ := Lx.row_facts Lx.isDig s.data.toList
    rw [← hd] at HY0 HN0
    have HYES : Hid (∀ k (h : k < s.size), k < d → Lx.isDig s[k] = true) := fun k h hk => HY0 k _ hk (byte_at s k h)
    have HNO : Hid (∀ (h : d < s.size), Lx.isDig s[d] = false) := fun h => HN0 _ (byte_at s d h)
    have hpd : 0 < d := by
      rcases Nat.eq_zero_or_pos d with h | h
      · subst h
        have := HNO.out hpos
        have h2 := H1.out
        rw [headD_byte s hpos, this] at h2; cases h2
      · exact h
    have HNE : Hid (s.data.toList.takeWhile Lx.isDig ≠ []) := by
      show _ ≠ _
      rw [← List.length_pos_iff, ← hd]; exact hpd
    have HHD : Hid ((s.data.toList.takeWhile Lx.isDig).headD 0 = s.data.toList.headD 0) := by
      show _ = _
      have h1 := H1.out
      cases h : s.data.toList with
      | nil => rfl
      | cons c r => rw [h] at h1; simp at h1; rw [List.takeWhile_cons, if_pos h1]; rfl
    clear hd HY0 HN0 C1 C2
    go_wp2_with fail
    go_loopw [6] (fun i wr => ∃ k : Nat, k ≤ d ∧ i = .int .i64 k ∧ wr = w1) (fun i _ => d - (intOf i).toNat)
    case atStart => exact ⟨0, Nat.zero_le _, rfl, rfl⟩
    case round =>
      obtain ⟨k, hk, rfl, hW⟩ := hrel
      subst hW
      by_cases hlt : k < d
      · have hks : k < s.size := by omega
        have hk2 : (k : Int) < (s.size : Int) := by omega
        have c4 := rdigit_any s[k] wr
        rw [HYES.out k hks hlt] at c4
        go_wp2_with fail
        refine c4.mono ?_
        rintro e w5 ⟨rfl, hW⟩
        subst hW
        clear c4
        go_wp2_with fail
        go_roundw
        case rel => exact ⟨k + 1, by omega, by go_num, by trivial⟩
        case measure => simp [intOf]; omega
      · have hke : k = d := by omega
        subst hke
        clear hlt hk
        rcases Nat.lt_or_eq_of_le hds with hlt | heq
        · have hk2 : (k : Int) < (s.size : Int) := by omega
          have c4 := rdigit_any s[k] wr
          rw [HNO.out hlt] at c4
          go_wp2_with fail
          refine c4.mono ?_
          rintro e w5 ⟨rfl, hW⟩
          subst hW
          clear c4
          by_cases h48 : 1 < k ∧ s[0] = 48
          · have h1 : (1 : Int) < (k : Int) := by omega
            have h2 : (((s[0].toNat : Nat) : Int) == 48) = true := byte48.2 h48.2
            have HF : Hid (Lx.first s.data.toList = .err 2) := by
              show _ = _
              rw [first_dig HNE.out, if_pos ((Lx.tooBig_ref _ List.all_takeWhile HNE.out).2 (Or.inl ⟨by rw [HLEN.out]; omega, by rw [HHD.out, headD_byte s hpos]; exact h48.2⟩))]
            clear h48
            go_wp2_with fail
            refine bodyPost_ret (v := .tuple #[.agg #[.int .i64 0, .string ⟨#[]⟩, .int .i64 0], .int .i64 2]) (by simp [results, Tryz.results14, go_sem, a0, a1, a2]) rfl ?_
            exact ⟨0, 2, ⟨#[]⟩, 0, rfl, (((bW.setCell up _).setCell up _).setCell up _), Or.inr ⟨by omega, HF.out⟩⟩
          · have hor : (¬ (1 : Int) < (k : Int)) ∨ ((1 : Int) < (k : Int) ∧ (((s[0].toNat : Nat) : Int) == 48) = false) := by
              by_cases h1 : 1 < k
              · refine Or.inr ⟨by omega, ?_⟩
                rw [← Bool.not_eq_true, byte48]; exact fun h => h48 ⟨h1, h⟩
              · exact Or.inl (by omega)
            have H48 : Hid (¬ (1 < k ∧ s[0] = 48)) := h48
            clear h48
            rcases hor with h1 | ⟨h1, h2⟩
            all_goals
              go_wp2_with fail
              refine (rValue_any (s.extract 0 k) (by rw [extract_take, ← HTK.out]; exact List.all_takeWhile) (by rw [← size_toList, extract_take, List.length_take, size_toList]; omega) _).mono ?_
              rintro e w4 ⟨n, rfl, hn1, hn2, hW⟩
              subst hW
              have hx : (s.extract 0 k).data.toList = s.data.toList.takeWhile Lx.isDig := by rw [HTK.out, extract_take]
              have TB := Lx.tooBig_ref _ List.all_takeWhile HNE.out
              rw [hx] at hn1
              rw [HLEN.out, HHD.out, headD_byte s hpos] at TB
              have HX : Hid ((s.extract 0 k).data.toList = s.data.toList.takeWhile Lx.isDig) := hx
              by_cases hbig : 2147483647 < n
              · have hb2 : (2147483647 : Int) < (n : Int) := by omega
                have HF : Hid (Lx.first s.data.toList = .err 2) := by
                  show _ = _
                  rw [first_dig HNE.out, if_pos (TB.2 (Or.inr (hn1.1 hbig)))]
                clear hn1 hn2 hx TB
                go_wp2_with fail
                refine bodyPost_ret (v := .tuple #[.agg #[.int .i64 0, .string ⟨#[]⟩, .int .i64 0], .int .i64 2]) (by simp [results, Tryz.results14, go_sem, a0, a1, a2]) rfl ?_
                exact ⟨0, 2, ⟨#[]⟩, 0, rfl, (((bW.setCell up _).setCell up _).setCell up _), Or.inr ⟨by omega, HF.out⟩⟩
              · have hb2 : ¬ (2147483647 : Int) < (n : Int) := by omega
                have HF : Hid (Lx.first s.data.toList = .tok 2 (s.extract 0 k).data.toList) := by
                  show _ = _
                  rw [first_dig HNE.out, hx, if_neg]
                  rw [TB]
                  rintro (h | h)
                  · exact H48.out h
                  · exact hbig (hn1.2 h)
                clear hn1 hn2 hx TB
                go_wp2_with fail
                refine bodyPost_ret (v := .tuple #[.agg #[.int .i64 2, .string (s.extract 0 k), .int .i64 p], .int .i64 0]) (by simp [results, Tryz.results14, go_sem, a0, a1, a2]) rfl ?_
                exact ⟨2, 0, _, p, rfl, (((bW.setCell up _).setCell up _).setCell up _), Or.inl ⟨rfl, rfl, HF.out⟩⟩
        · have hk2 : ¬ (k : Int) < (s.size : Int) := by omega
          have HEQ : Hid (k = s.size) := heq
          clear heq
          by_cases h48 : 1 < k ∧ s[0] = 48
          · have h1 : (1 : Int) < (k : Int) := by omega
            have h2 : (((s[0].toNat : Nat) : Int) == 48) = true := byte48.2 h48.2
            have HF : Hid (Lx.first s.data.toList = .err 2) := by
              show _ = _
              rw [first_dig HNE.out, if_pos ((Lx.tooBig_ref _ List.all_takeWhile HNE.out).2 (Or.inl ⟨by rw [HLEN.out]; omega, by rw [HHD.out, headD_byte s hpos]; exact h48.2⟩))]
            clear h48
            go_wp2_with fail
            refine bodyPost_ret (v := .tuple #[.agg #[.int .i64 0, .string ⟨#[]⟩, .int .i64 0], .int .i64 2]) (by simp [results, Tryz.results14, go_sem, a0, a1, a2]) rfl ?_
            exact ⟨0, 2, ⟨#[]⟩, 0, rfl, (((bW.setCell up _).setCell up _).setCell up _), Or.inr ⟨by omega, HF.out⟩⟩
          · have hor : (¬ (1 : Int) < (k : Int)) ∨ ((1 : Int) < (k : Int) ∧ (((s[0].toNat : Nat) : Int) == 48) = false) := by
              by_cases h1 : 1 < k
              · refine Or.inr ⟨by omega, ?_⟩
                rw [← Bool.not_eq_true, byte48]; exact fun h => h48 ⟨h1, h⟩
              · exact Or.inl (by omega)
            have H48 : Hid (¬ (1 < k ∧ s[0] = 48)) := h48
            clear h48
            rcases hor with h1 | ⟨h1, h2⟩
            all_goals
              go_wp2_with fail
              refine (rValue_any (s.extract 0 k) (by rw [extract_take, ← HTK.out]; exact List.all_takeWhile) (by rw [← size_toList, extract_take, List.length_take, size_toList]; omega) _).mono ?_
              rintro e w4 ⟨n, rfl, hn1, hn2, hW⟩
              subst hW
              have hx : (s.extract 0 k).data.toList = s.data.toList.takeWhile Lx.isDig := by rw [HTK.out, extract_take]
              have TB := Lx.tooBig_ref _ List.all_takeWhile HNE.out
              rw [hx] at hn1
              rw [HLEN.out, HHD.out, headD_byte s hpos] at TB
              have HX : Hid ((s.extract 0 k).data.toList = s.data.toList.takeWhile Lx.isDig) := hx
              by_cases hbig : 2147483647 < n
              · have hb2 : (2147483647 : Int) < (n : Int) := by omega
                have HF : Hid (Lx.first s.data.toList = .err 2) := by
                  show _ = _
                  rw [first_dig HNE.out, if_pos (TB.2 (Or.inr (hn1.1 hbig)))]
                clear hn1 hn2 hx TB
                go_wp2_with fail
                refine bodyPost_ret (v := .tuple #[.agg #[.int .i64 0, .string ⟨#[]⟩, .int .i64 0], .int .i64 2]) (by simp [results, Tryz.results14, go_sem, a0, a1, a2]) rfl ?_
                exact ⟨0, 2, ⟨#[]⟩, 0, rfl, (((bW.setCell up _).setCell up _).setCell up _), Or.inr ⟨by omega, HF.out⟩⟩
              · have hb2 : ¬ (2147483647 : Int) < (n : Int) := by omega
                have HF : Hid (Lx.first s.data.toList = .tok 2 (s.extract 0 k).data.toList) := by
                  show _ = _
                  rw [first_dig HNE.out, hx, if_neg]
                  rw [TB]
                  rintro (h | h)
                  · exact H48.out h
                  · exact hbig (hn1.2 h)
                clear hn1 hn2 hx TB
                go_wp2_with fail
                refine bodyPost_ret (v := .tuple #[.agg #[.int .i64 2, .string (s.extract 0 k), .int .i64 p], .int .i64 0]) (by simp [results, Tryz.results14, go_sem, a0, a1, a2]) rfl ?_
                exact ⟨2, 0, _, p, rfl, (((bW.setCell up _).setCell up _).setCell up _), Or.inl ⟨rfl, rfl, HF.out⟩⟩
end Go.Proofs.YtahalimekacliaaGreatDoor
namespace Go.Proofs.YtahalimekacliaaGreatDoor
open Go.RowKit Go.Shelf
namespace Lx
theorem lexS_after (u : Bs) : lexS (u.dropWhile (· != 10)) = lexS (afterLine u) := by
  unfold afterLine
  cases h : u.dropWhile (· != 10) with
  | nil => rfl
  | cons c r =>
    have hc : c = 10 := by
      have : ∀ l : Bs, ∀ c r, l.dropWhile (· != 10) = c :: r → c = 10 := by
        intro l
        induction l with
        | nil => intro c r h; simp at h
        | cons x l ih =>
          intro c r h
          rw [List.dropWhile_cons] at h
          split at h
          · exact ih c r h
          · rename_i hx; cases h; simpa using hx
      exact this u c r h
    subst hc
    exact lexS_blank (by decide)
theorem drop_row (p : UInt8 → Bool) (l : Bs) : l.drop (l.takeWhile p).length = l.dropWhile p := by
  induction l with
  | nil => rfl
  | cons x l ih => rw [List.takeWhile_cons, List.dropWhile_cons]; split <;> simp_all
theorem bl_iff (c : UInt8) : isBl c = true ↔ c = 32 ∨ c = 9 ∨ c = 10 ∨ c = 13 := by
  simp [isBl, Bool.or_eq_true, or_assoc]
end Lx
theorem byte_eq {c d : UInt8} : (((c.toNat : Nat) : Int) == ((d.toNat : Nat) : Int)) = decide (c = d) := by
  rw [Bool.eq_iff_iff, beq_iff_eq, decide_eq_true_eq, ← UInt8.toNat_inj]; omega
theorem byte_ne {c d : UInt8} : (((c.toNat : Nat) : Int) != ((d.toNat : Nat) : Int)) = !decide (c = d) := by
  rw [bne, byte_eq]
theorem bl_cases (c : UInt8) (h : Lx.isBl c = true) : (((c.toNat : Nat) : Int) == 32) = true ∨ ((((c.toNat : Nat) : Int) == 32) = false ∧ (((c.toNat : Nat) : Int) == 9) = true) ∨
    ((((c.toNat : Nat) : Int) == 32) = false ∧ (((c.toNat : Nat) : Int) == 9) = false ∧ (((c.toNat : Nat) : Int) == 10) = true) ∨
    ((((c.toNat : Nat) : Int) == 32) = false ∧ (((c.toNat : Nat) : Int) == 9) = false ∧ (((c.toNat : Nat) : Int) == 10) = false ∧ (((c.toNat : Nat) : Int) == 13) = true) := by
  rcases (Lx.bl_iff c).1 h with rfl | rfl | rfl | rfl <;> decide
theorem bl_none (c : UInt8) (h : Lx.isBl c = false) : (((c.toNat : Nat) : Int) == 32) = false ∧ (((c.toNat : Nat) : Int) == 9) = false ∧ (((c.toNat : Nat) : Int) == 10) = false ∧ (((c.toNat : Nat) : Int) == 13) = false := by
  have h2 : ∀ d : UInt8, Lx.isBl d = true → (((c.toNat : Nat) : Int) == ((d.toNat : Nat) : Int)) = false := fun d hd => by
    rw [byte_eq]
    by_cases e : c = d
    · subst e; rw [h] at hd; cases hd
    · simp [e]
  exact ⟨h2 32 (by decide), h2 9 (by decide), h2 10 (by decide), h2 13 (by decide)⟩
theorem ext_size (s : ByteArray) (k : Nat) (_h : k ≤ s.size) : (s.extract k s.size).size = s.size - k := by
  rw [← size_toList, extract_drop, List.length_drop, size_toList]
theorem drop_at (s : ByteArray) (k : Nat) (h : k < s.size) : s.data.toList.drop k = s[k] :: s.data.toList.drop (k + 1) := by
  rw [List.drop_eq_getElem_cons (by rw [size_toList]; exact h)]; rfl
theorem com_iff (s : ByteArray) (a : Nat) (h : a < s.size) : Lx.isCom (s.data.toList.drop a) = true ↔ ∃ h2 : a + 1 < s.size, s[a] = 45 ∧ s[a + 1] = 45 := by
  unfold Lx.isCom
  rw [drop_at s a h]
  constructor
  · intro q
    by_cases h2 : a + 1 < s.size
    · rw [drop_at s (a + 1) h2] at q
      simp [List.isPrefixOf] at q
      exact ⟨h2, q.1.symm, q.2.symm⟩
    · have : s.data.toList.drop (a + 1) = [] := by rw [List.drop_eq_nil_iff, size_toList]; omega
      rw [this] at q
      simp [List.isPrefixOf] at q
  · rintro ⟨h2, h3, h4⟩
    rw [drop_at s (a + 1) h2, h3, h4]
    simp [List.isPrefixOf]
theorem is45 {c : UInt8} : (((c.toNat : Nat) : Int) == 45) = decide (c = 45) := byte_eq (d := 45)
theorem is10 {c : UInt8} : (((c.toNat : Nat) : Int) != 10) = !decide (c = 10) := byte_ne (d := 10)
set_option maxRecDepth 100000 in
set_option maxHeartbeats 4000000 in
theorem rLex_any (s : ByteArray) (hs : s.size ≤ 100000) (w : World) :
    Calls Tryz.prog 8 #[.string s] w (LexPost s w) := by
  have hR := heap_alloc_new w (.cells #[.int .i64 0, .int .i64 0] 25)
  go_enter Tryz.func8, Tryz.ntmps8
  go_wp2_with fail
  go_loopw [4, 5] (fun l i wr => ∃ (a : Nat) (done : List Lx.R), a ≤ s.size ∧ i = .int .i64 a ∧ LexLp s w l (s.extract a s.size) done wr) (fun _ i _ => s.size - (intOf i).toNat)
  case atStart => exact ⟨0, [], Nat.zero_le _, rfl, by simp, by simp, (Below.refl _ _).alloc (Nat.le_refl _) _, hR, World.ownsRow_nil _ _ _ _, by rw [extract_drop]; simp⟩
  case round =>
    obtain ⟨a, done, ha, rfl, LP⟩ := hrel
    clear hR
    by_cases hlt : a < s.size
    · have ha2 : (a : Int) < (s.size : Int) := by omega
      have HDA : Hid (s.data.toList.drop a = s[a] :: s.data.toList.drop (a + 1)) := drop_at s a hlt
      by_cases hbl : Lx.isBl s[a] = true
      · have LP2 : LexLp s w u4 (s.extract (a + 1) s.size) done wr := LP.step (Below.refl _ _) (by rw [ext_size _ _ (by omega), ext_size _ _ ha]; omega) (by rw [extract_drop, extract_drop, HDA.out, Lx.lexS_blank hbl])
        have hor := bl_cases s[a] hbl
        clear hbl LP
        rcases hor with h1 | ⟨h1, h2⟩ | ⟨h1, h2, h3⟩ | ⟨h1, h2, h3, h4⟩
        all_goals
          go_wp2_with fail
          go_roundw
          case rel => exact ⟨a + 1, done, by omega, by go_num, LP2⟩
          case measure => simp [intOf]; omega
      · have hbl2 : Lx.isBl s[a] = false := by simpa using hbl
        obtain ⟨h1, h2, h3, h4⟩ := bl_none s[a] hbl2
        obtain ⟨r, hr⟩ : ∃ r, r = s.extract a s.size := ⟨_, rfl⟩
        have HR : Hid (r.data.toList = s.data.toList.drop a) := by show _ = _; rw [hr, extract_drop]
        have hrs : r.size = s.size - a := by rw [hr, ext_size _ _ ha]
        have HB : Hid (r.data.toList.dropWhile Lx.isBl = r.data.toList) := by show _ = _; rw [HR.out, HDA.out, List.dropWhile_cons, if_neg hbl]
        have HE : Hid (r.data.toList ≠ []) := by show _ ≠ _; rw [HR.out, HDA.out]; simp
        rw [← hr] at LP
        have HRR : Hid (r = s.extract a s.size) := hr
        have HS : Hid (r.size = s.size - a) := hrs
        clear hbl hbl2 hr hrs
        by_cases hcom : Lx.isCom r.data.toList = true
        · have LPC : Lx.lexS r.data.toList = Lx.lexS (Lx.afterLine r.data.toList) := Lx.lexS_com HB.out HE.out hcom
          have HLC : Hid (Lx.lexS r.data.toList = Lx.lexS (r.data.toList.dropWhile (· != 10))) := by show _ = _; rw [LPC, Lx.lexS_after]
          have hc := hcom
          rw [HR.out, com_iff s a hlt] at hc
          obtain ⟨g1, g2, g3⟩ := hc
          have g1' : (a : Int) + 1 < (s.size : Int) := by omega
          have g2' : ((((s[a]).toNat : Nat) : Int) == 45) = true := by rw [is45, g2]; rfl
          have g3' : ((((s[a + 1]).toNat : Nat) : Int) == 45) = true := by rw [is45, g3]; rfl
          obtain ⟨L, hL⟩ : ∃ L, L = (r.data.toList.takeWhile (· != 10)).length := ⟨_, rfl⟩
          obtain ⟨HY0, HN0⟩ := Lx.row_facts (· != 10) r.data.toList
          rw [← hL, HR.out] at HY0 HN0
          have hLs : a + L ≤ s.size := by
            have h5 : L ≤ r.size := by rw [hL, ← size_toList]; exact (List.takeWhile_prefix _).length_le
            have := HS.out; omega
          have HYES : Hid (∀ j (h : j < s.size), a ≤ j → j < a + L → ((((s[j]).toNat : Nat) : Int) != 10) = true) := fun j h h5 h6 => by
            have := HY0 (j - a) s[j] (by omega) (by rw [List.getElem?_drop, show a + (j - a) = j by omega]; exact byte_at s j h)
            rw [is10]; simpa using this
          have HNO : Hid (∀ (h : a + L < s.size), ((((s[a + L]).toNat : Nat) : Int) != 10) = false) := fun h => by
            have := HN0 s[a + L] (by rw [List.getElem?_drop]; exact byte_at s _ h)
            rw [is10]; simpa using this
          have hLpos : 0 < L := by
            rcases Nat.eq_zero_or_pos L with h | h
            · have := HNO.out (by omega)
              rw [is10] at this
              simp only [h, Nat.add_zero, g2] at this
              exact absurd this (by decide)
            · exact h
          have HLP : Hid (LexLp s w u4 (s.extract (a + L) s.size) done wr) := LP.step (Below.refl _ _) (by rw [ext_size _ _ hLs, HS.out]; omega) (by rw [HLC.out, extract_drop, ← Lx.drop_row, ← hL, HR.out, List.drop_drop])
          clear LPC hcom g2 g3 hL HY0 HN0 LP
          obtain ⟨E, hE⟩ : ∃ E, E = a + L := ⟨_, rfl⟩
          rw [← hE] at hLs
          have HYE : Hid (∀ j (h : j < s.size), a ≤ j → j < E → ((((s[j]).toNat : Nat) : Int) != 10) = true) := fun j h h5 h6 => HYES.out j h h5 (by omega)
          have HNE : Hid (∀ (h : E < s.size), ((((s[E]).toNat : Nat) : Int) != 10) = false) := by subst hE; exact HNO.out
          have HLE : Hid (LexLp s w u4 (s.extract E s.size) done wr) := by show LexLp s w u4 (s.extract E s.size) done wr; rw [hE]; exact HLP.out
          have haE : a < E := by omega
          clear HYES HNO HLP hE hLpos
          go_wp2_with fail
          obtain ⟨wo, rfl⟩ : ∃ wo : World, wo = wr := ⟨_, rfl⟩
          go_loopw [5] (fun i wr => ∃ j : Nat, a ≤ j ∧ j ≤ E ∧ i = .int .i64 j ∧ wr = wo) (fun i _ => E - (intOf i).toNat)
          case atStart => exact ⟨a, Nat.le_refl _, by omega, rfl, rfl⟩
          case round =>
            obtain ⟨j, hj1, hj2, rfl, hW⟩ := hrel
            subst hW
            by_cases hjl : j < E
            · have hjs : j < s.size := by omega
              have hj3 : (j : Int) < (s.size : Int) := by omega
              have hy := HYE.out j hjs hj1 hjl
              go_wp2_with fail
              go_roundw
              case rel => exact ⟨j + 1, by omega, by omega, by go_num, by trivial⟩
              case measure => simp [intOf]; omega
            · have hje : j = E := by omega
              subst hje
              by_cases hend : j < s.size
              · have hj3 : (j : Int) < (s.size : Int) := by omega
                have hn := HNE.out hend
                go_wp2_with fail
                go_roundw
                case rel => exact ⟨j, done, hLs, rfl, HLE.out⟩
                case measure => simp [intOf]; omega
              · have hj3 : ¬ (j : Int) < (s.size : Int) := by omega
                go_wp2_with fail
                go_roundw
                case rel => exact ⟨j, done, hLs, rfl, HLE.out⟩
                case measure => simp [intOf]; omega
        · have hcom2 : Lx.isCom r.data.toList = false := by simpa using hcom
          have hcs := hcom
          rw [HR.out, com_iff s a hlt] at hcs
          have hor : (¬ (a : Int) + 1 < (s.size : Int)) ∨ ((a : Int) + 1 < (s.size : Int) ∧ ((((s[a]).toNat : Nat) : Int) == 45) = false) ∨ ∃ h : a + 1 < s.size, (a : Int) + 1 < (s.size : Int) ∧ ((((s[a]).toNat : Nat) : Int) == 45) = true ∧ ((((s[a + 1]).toNat : Nat) : Int) == 45) = false := by
            by_cases g1 : a + 1 < s.size
            · by_cases g2 : s[a] = 45
              · have g3 : ¬ s[a + 1] = 45 := fun g3 => hcs ⟨g1, g2, g3⟩
                exact Or.inr (Or.inr ⟨g1, by omega, by rw [is45, g2]; rfl, by rw [is45]; simpa using g3⟩)
              · exact Or.inr (Or.inl ⟨by omega, by rw [is45]; simpa using g2⟩)
            · exact Or.inl (by omega)
          have HC : Hid (Lx.isCom r.data.toList = false) := hcom2
          clear hcom hcom2 hcs
          have hrsz : r.size ≤ 100000 := by have := HS.out; omega
          have hrpos : 0 < r.size := by have := HS.out; omega
          rcases hor with g1 | ⟨g1, g2⟩ | ⟨g0, g1, g2, g3⟩
          all_goals
            go_wp2_with fail
            rw [← HRR.out]
            refine (rone_any r a hrsz hrpos wr).mono ?_
            rintro e w3 ⟨k, er, t, p', rfl, hb3, hor⟩
            have LP3 := LP.step hb3 (Nat.le_refl _) rfl
            clear LP hb3
            rcases hor with ⟨rfl, hp, hf⟩ | ⟨hne, hf⟩
            · have hp2 := hp.symm
              subst hp2
              have hpr := (Lx.first_tok hf).1
              have htn : t.data.toList ≠ [] := (Lx.first_tok hf).2.resolve_right HE.out
              have htl : t.size ≤ r.size := by rw [size_of_list, size_of_list]; exact hpr.length_le
              have HT : Hid (Lx.lexS r.data.toList = _) := Lx.lexS_tok HB.out HE.out HC.out hf
              have HN : Hid (t.data.toList ≠ []) := htn
              have hfw := LP3.few
              have hlb := LP3.below.size
              have hnewA := heap_alloc_new w3 (.cells #[.int .i64 k, .string t, .int .i64 a] 47)
              have hnewB := heap_alloc_new (w3.alloc (.cells #[.int .i64 k, .string t, .int .i64 a] 47)) (.cells #[.int .i64 k, .string t, .int .i64 a] 47)
              have hA2 : ((w3.alloc (.cells #[.int .i64 k, .string t, .int .i64 a] 47)).alloc (.cells #[.int .i64 k, .string t, .int .i64 a] 47)).heap[w3.heap.size]? = some (.cells #[.int .i64 k, .string t, .int .i64 a] 47) := (Below.heap_alloc _ _ _ (by simp)).trans hnewA
              rw [World.size_alloc] at hnewB
              have LPA := LP3.step ((Below.refl _ _).alloc (Nat.le_refl _) (.cells #[.int .i64 k, .string t, .int .i64 a] 47)) (Nat.le_refl _) rfl
              have HNA : Hid (_ ∧ _) := ⟨hnewB, hA2⟩
              clear hpr htn hf hnewA hnewB hA2
              go_wp2_with (at_builtin; refine wpList_app rowTok rfl _ _ rfl (w.heap.size + 1) _ _ _ rfl (LPA.own.alloc _) ⟨w3.heap.size + 1, 0, none⟩ 1 [.int .i64 k, .string t, .int .i64 a] rfl rfl (World.news_of_block HNA.out.1) (by simp [Value.oneCell']) (by omega) (by simp; omega) (w3.heap.size + 2) (by simp) ?_)
              intro g cap w4 hown hgrow hat hlt hcap
              have hlow : ∀ q, u4.ownBlock = some q → w.heap.size + 1 ≤ q ∧ q < w3.heap.size := LP3.own.lt
              have hA4 := (hgrow.block w3.heap.size (by simp; omega) (fun q => by have := (hlow _ q.symm).2; omega)).trans HNA.out.2
              have hc1 : w4.cell? ⟨w3.heap.size, 1, none⟩ = some (.string t) := by simp [World.cell?, hA4]
              have LP4 := LPA.push (u' := s.extract (a + t.size) s.size) (d := a) (by have := HS.out; omega) HN.out htl HT.out (by rw [extract_drop, HR.out, List.drop_drop, size_toList]) hown hgrow
              clear hown hgrow hat LP3 LPA hfw hlb hlow HNA hA4
              have hpos : 0 < t.size := by rw [size_of_list]; exact List.length_pos_iff.2 HN.out
              have hts : a + t.size ≤ s.size := by have := HS.out; omega
              generalize w3.heap.size = tb at hc1 ⊢
              go_wp2_with fail
              go_roundw
              case rel => exact ⟨a + t.size, _, hts, by go_num, LP4⟩
              case measure => simp [intOf]; omega
            · have hne2 : ((er : Int) != 0) = true := by rw [bne_iff_ne]; omega
              obtain ⟨c0, c1, f0, f1⟩ := two_cells (show (w3.alloc (.cells #[.int .i64 k, .string t, .int .i64 p'] 47)).heap[w.heap.size]? = _ from (Below.heap_alloc _ _ _ (Array.getElem?_eq_some_iff.1 LP3.ret).1).trans LP3.ret)
              have HN : Hid (er ≠ 0) := hne
              have HT : Hid (Lx.lexS r.data.toList = _) := Lx.lexS_err HB.out HE.out HC.out hf
              have hB4 := LP3.below.alloc LP3.below.size (.cells #[.int .i64 k, .string t, .int .i64 p'] 47)
              have heq := LP3.eq
              have HQ : Hid ((Lx.lexS s.data.toList).2 = some (er, r.data.toList.length)) := by show _ = _; rw [heq, HT.out]
              clear hne hf heq LP3
              go_wp2_with fail
              refine bodyPost_ret (v := .tuple #[.slice none 0 0, .agg #[.int .i64 er, .int .i64 a]]) (by simp [results, Tryz.results8, go_sem, c0, c1]) rfl ?_
              exact ⟨_, _, _, rfl, (hB4.setCell (Nat.le_refl _) _).setCell (Nat.le_refl _) _, Or.inr ⟨er, _, HN.out, rfl, by rw [size_toList]; have := HS.out; omega, HQ.out, rfl⟩⟩
    · have hea : a = s.size := by omega
      subst hea
      obtain ⟨c0, c1, f0, f1⟩ := two_cells LP.ret
      have hq : Lx.lexS s.data.toList = (done, none) := by
        rw [LP.eq, extract_drop]
        have : s.data.toList.drop s.size = [] := by rw [List.drop_eq_nil_iff, size_toList]; omega
        rw [this, Lx.lexS_nil]; simp
      have HQ : Hid (_ = _) := hq
      clear hq
      go_wp2_with fail
      refine bodyPost_ret (v := .tuple #[u4, .agg #[.int .i64 0, .int .i64 0]]) (by simp [results, Tryz.results8, go_sem, c0, c1]) rfl ?_
      refine ⟨_, _, _, rfl, (LP.below.setCell (Nat.le_refl _) _).setCell (Nat.le_refl _) _, Or.inl ⟨rfl, rfl, by rw [HQ.out], ?_⟩⟩
      rw [HQ.out]
      exact (ownsRow_setCell_below (ownsRow_setCell_below LP.own (by simp) _) (by simp) _).mono (by omega)
end Go.Proofs.YtahalimekacliaaGreatDoor
namespace Go.Proofs.YtahalimekacliaaGreatDoor
open Go.RowKit Go.Shelf Tx Px Gx
theorem PgS.lexbad {s : ByteArray} {c q : Int} {k m : Nat} (h : PgS s (.error (c, q))) (h1 : (Lx.lexS s.data.toList).2 = some (k, m)) : c = (k : Int) ∧ q = ((s.size - m : Nat) : Int) := by
  unfold PgS at h
  rw [h1] at h
  simp only [Except.error.injEq, Prod.mk.injEq] at h
  exact h
set_option maxRecDepth 100000 in
set_option maxHeartbeats 8000000 in
theorem progFault_any (s : ByteArray) (hs : s.size ≤ maxLen) (w : World) (G : Gl w) :
    Calls Tryz.prog 6 #[.string s] w fun e w' => e = .returned (.bool true) ∧ Below w.heap.size w w' := by
  have hlive := fun W (hW : Below w.heap.size w W) => live06_any W (G.below hW)
  unfold maxLen at hs
  by_cases hbig : 1500 < s.size
  · have hl := hlive w (Below.refl _ _)
    have hb1 : (1500 : Int) < (s.size : Int) := by omega
    clear hlive G
    go_enter Tryz.func6, Tryz.ntmps6
    go_wp2_with fail
    refine hl.mono ?_
    rintro e w1 ⟨rfl, hb⟩
    have HB := Lib.hid hb
    clear hl hb
    go_wp2_with fail
    go_ret
    exact ⟨rfl, HB.out⟩
  · have hb1 : ¬ (1500 : Int) < (s.size : Int) := by omega
    obtain ⟨r, hr⟩ := PgS.all s
    have hrd := pProg_any s (by omega) r hr w G
    have hlex := fun W => rLex_any s (by omega) W
    have HLV := Lib.hid hlive
    have HR := Lib.hid hr
    have HLX := Lib.hid hlex
    have HSZ : Hid (s.size ≤ 1500) := by show _ ≤ _; omega
    clear hlive G hr hlex
    go_enter Tryz.func6, Tryz.ntmps6
    go_upto_region 3 with fail
    go_wp2_with fail
    refine hrd.mono ?_
    rintro e w1 ⟨hb1', hpost⟩
    match r, hpost with
    | .error (c, p), ⟨hc, he⟩ =>
      subst he
      have hc0 : (c == 0) = false := by simp [hc]
      have HBW1 := Lib.hid hb1'
      clear hrd hb1' hc hpost
      go_upto_region 4 with fail
      refine wp_letW ?_
      intro W1 hW1
      have b1 : Below w1.heap.size w1 W1 := by rw [hW1]; exact ((Below.refl _ _).alloc (Nat.le_refl _) _).alloc (by simp) _
      have P1 : Hid (Blk W1 w1.heap.size #[.slice none 0 0, .string ⟨#[]⟩, .string ⟨#[]⟩] 31) := by show Blk _ _ _ _; rw [hW1]; exact (Blk.new w1 _ _).below ((Below.refl _ _).alloc (Nat.le_refl _) _)
      have F1 : Hid (Blk W1 (w1.heap.size + 1) #[.int .i64 c, .int .i64 p] 25) := by show Blk _ _ _ _; rw [hW1]; have h := Blk.new (w1.alloc (.cells #[.slice none 0 0, .string ⟨#[]⟩, .string ⟨#[]⟩] 31)) #[.int .i64 c, .int .i64 p] 25; simpa using h
      obtain ⟨x1, hx1⟩ : ∃ b, b = w1.heap.size := ⟨_, rfl⟩
      rw [← hx1] at P1 F1 ⊢
      clear hW1 hx1
      have B1 : Hid (Below w.heap.size w W1) := below_next HBW1.out b1
      clear b1
      go_wp2_with fail
      refine (HLX.out W1).mono ?_
      rintro e w2 ⟨v, er, at_, rfl, hb2, hcase⟩
      have F12 := Lib.hid (F1.out.below hb2)
      have P12 := Lib.hid (P1.out.below hb2)
      have B2 : Hid (Below w.heap.size w w2) := below_next B1.out hb2
      rcases hcase with ⟨rfl, rfl, hl, hown⟩ | ⟨k, m, hk, rfl, rfl, hl, rfl⟩
      · obtain ⟨L, hL⟩ : ∃ L, L = toks s.size (Lx.lexS s.data.toList).1 := ⟨_, rfl⟩
        have hfp := HR.out.fault hl
        have hLl := toks_len s
        rw [← hL] at hown hfp hLl
        have hLlen : (Lx.lexS s.data.toList).1.length = L.length := by rw [hL]; simp [toks]
        rw [hLlen] at hown
        have hsl : Sl tokC 3 w2 v L := Sl.own tokC_len hown rfl
        obtain ⟨ta, tc, rfl, htc, hcell⟩ := hsl.form
        obtain ⟨n, hn⟩ : ∃ n, n = L.length := ⟨_, rfl⟩
        rw [← hn] at hsl htc hLl ⊢
        have HN := Lib.hid hn
        have HCELL := Lib.hid hcell
        have HFP := Lib.hid hfp
        have hn1 : n ≤ 100000 := by have := HSZ.out; omega
        clear hL hLlen hown hsl hcell hfp hn hb2 hl
        go_upto_region 5 with fail
        refine wp_letW ?_
        intro W2 hW2
        have b2 : Below w2.heap.size w2 W2 := by rw [hW2]; exact (Below.refl _ _).alloc (Nat.le_refl _) _
        have F2 : Hid (Blk W2 w2.heap.size #[.int .i64 0, .int .i64 0] 25) := by show Blk _ _ _ _; rw [hW2]; exact Blk.new w2 _ _
        obtain ⟨x2, hx2⟩ : ∃ b, b = w2.heap.size := ⟨_, rfl⟩
        rw [← hx2] at F2 ⊢
        clear hW2 hx2
        have F22 := Lib.hid (F12.out.below b2)
        have P22 := Lib.hid (P12.out.below b2)
        have B22 : Hid (Below w.heap.size w W2) := below_next B2.out b2
        have HBB := Lib.hid b2
        obtain ⟨u0, u1, -, -⟩ := two_cells F22.out
        obtain ⟨v0, v1, -, -⟩ := two_cells F2.out
        clear b2
        go_wp2_with fail
        go_loopw [7, 8] (fun fd iv wr => ∃ (i : Nat) (b : Bool), fd = .bool b ∧ iv = .int .i64 i ∧ i ≤ n ∧ FoundAt L p i b ∧ Below W2.heap.size W2 wr) (fun _ iv _ => n - (intOf iv).toNat)
        case atStart => exact ⟨0, _, rfl, rfl, Nat.zero_le _, by unfold FoundAt; simp, Below.refl _ _⟩
        case round =>
          obtain ⟨i, b, rfl, rfl, hi, hF, hB⟩ := hrel
          have HF := Lib.hid hF
          have HBI := Lib.hid hB
          obtain ⟨z0, z1, -, -⟩ := two_cells (F22.out.below hB)
          have HPW := Lib.hid (P22.out.below hB)
          clear hF hB u0 u1 v0 v1
          by_cases hlt : i < n
          · obtain ⟨t, ht⟩ : ∃ t, L[i]? = some t := ⟨_, List.getElem?_eq_getElem (by rw [← HN.out]; exact hlt)⟩
            obtain ⟨tb, q, rfl, hj⟩ := HCELL.out wr (below_next HBB.out HBI.out) i t ht
            have d2 := hj 2 _ rfl
            have hi0 : (0 : Int) ≤ (i : Int) := by omega
            have hi1 : (i : Int) < (n : Int) := by omega
            have HFN := Lib.hid (HF.out.next ht)
            obtain ⟨z, hz⟩ : ∃ z, z = ((t.p : Int) == p) := ⟨_, rfl⟩
            have hz2 : ((t.p : Int) == p) = z := hz.symm
            rw [← hz] at HFN
            clear hz hj ht
            cases b
            · go_wp2_with fail
              go_quiet (fail)
              have HB3 := Lib.hid (below_drawn HBI.out nq)
              generalize wr.drewN nq = V at *
              clear z0 z1 d2
              go_wp2_with fail
              go_roundw
              case rel => exact ⟨i + 1, _, rfl, by go_num, by omega, by simpa using HFN.out, HB3.out⟩
              case measure => simp [intOf]; omega
            · go_wp2_with fail
              go_quiet (fail)
              have HB3 := Lib.hid (below_drawn HBI.out nq)
              generalize wr.drewN nq = V at *
              clear z0 z1 d2
              go_wp2_with fail
              go_roundw
              case rel => exact ⟨i + 1, true, rfl, by go_num, by omega, by simpa using HFN.out, HB3.out⟩
              case measure => simp [intOf]; omega
          · obtain rfl : i = n := by omega
            have hb : b = true := (show FoundAt L p L.length b by rw [← HN.out]; exact HF.out).all HFP.out
            subst hb
            have hl2 := HLV.out wr (below_next B22.out HBI.out)
            have p0 : wr.cell? ⟨x1, 0, none⟩ = some (.slice none 0 0) := Blk.c HPW.out rfl
            have p1 : wr.cell? ⟨x1, 1, none⟩ = some (.string ⟨#[]⟩) := Blk.c HPW.out rfl
            clear z0 z1
            go_wp2_with fail
            refine hl2.mono ?_
            rintro e w9 ⟨rfl, hb9⟩
            have HB9 := Lib.hid (below_next (below_next B22.out HBI.out) hb9)
            clear hl2 hb9
            go_wp2_with fail
            go_ret
            exact ⟨rfl, HB9.out⟩
      · have hcp := HR.out.lexbad hl
        obtain ⟨pm, hpm⟩ : ∃ pm, pm = s.size - m := ⟨_, rfl⟩
        rw [← hpm] at hcp ⊢
        obtain ⟨rfl, rfl⟩ := hcp
        have hk0 : ((k : Int) != 0) = true := by simp [hk]
        have hq : ∀ W, (Op.equalIn 10000 25 (.agg #[.int .i64 k, .int .i64 pm]) (.agg #[.int .i64 k, .int .i64 pm])).run Tryz.prog W = .ok true W := fun W => by rw [eqFlt]; simp
        clear hpm hl hb2
        go_upto_region 5 with fail
        refine wp_letW ?_
        intro W2 hW2
        have b2 : Below w2.heap.size w2 W2 := by rw [hW2]; exact (Below.refl _ _).alloc (Nat.le_refl _) _
        have F2 : Hid (Blk W2 w2.heap.size #[.int .i64 k, .int .i64 pm] 25) := by show Blk _ _ _ _; rw [hW2]; exact Blk.new w2 _ _
        obtain ⟨x2, hx2⟩ : ∃ b, b = w2.heap.size := ⟨_, rfl⟩
        rw [← hx2] at F2 ⊢
        clear hW2 hx2
        have F22 := two_cells (F12.out.below b2)
        have B22 : Hid (Below w.heap.size w W2) := below_next B2.out b2
        obtain ⟨u0, u1, -, -⟩ := F22
        obtain ⟨v0, v1, -, -⟩ := two_cells F2.out
        have hl2 := HLV.out W2 B22.out
        clear b2
        go_wp2_with fail
        refine hl2.mono ?_
        rintro e w9 ⟨rfl, hb9⟩
        have HB9 := Lib.hid (below_next B22.out hb9)
        clear hl2 hb9
        go_wp2_with fail
        go_ret
        exact ⟨rfl, HB9.out⟩
    | .ok p, ⟨va, n, vc, he, hU⟩ =>
      cases he
      have hlk := HR.out.lexok.1
      have HBW1 := Lib.hid hb1'
      clear hrd hb1' hpost hU
      go_upto_region 4 with fail
      refine wp_letW ?_
      intro W1 hW1
      have b1 : Below w1.heap.size w1 W1 := by rw [hW1]; exact ((Below.refl _ _).alloc (Nat.le_refl _) _).alloc (by simp) _
      have P1 : Hid (Blk W1 w1.heap.size #[.slice va n vc, .string p.main, .string p.back] 31) := by show Blk _ _ _ _; rw [hW1]; exact (Blk.new w1 _ _).below ((Below.refl _ _).alloc (Nat.le_refl _) _)
      have F1 : Hid (Blk W1 (w1.heap.size + 1) #[.int .i64 0, .int .i64 0] 25) := by show Blk _ _ _ _; rw [hW1]; have h := Blk.new (w1.alloc (.cells #[.slice va n vc, .string p.main, .string p.back] 31)) #[.int .i64 0, .int .i64 0] 25; simpa using h
      obtain ⟨x1, hx1⟩ : ∃ b, b = w1.heap.size := ⟨_, rfl⟩
      rw [← hx1] at P1 F1 ⊢
      clear hW1 hx1
      have B1 : Hid (Below w.heap.size w W1) := below_next HBW1.out b1
      clear b1
      go_wp2_with fail
      refine (HLX.out W1).mono ?_
      rintro e w2 ⟨v, er, at_, rfl, hb2, hcase⟩
      have F12 := Lib.hid (F1.out.below hb2)
      have B2 : Hid (Below w.heap.size w w2) := below_next B1.out hb2
      rcases hcase with ⟨rfl, rfl, hl, hown⟩ | ⟨k, m, hk, rfl, rfl, hl, rfl⟩
      · obtain ⟨ta, tn, tc, rfl⟩ : ∃ a n c, v = .slice a n c := by
          obtain ⟨a, c, h, _⟩ := (Sl.own tokC_len hown (by simp [toks])).form
          exact ⟨_, _, _, h⟩
        clear hown hl hlk hb2
        go_upto_region 5 with fail
        refine wp_letW ?_
        intro W2 hW2
        have b2 : Below w2.heap.size w2 W2 := by rw [hW2]; exact (Below.refl _ _).alloc (Nat.le_refl _) _
        have F2 : Hid (Blk W2 w2.heap.size #[.int .i64 0, .int .i64 0] 25) := by show Blk _ _ _ _; rw [hW2]; exact Blk.new w2 _ _
        obtain ⟨x2, hx2⟩ : ∃ b, b = w2.heap.size := ⟨_, rfl⟩
        rw [← hx2] at F2 ⊢
        clear hW2 hx2
        obtain ⟨u0, u1, -, -⟩ := two_cells (F12.out.below b2)
        obtain ⟨v0, v1, -, -⟩ := two_cells F2.out
        have B22 : Hid (Below w.heap.size w W2) := below_next B2.out b2
        have hl2 := HLV.out W2 B22.out
        clear b2
        go_wp2_with fail
        refine hl2.mono ?_
        rintro e w9 ⟨rfl, hb9⟩
        have HB9 := Lib.hid (below_next B22.out hb9)
        clear hl2 hb9
        go_wp2_with fail
        go_ret
        exact ⟨rfl, HB9.out⟩
      · rw [hl] at hlk; cases hlk
end Go.Proofs.YtahalimekacliaaGreatDoor
