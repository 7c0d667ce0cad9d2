/- The reference's lexer: words, signs, letters, names. The reference's lexer: names, numbers, signs, words. -/
import Derived.Deep.QuietTactic
import Derived.Test.YtmklieoikbgmpaaGreatDoorJ1
import Derived.Test.YtmklieoikbgmpaaGreatDoorJ2
namespace Go.Proofs.YtmklieoikbgmpaaGreatDoor
open Go.RowKit Go.Shelf
def wordC (l : Lx.Bs) : Value := .string ⟨l.toArray⟩
theorem Words_any (w : World) : Calls Tryz.prog 56 #[] w fun e w' => ∃ b c, e = .returned (.slice (some ⟨b, 0, none⟩) 35 c) ∧ Below w.heap.size w w' ∧ ∀ j x, Lx.words[j]? = some x → w'.cell? ⟨b, j, none⟩ = some (wordC x) := by
  have hc : ∀ j x, Lx.words[j]? = some x → (w.alloc (.cells (Lx.words.map wordC).toArray 9)).cell? ⟨w.heap.size, j, none⟩ = some (wordC x) := by
    intro j x h
    rw [cell_of_row _ _ j _ _ _ (heap_alloc_new w _)]
    simp [h]
  go_enter Tryz.func56, Tryz.ntmps56
  go_wp2_with fail
  go_ret
  exact ⟨_, _, rfl, (Below.refl _ _).alloc (Nat.le_refl _) _, hc⟩
theorem Signs_any (w : World) : Calls Tryz.prog 83 #[] w fun e w' => ∃ b c, e = .returned (.slice (some ⟨b, 0, none⟩) 16 c) ∧ Below w.heap.size w w' ∧ ∀ j x, Lx.signs[j]? = some x → w'.cell? ⟨b, j, none⟩ = some (wordC x) := by
  have hc : ∀ j x, Lx.signs[j]? = some x → (w.alloc (.cells (Lx.signs.map wordC).toArray 9)).cell? ⟨w.heap.size, j, none⟩ = some (wordC x) := by
    intro j x h
    rw [cell_of_row _ _ j _ _ _ (heap_alloc_new w _)]
    simp [h]
  go_enter Tryz.func83, Tryz.ntmps83
  go_wp2_with fail
  go_ret
  exact ⟨_, _, rfl, (Below.refl _ _).alloc (Nat.le_refl _) _, hc⟩
theorem contains_take (l : List Lx.Bs) (k : Nat) (x s : Lx.Bs) (h : l[k]? = some x) : (l.take (k + 1)).contains s = ((l.take k).contains s || x == s) := by
  rw [List.take_add_one, h]
  simp only [Option.toList_some]
  rw [Bool.eq_iff_iff]
  simp only [List.contains_iff_mem, List.mem_append, List.mem_singleton, Bool.or_eq_true, beq_iff_eq]
  constructor
  · rintro (h | h)
    · exact Or.inl h
    · exact Or.inr h.symm
  · rintro (h | h)
    · exact Or.inl h
    · exact Or.inr h.symm
set_option maxHeartbeats 400000 in
theorem rIsWord_any (s : ByteArray) (w : World) :
    Calls Tryz.prog 31 #[.string s] w fun e w' => e = .returned (.bool (Lx.isWord s.data.toList)) ∧ Below w.heap.size w w' := by
  go_enter Tryz.func31, Tryz.ntmps31
  go_wp2_with fail
  refine (Words_any w).mono ?_
  rintro e w1 ⟨b, c, rfl, hb1, hc1⟩
  go_wp2_with fail
  go_loopw [4] (fun i wr => ∃ k : Nat, k ≤ 35 ∧ i = .int .i64 k ∧ (Lx.words.take k).contains s.data.toList = false ∧ wr = w1) (fun i _ => 35 - (intOf i).toNat)
  case atStart => exact ⟨0, Nat.zero_le _, rfl, rfl, rfl⟩
  case round =>
    obtain ⟨k, hk, rfl, hno, hB⟩ := hrel
    subst hB
    by_cases hlt : k < 35
    · obtain ⟨x, hx⟩ : ∃ x, Lx.words[k]? = some x := ⟨_, List.getElem?_eq_getElem hlt⟩
      have hc := hc1 k x hx
      unfold wordC at hc
      obtain ⟨y, hy⟩ : ∃ y : ByteArray, y = ⟨x.toArray⟩ := ⟨_, rfl⟩
      rw [← hy] at hc
      have hyl : y.data.toList = x := by rw [hy]
      have HT := contains_take Lx.words k x s.data.toList hx
      rw [hno, Bool.false_or] at HT
      have HW : Hid (x ∈ Lx.words) := List.mem_of_getElem? hx
      have hk2 : (k : Int) < 35 := by omega
      by_cases heq : y.toList = s.toList
      · have HF : Hid (Lx.isWord s.data.toList = true) := by
          show _ = _
          unfold Lx.isWord
          rw [List.contains_iff_mem, ← Lib.toList_data, ← heq, Lib.toList_data, hyl]; exact HW.out
        clear hc1 hx hy hyl HT hno
        go_wp2_with fail
        go_ret
        exact ⟨ret_bool HF.out.symm, hb1⟩
      · have HF : Hid ((Lx.words.take (k + 1)).contains s.data.toList = false) := by
          show _ = _
          rw [HT, beq_eq_false_iff_ne, ← hyl, ← Lib.toList_data, ← Lib.toList_data]; exact heq
        have hne : (y.toList == s.toList) = false := by simp [heq]
        clear hc1 hx hy hyl HT hno
        go_wp2_with fail
        go_roundw
        case rel => exact ⟨k + 1, by omega, by go_num, HF.out, by trivial⟩
        case measure => simp [intOf]; omega
    · have hke : k = 35 := by omega
      subst hke
      have HF : Hid (Lx.isWord s.data.toList = false) := hno
      clear hno hc1
      go_wp2_with fail
      go_ret
      exact ⟨ret_bool HF.out.symm, hb1⟩
theorem rdigit_any (c : UInt8) (w : World) :
    Calls Tryz.prog 51 #[.int .u8 c.toNat] w fun e w' => e = .returned (.bool (Lx.isDig c)) ∧ w' = w := by
  have h := digN_byte c
  unfold digN at h
  go_enter Tryz.func51, Tryz.ntmps51
  go_wp2_with fail
  all_goals
    go_ret
    exact ⟨ret_bool (by rw [← digN_byte, Bool.eq_iff_iff]; simp [digN]; omega), rfl⟩
theorem rletter_any (c : UInt8) (w : World) :
    Calls Tryz.prog 53 #[.int .u8 c.toNat] w fun e w' => e = .returned (.bool (Lx.isLet c)) ∧ w' = w := by
  by_cases h1 : (97 : Int) ≤ (c.toNat : Int)
  · by_cases h2 : (c.toNat : Int) ≤ 122
    · go_enter Tryz.func53, Tryz.ntmps53
      go_wp2_with fail
      all_goals
        go_ret
        exact ⟨ret_bool (by rw [← letN_byte, Bool.eq_iff_iff]; simp [letN]; omega), rfl⟩
    · go_enter Tryz.func53, Tryz.ntmps53
      go_wp2_with fail
      all_goals
        go_ret
        exact ⟨ret_bool (by rw [← letN_byte, Bool.eq_iff_iff]; simp [letN]; omega), rfl⟩
  · go_enter Tryz.func53, Tryz.ntmps53
    go_wp2_with fail
    all_goals
      go_ret
      exact ⟨ret_bool (by rw [← letN_byte, Bool.eq_iff_iff]; simp [letN]; omega), rfl⟩
end Go.Proofs.YtmklieoikbgmpaaGreatDoor
namespace Go.Proofs.YtmklieoikbgmpaaGreatDoor
open Go.RowKit Go.Shelf
namespace Lx
theorem let_not_dig {c : UInt8} (h : isLet c = true) : isDig c = false := by
  simp only [isLet, isDig, Bool.or_eq_true, Bool.and_eq_true, decide_eq_true_eq, beq_iff_eq, UInt8.le_iff_toNat_le] at h ⊢
  rw [Bool.eq_false_iff]
  simp only [ne_eq, Bool.and_eq_true, decide_eq_true_eq]
  rcases h with h | rfl
  · have h2 : (97 : UInt8).toNat = 97 := rfl
    have h3 : (57 : UInt8).toNat = 57 := rfl
    omega
  · decide
theorem name_ref {t : Bs} (h1 : t ≠ []) (h2 : t.length ≤ 40) (h3 : isLet (t.headD 0) = true) (h4 : isWord t = false) : isName t = t.all isPt := by
  unfold isName
  have e1 : t.isEmpty = false := by cases t with | nil => exact absurd rfl h1 | cons _ _ => rfl
  simp only [e1, decide_eq_true h2, let_not_dig h3, h4, Bool.not_false, Bool.true_and, Bool.and_true]
theorem name_ref_no {t : Bs} (h1 : t ≠ []) (h3 : isLet (t.headD 0) = false) : isName t = false := by
  cases t with
  | nil => exact absurd rfl h1
  | cons c r =>
    simp only [List.headD_cons] at h3
    unfold isName
    cases hd : isDig c <;> simp [isPt, h3, hd]
theorem all_take {p : UInt8 → Bool} (l : Bs) (k : Nat) (c : UInt8) (h : l[k]? = some c) : (l.take (k + 1)).all p = ((l.take k).all p && p c) := by
  rw [List.take_add_one, h]; simp [List.all_append]
theorem all_no {p : UInt8 → Bool} (l : Bs) (k : Nat) (c : UInt8) (h : l[k]? = some c) (hp : p c = false) : l.all p = false := by
  rw [Bool.eq_false_iff]; intro q
  have := List.all_eq_true.1 q c (List.mem_of_getElem? h)
  rw [hp] at this; cases this
theorem val_snoc (l : Bs) (c : UInt8) : val (l ++ [c]) = 10 * val l + (c.toNat - 48) := by simp [val, List.foldl_append]
theorem val_take (l : Bs) (k : Nat) (c : UInt8) (h : l[k]? = some c) : val (l.take (k + 1)) = 10 * val (l.take k) + (c.toNat - 48) := by
  rw [List.take_add_one, h]; exact val_snoc _ _
theorem fold_ge : ∀ (b : Bs) (n : Nat), n * 10 ^ b.length ≤ b.foldl (fun n c => 10 * n + (c.toNat - 48)) n
  | [], n => by simp
  | c :: b, n => by
    have := fold_ge b (10 * n + (c.toNat - 48))
    rw [List.foldl_cons, List.length_cons, Nat.pow_succ]
    refine Nat.le_trans ?_ this
    rw [Nat.mul_comm (10 ^ _), ← Nat.mul_assoc]
    exact Nat.mul_le_mul_right _ (by omega)
theorem val_mono (a b : Bs) : val a ≤ val (a ++ b) := by
  unfold val
  rw [List.foldl_append]
  refine Nat.le_trans ?_ (fold_ge b _)
  exact Nat.le_mul_of_pos_right _ (Nat.pow_pos (by omega))
theorem val_take_le (l : Bs) (k : Nat) : val (l.take k) ≤ val l := by
  have := val_mono (l.take k) (l.drop k)
  rwa [List.take_append_drop] at this
theorem val_big (c : UInt8) (r : Bs) (h : 49 ≤ c.toNat) : 10 ^ r.length ≤ val (c :: r) := by
  unfold val
  rw [List.foldl_cons]
  refine Nat.le_trans ?_ (fold_ge r _)
  exact Nat.le_mul_of_pos_left _ (by omega)
theorem tooBig_ref (d : Bs) (hd : d.all isDig = true) (hn : d ≠ []) : tooBig d = true ↔ (1 < d.length ∧ d.headD 0 = 48) ∨ 2147483647 < val d := by
  unfold tooBig
  simp only [Bool.or_eq_true, decide_eq_true_eq, Bool.and_eq_true, beq_iff_eq]
  constructor
  · rintro ((h | h) | h)
    · cases d with
      | nil => exact absurd rfl hn
      | cons c r =>
        by_cases h48 : c = 48
        · exact Or.inl ⟨by omega, by simpa using h48⟩
        · refine Or.inr ?_
          simp only [List.all_cons, Bool.and_eq_true] at hd
          have hc := dig_nat hd.1
          have h2 : c.toNat ≠ 48 := fun q => h48 (by rw [← UInt8.toNat_inj]; exact q)
          have h3 := val_big c r (by omega)
          have h4 : 10 ^ 10 ≤ 10 ^ r.length := Nat.pow_le_pow_right (by omega) (by simp at h; omega)
          omega
    · exact Or.inr h
    · exact Or.inl h
  · rintro (h | h)
    · exact Or.inr h
    · exact Or.inl (Or.inr h)
end Lx
theorem byte_at (s : ByteArray) (k : Nat) (h : k < s.size) : s.data.toList[k]? = some s[k] := by
  rw [List.getElem?_eq_getElem (by rw [size_toList]; exact h)]; rfl
set_option maxHeartbeats 1000000 in
theorem rIsName_any (s : ByteArray) (w : World) :
    Calls Tryz.prog 82 #[.string s] w fun e w' => e = .returned (.bool (Lx.isName s.data.toList)) ∧ Below w.heap.size w w' := by
  by_cases he : s.toList = []
  · have HF : Hid (Lx.isName s.data.toList = false) := by
      show _ = _
      rw [← Lib.toList_data, he]; rfl
    have he2 : s.toList.isEmpty = true := by simp [he]
    go_enter Tryz.func82, Tryz.ntmps82
    go_wp2_with fail
    go_ret
    exact ⟨ret_bool HF.out.symm, Below.refl _ _⟩
  have he2 : s.toList.isEmpty = false := by simp [he]
  have HE : Hid (s.data.toList ≠ []) := by rw [Lib.toList_data] at he; exact he
  have hpos : 0 < s.size := by rw [← size_toList]; exact List.length_pos_iff.2 HE.out
  by_cases hl : 40 < s.size
  · have HF : Hid (Lx.isName s.data.toList = false) := by
      show _ = _
      unfold Lx.isName
      rw [size_toList]
      have : decide (s.size ≤ 40) = false := by simp; omega
      rw [this]; simp
    go_enter Tryz.func82, Tryz.ntmps82
    go_wp2_with fail
    go_ret
    exact ⟨ret_bool HF.out.symm, Below.refl _ _⟩
  have hl2 : s.size ≤ 40 := by omega
  have hb0 := headD_byte s hpos
  obtain ⟨b1, hb1⟩ : ∃ b, b = Lx.isLet (s.data.toList.headD 0) := ⟨_, rfl⟩
  have c1 := rletter_any s[0] w
  rw [← hb0, ← hb1] at c1
  have H1 : Hid (Lx.isLet (s.data.toList.headD 0) = b1) := hb1.symm
  rw [hb0] at c1
  clear hb0 hb1 hl
  go_enter Tryz.func82, Tryz.ntmps82
  go_wp2_with fail
  refine c1.mono ?_
  rintro e w1 ⟨rfl, hW⟩
  subst hW
  clear c1
  cases b1
  · go_wp2_with fail
    go_ret
    exact ⟨ret_bool (Lx.name_ref_no HE.out H1.out).symm, Below.refl _ _⟩
  · go_wp2_with fail
    refine (rIsWord_any s w1).mono ?_
    rintro e w2 ⟨rfl, hb2⟩
    obtain ⟨b2, hb2'⟩ : ∃ b, b = Lx.isWord s.data.toList := ⟨_, rfl⟩
    rw [← hb2']
    have H2 : Hid (Lx.isWord s.data.toList = b2) := hb2'.symm
    clear hb2'
    cases b2
    · have HN : Hid (Lx.isName s.data.toList = s.data.toList.all Lx.isPt) := Lx.name_ref HE.out (by rw [size_toList]; omega) H1.out H2.out
      go_wp2_with fail
      go_loopw [3] (fun i wr => ∃ k : Nat, k ≤ s.size ∧ i = .int .i64 k ∧ (s.data.toList.take k).all Lx.isPt = true ∧ wr = w2) (fun i _ => s.size - (intOf i).toNat)
      case atStart => exact ⟨0, Nat.zero_le _, rfl, rfl, rfl⟩
      case round =>
        obtain ⟨k, hk, rfl, hall, hB⟩ := hrel
        subst hB
        by_cases hlt : k < s.size
        · have HA : Hid ((s.data.toList.take k).all Lx.isPt = true) := hall
          have HK : Hid (s.data.toList[k]? = some s[k]) := byte_at s k hlt
          have hk2 : (k : Int) < (s.size : Int) := by omega
          have c3 := rletter_any s[k] wr
          have c4 := rdigit_any s[k] wr
          obtain ⟨b3, hb3⟩ : ∃ b, b = Lx.isLet s[k] := ⟨_, rfl⟩
          obtain ⟨b4, hb4⟩ : ∃ b, b = Lx.isDig s[k] := ⟨_, rfl⟩
          rw [← hb3] at c3
          rw [← hb4] at c4
          have HP : Hid (Lx.isPt s[k] = (b3 || b4)) := by show _ = _; unfold Lx.isPt; rw [hb3, hb4]
          clear hb3 hb4 hall
          cases b3
          · go_wp2_with fail
            refine c3.mono ?_
            rintro e w5 ⟨rfl, hW⟩
            subst hW
            go_wp2_with fail
            refine c4.mono ?_
            rintro e w5 ⟨rfl, hW⟩
            subst hW
            clear c3 c4
            cases b4
            · go_wp2_with fail
              go_ret
              exact ⟨ret_bool (by rw [HN.out, Lx.all_no _ k _ HK.out (by rw [HP.out]; rfl)]), hb2⟩
            · have HF : Hid ((s.data.toList.take (k + 1)).all Lx.isPt = true) := by show _ = _; rw [Lx.all_take _ k _ HK.out, HA.out, HP.out]; rfl
              go_wp2_with fail
              go_roundw
              case rel => exact ⟨k + 1, by omega, by go_num, HF.out, by trivial⟩
              case measure => simp [intOf]; omega
          · have HF : Hid ((s.data.toList.take (k + 1)).all Lx.isPt = true) := by show _ = _; rw [Lx.all_take _ k _ HK.out, HA.out, HP.out]; rfl
            go_wp2_with fail
            refine c3.mono ?_
            rintro e w5 ⟨rfl, hW⟩
            subst hW
            clear c3 c4
            go_wp2_with fail
            go_roundw
            case rel => exact ⟨k + 1, by omega, by go_num, HF.out, by trivial⟩
            case measure => simp [intOf]; omega
        · have hke : k = s.size := by omega
          have HF : Hid (Lx.isName s.data.toList = true) := by
            show _ = _
            rw [HN.out, ← hall, hke, List.take_of_length_le (by rw [size_toList]; omega)]
          clear hall
          subst hke
          go_wp2_with fail
          go_ret
          exact ⟨ret_bool HF.out.symm, hb2⟩
    · have HF : Hid (Lx.isName s.data.toList = false) := by
        show _ = _
        cases h : Lx.isName s.data.toList with
        | false => rfl
        | true => have := Lx.name_not_word h; rw [H2.out] at this; cases this
      go_wp2_with fail
      go_ret
      exact ⟨ret_bool HF.out.symm, hb2⟩
def ValPost (d : ByteArray) (w : World) (e : Ending) (w' : World) : Prop := ∃ n : Nat, e = .returned (.int .i64 n) ∧ (2147483647 < n ↔ 2147483647 < Lx.val d.data.toList) ∧ (n ≤ 2147483647 → n = Lx.val d.data.toList) ∧ w' = w
set_option maxHeartbeats 1000000 in
theorem rValue_any (s : ByteArray) (hd : s.data.toList.all Lx.isDig = true) (hs : s.size ≤ 100000) (w : World) :
    Calls Tryz.prog 52 #[.string s] w (ValPost s w) := by
  have HD : Hid (s.data.toList.all Lx.isDig = true) := hd
  clear hd
  go_enter Tryz.func52, Tryz.ntmps52
  go_wp2_with fail
  go_loopw [3, 4] (fun n i wr => ∃ k : Nat, k ≤ s.size ∧ i = .int .i64 k ∧ n = .int .i64 (Lx.val (s.data.toList.take k) : Nat) ∧ Lx.val (s.data.toList.take k) ≤ 21474836479 ∧ wr = w) (fun _ i _ => s.size - (intOf i).toNat)
  case atStart => exact ⟨0, Nat.zero_le _, rfl, rfl, by simp [Lx.val], rfl⟩
  case round =>
    obtain ⟨k, hk, rfl, rfl, hle, hB⟩ := hrel
    subst hB
    have hmono := Lx.val_take_le s.data.toList k
    obtain ⟨n, hn⟩ : ∃ n, n = Lx.val (s.data.toList.take k) := ⟨_, rfl⟩
    rw [← hn] at hle hmono ⊢
    have HNN : Hid (n = Lx.val (s.data.toList.take k)) := hn
    have HM : Hid (n ≤ Lx.val s.data.toList) := hmono
    clear hn hmono
    by_cases hlt : k < s.size
    · by_cases hbig : n ≤ 2147483647
      · have HK : Hid (s.data.toList[k]? = some s[k]) := byte_at s k hlt
        have hdk := Lx.dig_nat (List.all_eq_true.1 HD.out s[k] (List.mem_of_getElem? HK.out))
        have hk2 : (k : Int) < (s.size : Int) := by omega
        have hn2 : (n : Int) ≤ 2147483647 := by omega
        have HV : Hid (Lx.val (s.data.toList.take (k + 1)) = 10 * n + (s[k].toNat - 48)) := by show _ = _; rw [Lx.val_take _ k _ HK.out, ← HNN.out]
        obtain ⟨q, hq⟩ : ∃ q, s[k].toNat = q + 48 := ⟨s[k].toNat - 48, by omega⟩
        have hq9 : q ≤ 9 := by omega
        have HQ : Hid (s[k].toNat = q + 48) := hq
        go_wp2_with fail
        go_roundw
        case rel =>
          have e : Lx.val (s.data.toList.take (k + 1)) = 10 * n + q := by rw [HV.out, HQ.out]; omega
          exact ⟨k + 1, by omega, by go_num, by rw [e]; go_num, by omega, by trivial⟩
        case measure => simp [intOf]; omega
      · have hn2 : (2147483647 : Int) < (n : Int) := by omega
        have hk2 : (k : Int) < (s.size : Int) := by omega
        go_wp2_with fail
        go_ret
        exact ⟨n, rfl, ⟨fun _ => by have := HM.out; omega, fun _ => by omega⟩, fun h => by omega, rfl⟩
    · have hke : k = s.size := by omega
      have HF : Hid (n = Lx.val s.data.toList) := by
        show _ = _
        rw [HNN.out, hke, List.take_of_length_le (by rw [size_toList]; omega)]
      subst hke
      go_wp2_with fail
      go_ret
      exact ⟨n, rfl, by rw [HF.out], fun _ => HF.out, rfl⟩
end Go.Proofs.YtmklieoikbgmpaaGreatDoor
