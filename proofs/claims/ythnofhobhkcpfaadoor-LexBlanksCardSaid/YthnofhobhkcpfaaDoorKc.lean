/- Tokens: the shelf's words, and the lexer's. -/
import Derived.Test.YthnofhobhkcpfaaDoorKa
import Derived.Lib.AtoiAll
import Derived.Lib.AtoiAllCases
import Derived.Shelf.Spec.SearchS
import Derived.Shelf.GgClosure.StringsIndexFunc
import Derived.Lib.SlBy
import Derived.Lib.SlTrimSet
import Derived.Lib.CutLaws
import Derived.Lib.IndexLaws
import Derived.Lib.IndexBytes
namespace Go.Proofs.YthnofhobhkcpfaaDoor.Lx

/-! ### a byte that is no ASCII is no rune below 128 -/
theorem decode_low (s : ByteArray) (i : Nat) (h : (s.get! i).toNat < 128) : Utf8.decode s i = ((s.get! i).toNat, 1) := by
  unfold Utf8.decode
  simp only [Nat.add_zero]
  rw [if_pos h]
theorem decode_high (s : ByteArray) (i : Nat) (h : 128 ≤ (s.get! i).toNat) : 128 ≤ (Utf8.decode s i).1 := by
  unfold Utf8.decode Utf8.runeError
  simp only [Nat.add_zero]
  rw [if_neg (by omega)]
  repeat' split
  all_goals first | omega | (simp_all; omega)

/-- What begins with such bytes. -/
theorem idx_row (p : Nat → Bool) (q : UInt8 → Bool) (hlow : ∀ c : UInt8, c.toNat < 128 → p c.toNat = q c) (hhigh : ∀ x, 128 ≤ x → p x = false) (hq : ∀ c : UInt8, 128 ≤ c.toNat → q c = false) (s : ByteArray) :
    Lib.idxFunc (fun x => !p x) true s = if (s.data.toList.takeWhile q).length = s.size then -1 else ((s.data.toList.takeWhile q).length : Int) := by
  have key : ∀ (f pos : Nat), s.size - pos ≤ f → pos ≤ s.size → Lib.idxFuncFrom (fun x => !p x) true s f pos = if pos + ((s.data.toList.drop pos).takeWhile q).length = s.size then -1 else ((pos + ((s.data.toList.drop pos).takeWhile q).length : Nat) : Int) := by
    intro f
    induction f with
    | zero =>
      intro pos h1 h2
      have : pos = s.size := by omega
      subst this
      have e : s.data.toList.drop s.size = [] := by rw [List.drop_eq_nil_iff]; simp
      rw [e]
      simp [Lib.idxFuncFrom]
    | succ f ih =>
      intro pos h1 h2
      unfold Lib.idxFuncFrom
      by_cases hp : pos < s.size
      · rw [if_pos hp]
        have hd : s.data.toList.drop pos = s.get! pos :: s.data.toList.drop (pos + 1) := by
          rw [List.drop_eq_getElem_cons (by simpa using hp)]
          congr 1
          have : s.data.size = s.size := rfl
          simp only [ByteArray.get!, Array.getElem_toList]
          rw [getElem!_pos s.data pos (by omega)]
        rw [hd]
        by_cases hl : (s.get! pos).toNat < 128
        · rw [decode_low s pos hl]
          simp only [hlow _ hl]
          by_cases hqq : q (s.get! pos) = true
          · simp only [hqq, Bool.not_true, Bool.false_eq_true, if_false, List.takeWhile_cons, if_true, List.length_cons]
            rw [ih (pos + 1) (by omega) (by omega)]
            have e : ∀ n : Nat, pos + 1 + n = pos + (n + 1) := fun n => by omega
            rw [e]
          · have hqf : q (s.get! pos) = false := by simpa using hqq
            simp only [hqf, Bool.not_false, if_true, List.takeWhile_cons, Bool.false_eq_true, if_false, List.length_nil, Nat.add_zero]
            rw [if_neg (by omega)]
        · have h3 := decode_high s pos (by omega)
          have hqf := hq (s.get! pos) (by omega)
          simp only [hhigh _ h3, Bool.not_false, if_true, List.takeWhile_cons, hqf, Bool.false_eq_true, if_false, List.length_nil, Nat.add_zero]
          rw [if_neg (by omega)]
      · have : pos = s.size := by omega
        subst this
        have e : s.data.toList.drop s.size = [] := by rw [List.drop_eq_nil_iff]; simp
        rw [if_neg hp, e]
        simp
  have := key s.size 0 (by omega) (by omega)
  simpa [Lib.idxFunc] using this

/-! ### words -/
theorem less_irrefl : ∀ a : Bs, Op.bytesLess a a = false
  | [] => rfl
  | c :: a => by simp [Op.bytesLess, less_irrefl a]
theorem less_trans : ∀ {a b c : Bs}, Op.bytesLess a b = true → Op.bytesLess b c = true → Op.bytesLess a c = true
  | _, [], _, h, _ => by simp [Op.bytesLess] at h
  | _, _ :: _, [], _, h => by simp [Op.bytesLess] at h
  | [], _ :: _, _ :: _, _, _ => rfl
  | x :: a, y :: b, z :: c, h, k => by
    simp only [Op.bytesLess, Bool.or_eq_true, decide_eq_true_eq, Bool.and_eq_true, beq_iff_eq] at h k ⊢
    rcases h with h | ⟨rfl, h⟩
    · rcases k with k | ⟨rfl, k⟩
      · exact Or.inl (UInt8.lt_trans h k)
      · exact Or.inl h
    · rcases k with k | ⟨rfl, k⟩
      · exact Or.inl k
      · exact Or.inr ⟨rfl, less_trans h k⟩

theorem bs_spec (less : Nat → Bool) (n k : Nat) (h1 : ∀ t, t < k → less t = true) (h2 : ∀ t, k ≤ t → t < n → less t = false) : ∀ (f lo hi : Nat), hi - lo ≤ f → lo ≤ k → k ≤ hi → hi ≤ n → Lib.bsGo less f lo hi = k
  | 0, lo, hi, hf, a, b, _ => by simp [Lib.bsGo]; omega
  | f + 1, lo, hi, hf, a, b, c => by
    unfold Lib.bsGo
    by_cases h : lo < hi
    · rw [if_pos h]
      by_cases hm : (lo + hi) / 2 < k
      · rw [h1 _ hm, if_pos rfl]; exact bs_spec less n k h1 h2 f _ _ (by omega) (by omega) b c
      · rw [h2 _ (by omega) (by omega)]; exact bs_spec less n k h1 h2 f _ _ (by omega) a (by omega) (by omega)
    · rw [if_neg h]; omega

theorem words_sorted : words.Pairwise (fun a b => Op.bytesLess a b = true) := by decide

theorem sorted_get {l : List Bs} (h : l.Pairwise (fun a b => Op.bytesLess a b = true)) {i j : Nat} (hij : i < j) (hj : j < l.length) : Op.bytesLess (l[i]'(by omega)) l[j] = true :=
  (List.pairwise_iff_getElem.1 h) i j (by omega) hj hij

/-- Binary search in a rising list is membership. -/
theorem search_is (l : List Bs) (hl : l.Pairwise (fun a b => Op.bytesLess a b = true)) (x : Bs) :
    decide (Lib.bsGo (fun t => Op.bytesLess (l.getD t []) x) l.length 0 l.length < l.length ∧ l.getD (Lib.bsGo (fun t => Op.bytesLess (l.getD t []) x) l.length 0 l.length) [] = x) = l.contains x := by
  obtain ⟨k, hk⟩ : ∃ k, k = (l.takeWhile (fun a => Op.bytesLess a x)).length := ⟨_, rfl⟩
  have hkl : k ≤ l.length := by rw [hk]; exact (List.takeWhile_prefix _).length_le
  have h1 : ∀ t, t < k → Op.bytesLess (l.getD t []) x = true := by
    have : ∀ (l : List Bs) (t : Nat), t < (l.takeWhile (fun a => Op.bytesLess a x)).length → Op.bytesLess (l.getD t []) x = true := by
      intro l
      induction l with
      | nil => intro t h; simp at h
      | cons a l ih =>
        intro t h
        rw [List.takeWhile_cons] at h
        split at h
        · rename_i ha
          cases t with
          | zero => simpa using ha
          | succ t => simp at h; simpa using ih t h
        · simp at h
    intro t ht
    exact this l t (by rw [← hk]; exact ht)
  have hge : k < l.length → Op.bytesLess (l.getD k []) x = false := by
    intro h
    have : ∀ (l : List Bs) (k : Nat), k = (l.takeWhile (fun a => Op.bytesLess a x)).length → k < l.length → Op.bytesLess (l.getD k []) x = false := by
      intro l
      induction l with
      | nil => intro k _ h; simp at h
      | cons a l ih =>
        intro k hk h
        rw [List.takeWhile_cons] at hk
        split at hk
        · simp at hk; subst hk
          simp at h
          simpa using ih _ rfl h
        · rename_i ha
          simp at hk; subst hk; simpa using ha
    exact this l k hk h
  have h2 : ∀ t, k ≤ t → t < l.length → Op.bytesLess (l.getD t []) x = false := by
    intro t h3 h4
    by_cases e : t = k
    · subst e; exact hge h4
    · by_cases q : Op.bytesLess (l.getD t []) x = true
      · exfalso
        have h5 := sorted_get hl (i := k) (j := t) (by omega) h4
        have e1 : l.getD t [] = l[t] := by rw [List.getD_eq_getElem?_getD, List.getElem?_eq_getElem h4]; rfl
        have e2 : l.getD k [] = l[k]'(by omega) := by rw [List.getD_eq_getElem?_getD, List.getElem?_eq_getElem (by omega)]; rfl
        have h6 := less_trans h5 (by rw [← e1]; exact q)
        have h7 := hge (by omega)
        rw [e2, h6] at h7; cases h7
      · simpa using q
  rw [bs_spec _ l.length k h1 h2 l.length 0 l.length (by omega) (by omega) hkl (Nat.le_refl _)]
  rw [Bool.eq_iff_iff, decide_eq_true_eq, List.contains_iff_mem]
  constructor
  · rintro ⟨h3, h4⟩
    rw [List.getD_eq_getElem?_getD, List.getElem?_eq_getElem h3] at h4
    rw [← h4]; exact List.getElem_mem _
  · intro hm
    obtain ⟨j, hj, e⟩ := List.getElem_of_mem hm
    have ej : l.getD j [] = x := by rw [List.getD_eq_getElem?_getD, List.getElem?_eq_getElem hj]; exact e
    have e1 : ¬ j < k := by
      intro h
      have := h1 j h
      rw [ej, less_irrefl] at this; cases this
    have e2 : ¬ k < j := by
      intro h
      have h5 := sorted_get hl h hj
      rw [e] at h5
      have h7 := hge (by omega)
      rw [List.getD_eq_getElem?_getD, List.getElem?_eq_getElem (by omega)] at h7
      simp at h7
      rw [h5] at h7; cases h7
    have : j = k := by omega
    subst this
    exact ⟨hj, ej⟩

theorem all_takeWhile {p : UInt8 → Bool} : ∀ {l : Bs}, l.takeWhile p = l → l.all p = true
  | [], _ => rfl
  | c :: l, h => by
    rw [List.takeWhile_cons] at h
    split at h
    · rename_i hc
      have h2 : l.takeWhile p = l := by injection h
      simp [hc]; simpa using all_takeWhile h2
    · cases h
theorem name_yes {t : Bs} (h1 : t ≠ []) (h2 : t.length ≤ 40) (h3 : t.takeWhile isPt = t) : isName t = (!isDig (t.headD 0) && !isWord t) := by
  unfold isName
  have e1 : t.isEmpty = false := by cases t with | nil => exact absurd rfl h1 | cons _ _ => rfl
  rw [e1, all_takeWhile h3]
  simp only [h2, decide_true, Bool.not_false, Bool.true_and]
theorem name_no {t : Bs} (h3 : t.takeWhile isPt ≠ t) : isName t = false := by
  unfold isName
  have : t.all isPt = false := by
    by_cases q : t.all isPt = true
    · exfalso
      apply h3
      have : ∀ l : Bs, l.all isPt = true → l.takeWhile isPt = l := by
        intro l
        induction l with
        | nil => intro _; rfl
        | cons c l ih =>
          intro h
          simp only [List.all_cons, Bool.and_eq_true] at h
          rw [List.takeWhile_cons, if_pos h.1, ih h.2]
      exact this t q
    · simpa using q
  rw [this]; simp

/-! ### numbers -/
theorem dig_nat {c : UInt8} (h : isDig c = true) : 48 ≤ c.toNat ∧ c.toNat ≤ 57 := by
  simp only [isDig, Bool.and_eq_true, decide_eq_true_eq, UInt8.le_iff_toNat_le] at h
  exact h

theorem uint_go : ∀ (l : Bs) (acc : Nat), l.all isDig = true → (acc + 1) * 10 ^ l.length ≤ 18446744073709551616 → Lib.parseUint10 acc l = .ok (l.foldl (fun n c => 10 * n + (c.toNat - 48)) acc)
  | [], acc, _, _ => rfl
  | c :: l, acc, h, hb => by
    simp only [List.all_cons, Bool.and_eq_true] at h
    have hc := dig_nat h.1
    have hp : 1 ≤ 10 ^ l.length := Nat.one_le_pow _ _ (by omega)
    rw [List.length_cons, Nat.pow_succ] at hb
    have hb2 : (acc + 1) * 10 * 10 ^ l.length ≤ 18446744073709551616 := by rw [Nat.mul_assoc, Nat.mul_comm 10]; exact hb
    have hb3 : (acc + 1) * 10 ≤ 18446744073709551616 := Nat.le_trans (Nat.le_mul_of_pos_right _ hp) hb2
    have e : acc * 10 + (c.toNat - 48) = 10 * acc + (c.toNat - 48) := by omega
    simp only [Lib.parseUint10, hc.1, hc.2, and_self, if_true]
    rw [if_neg (by omega), if_neg (by omega), e]
    exact uint_go l _ h.2 (Nat.le_trans (Nat.mul_le_mul_right _ (by omega)) hb2)

theorem atoi_digits {d : Bs} (hd : d.all isDig = true) (hn : d ≠ []) (hl : d.length ≤ 10) : Lib.atoiAll d = .ok (val d : Int) := by
  cases d with
  | nil => exact absurd rfl hn
  | cons c r =>
    have h1 := hd
    simp only [List.all_cons, Bool.and_eq_true] at h1
    have hc := dig_nat h1.1
    have hp : 10 ^ (c :: r).length ≤ 10 ^ 10 := Nat.pow_le_pow_right (by omega) hl
    have hu := uint_go (c :: r) 0 hd (by omega)
    have hv : ∀ (l : Bs) (acc : Nat), l.all isDig = true → l.foldl (fun n c => 10 * n + (c.toNat - 48)) acc < (acc + 1) * 10 ^ l.length := by
      intro l
      induction l with
      | nil => intro acc _; simp
      | cons c l ih =>
        intro acc h
        simp only [List.all_cons, Bool.and_eq_true] at h
        have hc := dig_nat h.1
        have := ih (10 * acc + (c.toNat - 48)) h.2
        rw [List.foldl_cons, List.length_cons, Nat.pow_succ]
        refine Nat.lt_of_lt_of_le this ?_
        have e : (acc + 1) * (10 ^ l.length * 10) = (acc + 1) * 10 * 10 ^ l.length := by rw [Nat.mul_comm (10 ^ _), ← Nat.mul_assoc]
        rw [e]
        exact Nat.mul_le_mul_right _ (by omega)
    have hv2 := hv (c :: r) 0 hd
    rw [Lib.atoiAll_plain c r (by omega) (by omega)]
    have e : Lib.parseMag (c :: r) = .ok (val (c :: r)) := by unfold Lib.parseMag; rw [if_neg (by simp), hu]; rfl
    rw [e]
    unfold Lib.signless
    have : val (c :: r) < 9223372036854775808 := by show List.foldl _ _ _ < _; omega
    simp only
    first
      | rw [if_neg (by omega)]
      | simp [this]

/-! ### the first that fits -/
theorem idx_find {α : Type} (p : α → Bool) (d : α) : ∀ (l : List α) (i : Nat), (Lib.idxByFrom (fun _ y => p y) d l i = -1 ∧ l.find? p = none) ∨ ∃ k x, l[k]? = some x ∧ Lib.idxByFrom (fun _ y => p y) d l i = ((i + k : Nat) : Int) ∧ l.find? p = some x
  | [], _ => Or.inl ⟨rfl, rfl⟩
  | y :: r, i => by
    unfold Lib.idxByFrom
    by_cases h : p y = true
    · exact Or.inr ⟨0, y, rfl, by rw [if_pos h]; rfl, by rw [List.find?_cons, h]⟩
    · rw [if_neg h]
      have hf : p y = false := by simpa using h
      rcases idx_find p d r (i + 1) with ⟨h1, h2⟩ | ⟨k, x, h1, h2, h3⟩
      · exact Or.inl ⟨h1, by rw [List.find?_cons, hf]; exact h2⟩
      · exact Or.inr ⟨k + 1, x, h1, by rw [h2]; congr 1; omega, by rw [List.find?_cons, hf]; exact h3⟩

/-! ### the end of a line -/
theorem index_line : ∀ (l : Bs), Lib.indexByte l 10 = if (10 : UInt8) ∈ l then ((l.takeWhile (· != 10)).length : Int) else -1
  | [] => rfl
  | c :: l => by
    have ih := index_line l
    unfold Lib.indexByte
    by_cases hc : c = 10
    · subst hc; simp
    · have h1 : (c == 10) = false := by simpa using hc
      have h2 : (c != 10) = true := by simpa using hc
      rw [h1]
      simp only [List.takeWhile_cons, h2, if_true, List.length_cons, ih, Bool.false_eq_true, if_false]
      by_cases hm : (10 : UInt8) ∈ l
      · have : (10 : UInt8) ∈ c :: l := by simp [hm]
        rw [if_pos hm, if_pos this]
        simp <;> omega
      · have : (10 : UInt8) ∉ c :: l := by simp [hm, Ne.symm hc]
        rw [if_neg hm, if_neg this]; rfl

theorem cut_line (l : Bs) : (Lib.cut l [10]).2.1 = afterLine l := by
  unfold Lib.cut
  rw [Lib.index_one, index_line]
  have key : ∀ l : Bs, (10 : UInt8) ∈ l → l.dropWhile (· != 10) = l.drop (l.takeWhile (· != 10)).length := by
    intro l
    induction l with
    | nil => intro h; simp at h
    | cons c l ih =>
      intro h
      by_cases hc : c = 10
      · subst hc; simp
      · have h2 : (c != 10) = true := by simpa using hc
        simp only [List.dropWhile_cons, List.takeWhile_cons, h2, if_true, List.length_cons, List.drop_succ_cons]
        exact ih (by simpa [Ne.symm hc] using h)
  by_cases hm : (10 : UInt8) ∈ l
  · rw [if_pos hm, if_pos (by omega)]
    unfold afterLine
    rw [key l hm, List.drop_drop]
    simp
  · rw [if_neg hm, if_neg (by omega)]
    have : l.dropWhile (· != 10) = [] := by
      have : ∀ l : Bs, (10 : UInt8) ∉ l → l.dropWhile (· != 10) = [] := by
        intro l
        induction l with
        | nil => intro _; rfl
        | cons c l ih =>
          intro h
          have hc : c ≠ 10 := by rintro rfl; simp at h
          have h2 : (c != 10) = true := by simpa using hc
          rw [List.dropWhile_cons, if_pos h2]
          exact ih (by simp at h; exact h.2)
      exact this l hm
    unfold afterLine
    rw [this]; rfl
end Go.Proofs.YthnofhobhkcpfaaDoor.Lx
