/- Tokens: the shelf's words, and the lexer's. DERIVED: THE SHELF's CONTRACTS AT THIS DUMP, IN PLAIN WORDS (tools/lay-plain.mjs out of 'TryzShelf.lean', which tools/lay-shelf.mjs wrote): THE SAME DECLARATIONS UNDER THE SAME NAMES: 'import', 'namespace', 'open', 'def', 'theorem' AND NOTHING ELSE: no command of the shelf's: FOR A HAND-IN. Each laying: the table of numbers ('.._ren') and one theorem, a field a fact of the dump's own or the kernel's comparison; each contract: ONE APPLICATION. Tokens in memory; the small functions of the lexer. The token that a text begins with: the walk of the lexer's first. -/
import Derived.Lib.AtoiAll
import Derived.Lib.AtoiAllCases
import Derived.Shelf.Spec.SearchS
import Derived.Shelf.GgClosure.StringsIndexFunc
import Derived.Lib.SlBy
import Derived.Lib.SlTrimSet
import Derived.Lib.CutLaws
import Derived.Lib.IndexLaws
import Derived.Lib.IndexBytes
import Derived.Shelf.Strings.SlTrimAscii
import Derived.Shelf.Small.Utf8
import Derived.Shelf.Small.Strs
import Derived.Shelf.Strconv.Atoi
import Derived.Shelf.Strconv.Itoa0
import Derived.Shelf.Strconv.Itoa1
import Derived.Shelf.LaysM
import Derived.Shelf.Strconv.Itoa2
import Derived.Shelf.Strconv.Itoa3
import Derived.Shelf.Strconv.AtoiErrFast
import Derived.Shelf.Strconv.ParseIntEmpty
import Derived.Shelf.Strconv.AtoiFail
import Derived.Shelf.Strconv.Clone
import Derived.Shelf.Strconv.SyntaxError
import Derived.Shelf.LaysC
import Derived.Shelf.Strconv.ToError
import Derived.Shelf.Strconv.AtoiErr
import Derived.Shelf.Strconv.ErrVar
import Derived.Shelf.Strconv.Lower
import Derived.Shelf.Strconv.ParseUint10
import Derived.Shelf.Strconv.ParseUint10Empty
import Derived.Shelf.Strconv.ParseUint10Any
import Derived.Shelf.Strconv.ParseInt10
import Derived.Shelf.Strconv.AtoiLong
import Derived.Shelf.Strconv.AtoiInnerAll
import Derived.Shelf.Strconv.RangeError
import Derived.Shelf.Strconv.ToErrorRange
import Derived.Shelf.Strconv.AtoiAll
import Derived.Shelf.Strconv.ErrVarAll
import Derived.Shelf.Strconv.ParseUintEmpty
import Derived.Shelf.Strconv.ParseUint10b64
import Derived.Shelf.Strconv.ParseUint10b32
import Derived.Shelf.Strconv.ParseUint10b16
import Derived.Shelf.Strings.Search1
import Derived.Shelf.Strings.Search2
import Derived.Shelf.Strings.Cut
import Derived.Shelf.Strings.Shaped
import Derived.Ground.GgwProg
import Derived.Shelf.GgClosure.StringsIndexFuncTop
import Derived.Shelf.Strings.Prefix
import Derived.Shelf.Strings.Runes
import Derived.Shelf.Strings.AsciiSet
import Derived.Shelf.Unicode.DecodeSlow
import Derived.Ground.SlgfProg
import Derived.Shelf.SlicesE.IndexFunc
import Derived.Test.YtahalimekacliaaGreatDoorProg
import Derived.WalkKit
import Derived.WalkSpells
import Derived.WalkLawsBesides
import Derived.Outline
import Derived.Deep.QuietTactic
import Derived.BigQuiet
import Derived.Test.YtahalimekacliaaGreatDoorJ1
set_option linter.unusedVariables false
set_option linter.unusedSimpArgs false
namespace Go.Proofs.YtahalimekacliaaGreatDoor.Lx
theorem decode_low (s : ByteArray) (i : Nat) (h : (s.get! i).toNat < 128) : Utf8.decode s i = ((s.get! i).toNat, 1) := by
  unfold Utf8.decode
  simp only [Nat.add_zero]
  rw [if_pos h]
theorem decode_high (s : ByteArray) (i : Nat) (h : 128 ≤ (s.get! i).toNat) : 128 ≤ (Utf8.decode s i).1 := by
  unfold Utf8.decode Utf8.runeError
  simp only [Nat.add_zero]
  rw [if_neg (by omega)]
  repeat' split
  all_goals first | omega | (simp_all; omega)
theorem idx_row (p : Nat → Bool) (q : UInt8 → Bool) (hlow : ∀ c : UInt8, c.toNat < 128 → p c.toNat = q c) (hhigh : ∀ x, 128 ≤ x → p x = false) (hq : ∀ c : UInt8, 128 ≤ c.toNat → q c = false) (s : ByteArray) :
    Lib.idxFunc (fun x => !p x) true s = if (s.data.toList.takeWhile q).length = s.size then -1 else ((s.data.toList.takeWhile q).length : Int) := by
  have key : ∀ (f pos : Nat), s.size - pos ≤ f → pos ≤ s.size → Lib.idxFuncFrom (fun x => !p x) true s f pos = if pos + ((s.data.toList.drop pos).takeWhile q).length = s.size then -1 else ((pos + ((s.data.toList.drop pos).takeWhile q).length : Nat) : Int) := by
    intro f
    induction f with
    | zero =>
      intro pos h1 h2
      have : pos = s.size := by omega
      subst this
      have e : s.data.toList.drop s.size = [] := by rw [List.drop_eq_nil_iff]; simp
      rw [e]
      simp [Lib.idxFuncFrom]
    | succ f ih =>
      intro pos h1 h2
      unfold Lib.idxFuncFrom
      by_cases hp : pos < s.size
      · rw [if_pos hp]
        have hd : s.data.toList.drop pos = s.get! pos :: s.data.toList.drop (pos + 1) := by
          rw [List.drop_eq_getElem_cons (by simpa using hp)]
          congr 1
          have : s.data.size = s.size := rfl
          simp only [ByteArray.get!, Array.getElem_toList]
          rw [getElem!_pos s.data pos (by omega)]
        rw [hd]
        by_cases hl : (s.get! pos).toNat < 128
        · rw [decode_low s pos hl]
          simp only [hlow _ hl]
          by_cases hqq : q (s.get! pos) = true
          · simp only [hqq, Bool.not_true, Bool.false_eq_true, if_false, List.takeWhile_cons, if_true, List.length_cons]
            rw [ih (pos + 1) (by omega) (by omega)]
            have e : ∀ n : Nat, pos + 1 + n = pos + (n + 1) := fun n => by omega
            rw [e]
          · have hqf : q (s.get! pos) = false := by simpa using hqq
            simp only [hqf, Bool.not_false, if_true, List.takeWhile_cons, Bool.false_eq_true, if_false, List.length_nil, Nat.add_zero]
            rw [if_neg (by omega)]
        · have h3 := decode_high s pos (by omega)
          have hqf := hq (s.get! pos) (by omega)
          simp only [hhigh _ h3, Bool.not_false, if_true, List.takeWhile_cons, hqf, Bool.false_eq_true, if_false, List.length_nil, Nat.add_zero]
          rw [if_neg (by omega)]
      · have : pos = s.size := by omega
        subst this
        have e : s.data.toList.drop s.size = [] := by rw [List.drop_eq_nil_iff]; simp
        rw [if_neg hp, e]
        simp
  have := key s.size 0 (by omega) (by omega)
  simpa [Lib.idxFunc] using this
theorem less_irrefl : ∀ a : Bs, Op.bytesLess a a = false
  | [] => rfl
  | c :: a => by simp [Op.bytesLess, less_irrefl a]
theorem less_trans : ∀ {a b c : Bs}, Op.bytesLess a b = true → Op.bytesLess b c = true → Op.bytesLess a c = true
  | _, [], _, h, _ => by simp [Op.bytesLess] at h
  | _, _ :: _, [], _, h => by simp [Op.bytesLess] at h
  | [], _ :: _, _ :: _, _, _ => rfl
  | x :: a, y :: b, z :: c, h, k => by
    simp only [Op.bytesLess, Bool.or_eq_true, decide_eq_true_eq, Bool.and_eq_true, beq_iff_eq] at h k ⊢
    rcases h with h | ⟨rfl, h⟩
    · rcases k with k | ⟨rfl, k⟩
      · exact Or.inl (UInt8.lt_trans h k)
      · exact Or.inl h
    · rcases k with k | ⟨rfl, k⟩
      · exact Or.inl k
      · exact Or.inr ⟨rfl, less_trans h k⟩
theorem bs_spec (less : Nat → Bool) (n k : Nat) (h1 : ∀ t, t < k → less t = true) (h2 : ∀ t, k ≤ t → t < n → less t = false) : ∀ (f lo hi : Nat), hi - lo ≤ f → lo ≤ k → k ≤ hi → hi ≤ n → Lib.bsGo less f lo hi = k
  | 0, lo, hi, hf, a, b, _ => by simp [Lib.bsGo]; omega
  | f + 1, lo, hi, hf, a, b, c => by
    unfold Lib.bsGo
    by_cases h : lo < hi
    · rw [if_pos h]
      by_cases hm : (lo + hi) / 2 < k
      · rw [h1 _ hm, if_pos rfl]; exact bs_spec less n k h1 h2 f _ _ (by omega) (by omega) b c
      · rw [h2 _ (by omega) (by omega)]; exact bs_spec less n k h1 h2 f _ _ (by omega) a (by omega) (by omega)
    · rw [if_neg h]; omega
theorem words_sorted : words.Pairwise (fun a b => Op.bytesLess a b = true) := by decide
theorem sorted_get {l : List Bs} (h : l.Pairwise (fun a b => Op.bytesLess a b = true)) {i j : Nat} (hij : i < j) (hj : j < l.length) : Op.bytesLess (l[i]'(by omega)) l[j] = true :=
  (List.pairwise_iff_getElem.1 h) i j (by omega) hj hij
theorem search_is (l : List Bs) (hl : l.Pairwise (fun a b => Op.bytesLess a b = true)) (x : Bs) :
    decide (Lib.bsGo (fun t => Op.bytesLess (l.getD t []) x) l.length 0 l.length < l.length ∧ l.getD (Lib.bsGo (fun t => Op.bytesLess (l.getD t []) x) l.length 0 l.length) [] = x) = l.contains x := by
  obtain ⟨k, hk⟩ : ∃ k, k = (l.takeWhile (fun a => Op.bytesLess a x)).length := ⟨_, rfl⟩
  have hkl : k ≤ l.length := by rw [hk]; exact (List.takeWhile_prefix _).length_le
  have h1 : ∀ t, t < k → Op.bytesLess (l.getD t []) x = true := by
    have : ∀ (l : List Bs) (t : Nat), t < (l.takeWhile (fun a => Op.bytesLess a x)).length → Op.bytesLess (l.getD t []) x = true := by
      intro l
      induction l with
      | nil => intro t h; simp at h
      | cons a l ih =>
        intro t h
        rw [List.takeWhile_cons] at h
        split at h
        · rename_i ha
          cases t with
          | zero => simpa using ha
          | succ t => simp at h; simpa using ih t h
        · simp at h
    intro t ht
    exact this l t (by rw [← hk]; exact ht)
  have hge : k < l.length → Op.bytesLess (l.getD k []) x = false := by
    intro h
    have : ∀ (l : List Bs) (k : Nat), k = (l.takeWhile (fun a => Op.bytesLess a x)).length → k < l.length → Op.bytesLess (l.getD k []) x = false := by
      intro l
      induction l with
      | nil => intro k _ h; simp at h
      | cons a l ih =>
        intro k hk h
        rw [List.takeWhile_cons] at hk
        split at hk
        · simp at hk; subst hk
          simp at h
          simpa using ih _ rfl h
        · rename_i ha
          simp at hk; subst hk; simpa using ha
    exact this l k hk h
  have h2 : ∀ t, k ≤ t → t < l.length → Op.bytesLess (l.getD t []) x = false := by
    intro t h3 h4
    by_cases e : t = k
    · subst e; exact hge h4
    · by_cases q : Op.bytesLess (l.getD t []) x = true
      · exfalso
        have h5 := sorted_get hl (i := k) (j := t) (by omega) h4
        have e1 : l.getD t [] = l[t] := by rw [List.getD_eq_getElem?_getD, List.getElem?_eq_getElem h4]; rfl
        have e2 : l.getD k [] = l[k]'(by omega) := by rw [List.getD_eq_getElem?_getD, List.getElem?_eq_getElem (by omega)]; rfl
        have h6 := less_trans h5 (by rw [← e1]; exact q)
        have h7 := hge (by omega)
        rw [e2, h6] at h7; cases h7
      · simpa using q
  rw [bs_spec _ l.length k h1 h2 l.length 0 l.length (by omega) (by omega) hkl (Nat.le_refl _)]
  rw [Bool.eq_iff_iff, decide_eq_true_eq, List.contains_iff_mem]
  constructor
  · rintro ⟨h3, h4⟩
    rw [List.getD_eq_getElem?_getD, List.getElem?_eq_getElem h3] at h4
    rw [← h4]; exact List.getElem_mem _
  · intro hm
    obtain ⟨j, hj, e⟩ := List.getElem_of_mem hm
    have ej : l.getD j [] = x := by rw [List.getD_eq_getElem?_getD, List.getElem?_eq_getElem hj]; exact e
    have e1 : ¬ j < k := by
      intro h
      have := h1 j h
      rw [ej, less_irrefl] at this; cases this
    have e2 : ¬ k < j := by
      intro h
      have h5 := sorted_get hl h hj
      rw [e] at h5
      have h7 := hge (by omega)
      rw [List.getD_eq_getElem?_getD, List.getElem?_eq_getElem (by omega)] at h7
      simp at h7
      rw [h5] at h7; cases h7
    have : j = k := by omega
    subst this
    exact ⟨hj, ej⟩
theorem all_takeWhile {p : UInt8 → Bool} : ∀ {l : Bs}, l.takeWhile p = l → l.all p = true
  | [], _ => rfl
  | c :: l, h => by
    rw [List.takeWhile_cons] at h
    split at h
    · rename_i hc
      have h2 : l.takeWhile p = l := by injection h
      simp [hc]; simpa using all_takeWhile h2
    · cases h
theorem name_yes {t : Bs} (h1 : t ≠ []) (h2 : t.length ≤ 40) (h3 : t.takeWhile isPt = t) : isName t = (!isDig (t.headD 0) && !isWord t) := by
  unfold isName
  have e1 : t.isEmpty = false := by cases t with | nil => exact absurd rfl h1 | cons _ _ => rfl
  rw [e1, all_takeWhile h3]
  simp only [h2, decide_true, Bool.not_false, Bool.true_and]
theorem name_no {t : Bs} (h3 : t.takeWhile isPt ≠ t) : isName t = false := by
  unfold isName
  have : t.all isPt = false := by
    by_cases q : t.all isPt = true
    · exfalso
      apply h3
      have : ∀ l : Bs, l.all isPt = true → l.takeWhile isPt = l := by
        intro l
        induction l with
        | nil => intro _; rfl
        | cons c l ih =>
          intro h
          simp only [List.all_cons, Bool.and_eq_true] at h
          rw [List.takeWhile_cons, if_pos h.1, ih h.2]
      exact this t q
    · simpa using q
  rw [this]; simp
theorem uint_go : ∀ (l : Bs) (acc : Nat), l.all isDig = true → (acc + 1) * 10 ^ l.length ≤ 18446744073709551616 → Lib.parseUint10 acc l = .ok (l.foldl (fun n c => 10 * n + (c.toNat - 48)) acc)
  | [], acc, _, _ => rfl
  | c :: l, acc, h, hb => by
    simp only [List.all_cons, Bool.and_eq_true] at h
    have hc := dig_nat h.1
    have hp : 1 ≤ 10 ^ l.length := Nat.one_le_pow _ _ (by omega)
    rw [List.length_cons, Nat.pow_succ] at hb
    have hb2 : (acc + 1) * 10 * 10 ^ l.length ≤ 18446744073709551616 := by rw [Nat.mul_assoc, Nat.mul_comm 10]; exact hb
    have hb3 : (acc + 1) * 10 ≤ 18446744073709551616 := Nat.le_trans (Nat.le_mul_of_pos_right _ hp) hb2
    have e : acc * 10 + (c.toNat - 48) = 10 * acc + (c.toNat - 48) := by omega
    simp only [Lib.parseUint10, hc.1, hc.2, and_self, if_true]
    rw [if_neg (by omega), if_neg (by omega), e]
    exact uint_go l _ h.2 (Nat.le_trans (Nat.mul_le_mul_right _ (by omega)) hb2)
theorem atoi_digits {d : Bs} (hd : d.all isDig = true) (hn : d ≠ []) (hl : d.length ≤ 10) : Lib.atoiAll d = .ok (val d : Int) := by
  cases d with
  | nil => exact absurd rfl hn
  | cons c r =>
    have h1 := hd
    simp only [List.all_cons, Bool.and_eq_true] at h1
    have hc := dig_nat h1.1
    have hp : 10 ^ (c :: r).length ≤ 10 ^ 10 := Nat.pow_le_pow_right (by omega) hl
    have hu := uint_go (c :: r) 0 hd (by omega)
    have hv : ∀ (l : Bs) (acc : Nat), l.all isDig = true → l.foldl (fun n c => 10 * n + (c.toNat - 48)) acc < (acc + 1) * 10 ^ l.length := by
      intro l
      induction l with
      | nil => intro acc _; simp
      | cons c l ih =>
        intro acc h
        simp only [List.all_cons, Bool.and_eq_true] at h
        have hc := dig_nat h.1
        have := ih (10 * acc + (c.toNat - 48)) h.2
        rw [List.foldl_cons, List.length_cons, Nat.pow_succ]
        refine Nat.lt_of_lt_of_le this ?_
        have e : (acc + 1) * (10 ^ l.length * 10) = (acc + 1) * 10 * 10 ^ l.length := by rw [Nat.mul_comm (10 ^ _), ← Nat.mul_assoc]
        rw [e]
        exact Nat.mul_le_mul_right _ (by omega)
    have hv2 := hv (c :: r) 0 hd
    rw [Lib.atoiAll_plain c r (by omega) (by omega)]
    have e : Lib.parseMag (c :: r) = .ok (val (c :: r)) := by unfold Lib.parseMag; rw [if_neg (by simp), hu]; rfl
    rw [e]
    unfold Lib.signless
    have : val (c :: r) < 9223372036854775808 := by show List.foldl _ _ _ < _; omega
    simp only
    first
      | rw [if_neg (by omega)]
      | simp [this]
theorem idx_find {α : Type} (p : α → Bool) (d : α) : ∀ (l : List α) (i : Nat), (Lib.idxByFrom (fun _ y => p y) d l i = -1 ∧ l.find? p = none) ∨ ∃ k x, l[k]? = some x ∧ Lib.idxByFrom (fun _ y => p y) d l i = ((i + k : Nat) : Int) ∧ l.find? p = some x
  | [], _ => Or.inl ⟨rfl, rfl⟩
  | y :: r, i => by
    unfold Lib.idxByFrom
    by_cases h : p y = true
    · exact Or.inr ⟨0, y, rfl, by rw [if_pos h]; rfl, by rw [List.find?_cons, h]⟩
    · rw [if_neg h]
      have hf : p y = false := by simpa using h
      rcases idx_find p d r (i + 1) with ⟨h1, h2⟩ | ⟨k, x, h1, h2, h3⟩
      · exact Or.inl ⟨h1, by rw [List.find?_cons, hf]; exact h2⟩
      · exact Or.inr ⟨k + 1, x, h1, by rw [h2]; congr 1; omega, by rw [List.find?_cons, hf]; exact h3⟩
theorem index_line : ∀ (l : Bs), Lib.indexByte l 10 = if (10 : UInt8) ∈ l then ((l.takeWhile (· != 10)).length : Int) else -1
  | [] => rfl
  | c :: l => by
    have ih := index_line l
    unfold Lib.indexByte
    by_cases hc : c = 10
    · subst hc; simp
    · have h1 : (c == 10) = false := by simpa using hc
      have h2 : (c != 10) = true := by simpa using hc
      rw [h1]
      simp only [List.takeWhile_cons, h2, if_true, List.length_cons, ih, Bool.false_eq_true, if_false]
      by_cases hm : (10 : UInt8) ∈ l
      · have : (10 : UInt8) ∈ c :: l := by simp [hm]
        rw [if_pos hm, if_pos this]
        simp <;> omega
      · have : (10 : UInt8) ∉ c :: l := by simp [hm, Ne.symm hc]
        rw [if_neg hm, if_neg this]; rfl
theorem cut_line (l : Bs) : (Lib.cut l [10]).2.1 = afterLine l := by
  unfold Lib.cut
  rw [Lib.index_one, index_line]
  have key : ∀ l : Bs, (10 : UInt8) ∈ l → l.dropWhile (· != 10) = l.drop (l.takeWhile (· != 10)).length := by
    intro l
    induction l with
    | nil => intro h; simp at h
    | cons c l ih =>
      intro h
      by_cases hc : c = 10
      · subst hc; simp
      · have h2 : (c != 10) = true := by simpa using hc
        simp only [List.dropWhile_cons, List.takeWhile_cons, h2, if_true, List.length_cons, List.drop_succ_cons]
        exact ih (by simpa [Ne.symm hc] using h)
  by_cases hm : (10 : UInt8) ∈ l
  · rw [if_pos hm, if_pos (by omega)]
    unfold afterLine
    rw [key l hm, List.drop_drop]
    simp
  · rw [if_neg hm, if_neg (by omega)]
    have : l.dropWhile (· != 10) = [] := by
      have : ∀ l : Bs, (10 : UInt8) ∉ l → l.dropWhile (· != 10) = [] := by
        intro l
        induction l with
        | nil => intro _; rfl
        | cons c l ih =>
          intro h
          have hc : c ≠ 10 := by rintro rfl; simp at h
          have h2 : (c != 10) = true := by simpa using hc
          rw [List.dropWhile_cons, if_pos h2]
          exact ih (by simp at h; exact h.2)
      exact this l hm
    unfold afterLine
    rw [this]; rfl
end Go.Proofs.YtahalimekacliaaGreatDoor.Lx
namespace Go.Proofs
open Go.Shelf
def Tryz.laysC172_ren : Go.Shelf.Ren := ⟨fun | 172 => 57 | 244 => 79 | 245 => 80 | 247 => 92 | 279 => 93 | 280 => 94 | 281 => 95 | 282 => 96 | 287 => 111 | 316 => 112 | 171 => 114 | 205 => 113 | 321 => 118 | 322 => 119 | 243 => 120 | 246 => 125 | 283 => 133 | 284 => 134 | 285 => 135 | 286 => 136 | 129 => 140 | 317 => 139 | 318 => 141 | 319 => 142 | 320 => 143 | 337 => 144 | 338 => 145 | n => n, fun | 9 => 9 | 3 => 3 | 75 => 98 | 76 => 99 | 4 => 4 | 5 => 5 | 167 => 124 | 37 => 125 | 0 => 0 | 85 => 126 | 2 => 2 | 168 => 128 | 53 => 146 | 175 => 147 | 46 => 122 | 210 => 150 | 127 => 158 | 145 => 161 | 143 => 159 | 21 => 21 | 171 => 169 | 173 => 172 | 212 => 177 | 51 => 143 | 20 => 20 | 213 => 178 | 232 => 184 | 233 => 185 | 80 => 61 | n => n, fun | 15 => 5 | 16 => 6 | 17 => 7 | 18 => 8 | 19 => 9 | n => n⟩
theorem Tryz.laysC172 : Go.Proofs.LaysC.n172 Tryz.prog Tryz.laysC172_ren := {
  mixed := by kernel_rfl
  f129 := Tryz.func140.trans (congrArg some (by kernel_rfl))
  f171 := Tryz.func114.trans (congrArg some (by kernel_rfl))
  f172 := Tryz.func57.trans (congrArg some (by kernel_rfl))
  f205 := Tryz.func113.trans (congrArg some (by kernel_rfl))
  f243 := Tryz.func120.trans (congrArg some (by kernel_rfl))
  f244 := Tryz.func79.trans (congrArg some (by kernel_rfl))
  f245 := Tryz.func80.trans (congrArg some (by kernel_rfl))
  f246 := Tryz.func125.trans (congrArg some (by kernel_rfl))
  f247 := Tryz.func92.trans (congrArg some (by kernel_rfl))
  f279 := Tryz.func93.trans (congrArg some (by kernel_rfl))
  f280 := Tryz.func94.trans (congrArg some (by kernel_rfl))
  f281 := Tryz.func95.trans (congrArg some (by kernel_rfl))
  f282 := Tryz.func96.trans (congrArg some (by kernel_rfl))
  f283 := Tryz.func133.trans (congrArg some (by kernel_rfl))
  f284 := Tryz.func134.trans (congrArg some (by kernel_rfl))
  f285 := Tryz.func135.trans (congrArg some (by kernel_rfl))
  f286 := Tryz.func136.trans (congrArg some (by kernel_rfl))
  f287 := Tryz.func111.trans (congrArg some (by kernel_rfl))
  f316 := Tryz.func112.trans (congrArg some (by kernel_rfl))
  f317 := Tryz.func139.trans (congrArg some (by kernel_rfl))
  f318 := Tryz.func141.trans (congrArg some (by kernel_rfl))
  f319 := Tryz.func142.trans (congrArg some (by kernel_rfl))
  f320 := Tryz.func143.trans (congrArg some (by kernel_rfl))
  f321 := Tryz.func118.trans (congrArg some (by kernel_rfl))
  f322 := Tryz.func119.trans (congrArg some (by kernel_rfl))
  f337 := Tryz.func144.trans (congrArg some (by kernel_rfl))
  f338 := Tryz.func145.trans (congrArg some (by kernel_rfl))
  t0 := Tryz.underlying0
  a0 := Tryz.isAgg0
  z0 := Tryz.sizeOf0
  v0 := Tryz.zeroValue0
  t2 := Tryz.underlying2
  a2 := Tryz.isAgg2
  z2 := Tryz.sizeOf2
  v2 := Tryz.zeroValue2
  t3 := Tryz.underlying3
  a3 := Tryz.isAgg3
  z3 := Tryz.sizeOf3
  v3 := Tryz.zeroValue3
  t4 := Tryz.underlying4
  a4 := Tryz.isAgg4
  z4 := Tryz.sizeOf4
  v4 := Tryz.zeroValue4
  t5 := Tryz.underlying5
  a5 := Tryz.isAgg5
  z5 := Tryz.sizeOf5
  v5 := Tryz.zeroValue5
  t9 := Tryz.underlying9
  a9 := Tryz.isAgg9
  z9 := Tryz.sizeOf9
  v9 := Tryz.zeroValue9
  t20 := Tryz.underlying20
  a20 := Tryz.isAgg20
  z20 := Tryz.sizeOf20
  v20 := Tryz.zeroValue20
  t21 := Tryz.underlying21
  a21 := Tryz.isAgg21
  z21 := Tryz.sizeOf21
  v21 := Tryz.zeroValue21
  t37 := Tryz.underlying125
  a37 := Tryz.isAgg125
  z37 := Tryz.sizeOf125
  v37 := Tryz.zeroValue125
  t46 := Tryz.underlying122
  a46 := Tryz.isAgg122
  z46 := Tryz.sizeOf122
  v46 := Tryz.zeroValue122
  t51 := Tryz.underlying143
  a51 := Tryz.isAgg143
  z51 := Tryz.sizeOf143
  v51 := Tryz.zeroValue143
  t53 := Tryz.underlying146
  a53 := Tryz.isAgg146
  z53 := Tryz.sizeOf146
  v53 := Tryz.zeroValue146
  t75 := Tryz.underlying98
  a75 := Tryz.isAgg98
  z75 := Tryz.sizeOf98
  v75 := Tryz.zeroValue98
  t76 := Tryz.underlying99
  a76 := Tryz.isAgg99
  z76 := Tryz.sizeOf99
  v76 := Tryz.zeroValue99
  t85 := Tryz.underlying126
  a85 := Tryz.isAgg126
  z85 := Tryz.sizeOf126
  v85 := Tryz.zeroValue126
  t127 := Tryz.underlying158
  a127 := Tryz.isAgg158
  z127 := Tryz.sizeOf158
  v127 := Tryz.zeroValue158
  t143 := Tryz.underlying159
  a143 := Tryz.isAgg159
  z143 := Tryz.sizeOf159
  v143 := Tryz.zeroValue159
  t145 := Tryz.underlying161
  a145 := Tryz.isAgg161
  z145 := Tryz.sizeOf161
  v145 := Tryz.zeroValue161
  t167 := Tryz.underlying124
  a167 := Tryz.isAgg124
  z167 := Tryz.sizeOf124
  v167 := Tryz.zeroValue124
  t168 := Tryz.underlying128
  a168 := Tryz.isAgg128
  z168 := Tryz.sizeOf128
  v168 := Tryz.zeroValue128
  t171 := Tryz.underlying169
  a171 := Tryz.isAgg169
  z171 := Tryz.sizeOf169
  v171 := Tryz.zeroValue169
  t173 := Tryz.underlying172
  a173 := Tryz.isAgg172
  z173 := Tryz.sizeOf172
  v173 := Tryz.zeroValue172
  t175 := Tryz.underlying147
  a175 := Tryz.isAgg147
  z175 := Tryz.sizeOf147
  v175 := Tryz.zeroValue147
  t210 := Tryz.underlying150
  a210 := Tryz.isAgg150
  z210 := Tryz.sizeOf150
  v210 := Tryz.zeroValue150
  t212 := Tryz.underlying177
  a212 := Tryz.isAgg177
  z212 := Tryz.sizeOf177
  v212 := Tryz.zeroValue177
  t213 := Tryz.underlying178
  a213 := Tryz.isAgg178
  z213 := Tryz.sizeOf178
  t232 := Tryz.underlying184
  a232 := Tryz.isAgg184
  z232 := Tryz.sizeOf184
  v232 := Tryz.zeroValue184
  t233 := Tryz.underlying185
  a233 := Tryz.isAgg185
  z233 := Tryz.sizeOf185
  v233 := Tryz.zeroValue185
  g15 := by kernel_rfl
  g16 := by kernel_rfl
  g17 := by kernel_rfl
  g18 := by kernel_rfl
  g19 := by kernel_rfl
  t80 := Tryz.underlying61
  a80 := Tryz.isAgg61
  z80 := Tryz.sizeOf61
  v80 := Tryz.zeroValue61
  i0 := by kernel_rfl
  i2 := by kernel_rfl
  i3 := by kernel_rfl
  i4 := by kernel_rfl
  i5 := by kernel_rfl
  i9 := by kernel_rfl
  i20 := by kernel_rfl
  i21 := by kernel_rfl
  i37 := by kernel_rfl
  i46 := by kernel_rfl
  i51 := by kernel_rfl
  i53 := by kernel_rfl
  i75 := by kernel_rfl
  i76 := by kernel_rfl
  i80 := by kernel_rfl
  i85 := by kernel_rfl
  i127 := by kernel_rfl
  i143 := by kernel_rfl
  i145 := by kernel_rfl
  i167 := by kernel_rfl
  i168 := by kernel_rfl
  i171 := by kernel_rfl
  i173 := by kernel_rfl
  i175 := by kernel_rfl
  i210 := by kernel_rfl
  i212 := by kernel_rfl
  i232 := by kernel_rfl
  i233 := by kernel_rfl
  m15 := by kernel_rfl
  m16 := by kernel_rfl
  m17 := by kernel_rfl
  m18 := by kernel_rfl
  m19 := by kernel_rfl
  c0 := by kernel_rfl
  c2 := by kernel_rfl
  c3 := by kernel_rfl
  c4 := by kernel_rfl
  c5 := by kernel_rfl
  c9 := by kernel_rfl
  c20 := by kernel_rfl
  c21 := by kernel_rfl
  c37 := by kernel_rfl
  c46 := by kernel_rfl
  c51 := by kernel_rfl
  c53 := by kernel_rfl
  c75 := by kernel_rfl
  c76 := by kernel_rfl
  c80 := by kernel_rfl
  c85 := by kernel_rfl
  c127 := by kernel_rfl
  c143 := by kernel_rfl
  c145 := by kernel_rfl
  c167 := by kernel_rfl
  c168 := by kernel_rfl
  c171 := by kernel_rfl
  c173 := by kernel_rfl
  c175 := by kernel_rfl
  c210 := by kernel_rfl
  c212 := by kernel_rfl
  c213 := by kernel_rfl
  c232 := by kernel_rfl
  c233 := by kernel_rfl }
open Go.RowKit in
theorem Tryz.strconv_Atoi_ok (s : ByteArray) (hmax : s.size ≤ 9223372036854775806) (v : Int) (h : Lib.atoiAll s.data.toList = .ok v) (w : World) :
    Calls Tryz.prog 57 #[.string s] w fun e w' => e = .returned (.tuple #[.int .i64 v, .nilIface]) ∧ (w' = w ∨ ∃ t, w' = Lib.bytesWorld w 5 t) := Any.strconv_Atoi_ok Tryz.laysC172 s hmax v h w
def Tryz.laysM145_ren : Go.Shelf.Ren := ⟨fun | 145 => 34 | 220 => 54 | 219 => 76 | 217 => 87 | 225 => 88 | 224 => 89 | 267 => 90 | 266 => 109 | 314 => 110 | n => n, fun | 9 => 9 | 4 => 4 | 59 => 72 | 3 => 3 | 5 => 5 | 46 => 122 | 146 => 144 | 51 => 143 | n => n, fun | 1 => 2 | n => n⟩
theorem Tryz.laysM145 : Go.Proofs.LaysM.n145 Tryz.prog Tryz.laysM145_ren := {
  mixed := by kernel_rfl
  f145 := Tryz.func34.trans (congrArg some (by kernel_rfl))
  f217 := Tryz.func87.trans (congrArg some (by kernel_rfl))
  f219 := Tryz.func76.trans (congrArg some (by kernel_rfl))
  f220 := Tryz.func54.trans (congrArg some (by kernel_rfl))
  f224 := Tryz.func89.trans (congrArg some (by kernel_rfl))
  f225 := Tryz.func88.trans (congrArg some (by kernel_rfl))
  f266 := Tryz.func109.trans (congrArg some (by kernel_rfl))
  f267 := Tryz.func90.trans (congrArg some (by kernel_rfl))
  f314 := Tryz.func110.trans (congrArg some (by kernel_rfl))
  t3 := Tryz.underlying3
  a3 := Tryz.isAgg3
  z3 := Tryz.sizeOf3
  v3 := Tryz.zeroValue3
  t4 := Tryz.underlying4
  a4 := Tryz.isAgg4
  z4 := Tryz.sizeOf4
  v4 := Tryz.zeroValue4
  t5 := Tryz.underlying5
  a5 := Tryz.isAgg5
  z5 := Tryz.sizeOf5
  v5 := Tryz.zeroValue5
  t9 := Tryz.underlying9
  a9 := Tryz.isAgg9
  z9 := Tryz.sizeOf9
  v9 := Tryz.zeroValue9
  t46 := Tryz.underlying122
  a46 := Tryz.isAgg122
  z46 := Tryz.sizeOf122
  v46 := Tryz.zeroValue122
  t51 := Tryz.underlying143
  a51 := Tryz.isAgg143
  z51 := Tryz.sizeOf143
  v51 := Tryz.zeroValue143
  t59 := Tryz.underlying72
  a59 := Tryz.isAgg72
  z59 := Tryz.sizeOf72
  v59 := Tryz.zeroValue72
  t146 := Tryz.underlying144
  a146 := Tryz.isAgg144
  z146 := Tryz.sizeOf144
  v146 := Tryz.zeroValue144
  g1 := by kernel_rfl
  i3 := by kernel_rfl
  i4 := by kernel_rfl
  i5 := by kernel_rfl
  i9 := by kernel_rfl
  i46 := by kernel_rfl
  i51 := by kernel_rfl
  i59 := by kernel_rfl
  i146 := by kernel_rfl
  m1 := by kernel_rfl
  s1_3 := fun w h => Go.Proofs.cell_of_shapedOpen_int (zero := #[.int .i64 0]) (t := 3) h (of_decide_eq_true (by kernel_rfl)) (by kernel_rfl) rfl (by kernel_rfl) (by kernel_rfl) Tryz.underlying3 }
open Go.RowKit Go.Lib in
theorem Tryz.strings_Cut_shaped (s sep : ByteArray) (w : World) (h : w.ShapedOpen Tryz.prog) (hs : s.size < 4294967281) :
    Calls Tryz.prog 34 #[.string s, .string sep] w fun e w' => e = .returned (.tuple #[.string ⟨(Lib.cut s.data.toList sep.data.toList).1.toArray⟩, .string ⟨(Lib.cut s.data.toList sep.data.toList).2.1.toArray⟩, .bool (Lib.cut s.data.toList sep.data.toList).2.2]) ∧ ∃ n, w' = w.drewN n := Any.strings_Cut_shaped Tryz.laysM145 s sep w h hs
def Tryz.laysGw15_ren : Go.Shelf.Ren := ⟨fun | 15 => 77 | 20 => 91 | n => n, fun | 9 => 9 | 23 => 96 | 3 => 3 | 4 => 4 | 0 => 0 | 21 => 21 | n => n, fun | n => n⟩
theorem Tryz.laysGw15 : Go.Proofs.LaysGw.n15 Tryz.prog Tryz.laysGw15_ren := {
  mixed := by kernel_rfl
  f15 := Tryz.func77.trans (congrArg some (by kernel_rfl))
  f20 := Tryz.func91.trans (congrArg some (by kernel_rfl))
  t0 := Tryz.underlying0
  a0 := Tryz.isAgg0
  z0 := Tryz.sizeOf0
  v0 := Tryz.zeroValue0
  i0 := by kernel_rfl
  t3 := Tryz.underlying3
  a3 := Tryz.isAgg3
  z3 := Tryz.sizeOf3
  v3 := Tryz.zeroValue3
  i3 := by kernel_rfl
  t4 := Tryz.underlying4
  a4 := Tryz.isAgg4
  z4 := Tryz.sizeOf4
  v4 := Tryz.zeroValue4
  i4 := by kernel_rfl
  t9 := Tryz.underlying9
  a9 := Tryz.isAgg9
  z9 := Tryz.sizeOf9
  v9 := Tryz.zeroValue9
  i9 := by kernel_rfl
  t21 := Tryz.underlying21
  a21 := Tryz.isAgg21
  z21 := Tryz.sizeOf21
  v21 := Tryz.zeroValue21
  i21 := by kernel_rfl
  t23 := Tryz.underlying96
  a23 := Tryz.isAgg96
  z23 := Tryz.sizeOf96
  v23 := Tryz.zeroValue96
  i23 := by kernel_rfl }
open Go.RowKit Go.Lib in
theorem Tryz.strings_IndexFunc (g : Nat) (lb : Array Value) (eg : ∀ args w, (callFunc g args).run Tryz.prog w = .ok (.enter g args) w) (p : Nat → Bool) (s : ByteArray) (w : World) (hp : PredAt Tryz.prog g lb encR p w) :
    Calls Tryz.prog 77 #[.string s, .func (.func g) #[] lb] w fun e w' => e = .returned (.int .i64 (Lib.idxFunc p true s)) ∧ Below w.heap.size w w' := Any.strings_IndexFunc Tryz.laysGw15 g lb eg p s w hp
def Tryz.lays99_ren : Go.Shelf.Ren := ⟨fun | 99 => 33 | 206 => 53 | n => n, fun | 9 => 9 | 4 => 4 | 3 => 3 | n => n, fun | n => n⟩
theorem Tryz.lays99 : Go.Proofs.Lays.n99 Tryz.prog Tryz.lays99_ren := {
  mixed := by kernel_rfl
  f99 := Tryz.func33.trans (congrArg some (by kernel_rfl))
  f206 := Tryz.func53.trans (congrArg some (by kernel_rfl))
  t3 := Tryz.underlying3
  a3 := Tryz.isAgg3
  z3 := Tryz.sizeOf3
  v3 := Tryz.zeroValue3
  t4 := Tryz.underlying4
  a4 := Tryz.isAgg4
  z4 := Tryz.sizeOf4
  v4 := Tryz.zeroValue4
  t9 := Tryz.underlying9
  a9 := Tryz.isAgg9
  z9 := Tryz.sizeOf9
  v9 := Tryz.zeroValue9 }
open Go.RowKit Go.Lib in
theorem Tryz.strings_HasPrefix (s p : ByteArray) (w : World) :
    Calls Tryz.prog 33 #[.string s, .string p] w fun e w' => e = .returned (.bool (Lib.hasPrefix s.data.toList p.data.toList)) ∧ w' = w := Any.strings_HasPrefix Tryz.lays99 s p w
def Tryz.laysSlH6_f61_ren : Go.Shelf.Ren := ⟨fun | 6 => 61 | n => n, fun | 22 => 82 | 23 => 9 | 25 => 36 | 3 => 3 | 0 => 0 | 4 => 4 | n => n, fun | n => n⟩
theorem Tryz.laysSlH6_f61 : Go.Proofs.SlLaysH.n6 Tryz.prog Tryz.laysSlH6_f61_ren := {
  mixed := by kernel_rfl
  f6 := ⟨Tryz.f61.name, by decide, Tryz.func61.trans (congrArg some (by kernel_rfl))⟩
  t0 := Tryz.underlying0
  a0 := Tryz.isAgg0
  z0 := Tryz.sizeOf0
  v0 := Tryz.zeroValue0
  t3 := Tryz.underlying3
  a3 := Tryz.isAgg3
  z3 := Tryz.sizeOf3
  v3 := Tryz.zeroValue3
  t4 := Tryz.underlying4
  a4 := Tryz.isAgg4
  z4 := Tryz.sizeOf4
  v4 := Tryz.zeroValue4
  t22 := Tryz.underlying82
  a22 := Tryz.isAgg82
  z22 := Tryz.sizeOf82
  v22 := Tryz.zeroValue82
  a23 := Tryz.isAgg9
  z23 := Tryz.sizeOf9
  t25 := Tryz.underlying36
  a25 := Tryz.isAgg36
  z25 := Tryz.sizeOf36
  v25 := Tryz.zeroValue36 }
open Go.RowKit Go.Lib in
theorem Tryz.slices_IndexFunc {α : Type} [Inhabited α] (enc : α → Value) (p : α → Bool) (g : Nat) (lb : Array Value) (eg : ∀ args w, (callFunc g args).run Tryz.prog w = .ok (.enter g args) w) (b off n c : Nat) (zs : List α) (w : World) (hp : PredAt Tryz.prog g lb enc p w) (hz : n ≤ zs.length) (hbig : n ≤ 9223372036854775807) (hc : ∀ j, j < zs.length → w.cell? ⟨b, off + j, none⟩ = some (enc zs[j]!)) :
    Calls Tryz.prog 61 #[.slice (some ⟨b, off, none⟩) n c, .func (.func g) #[] lb] w fun e w' => e = .returned (.int .i64 (Lib.idxBy (fun _ y => p y) (zs.take n) default)) ∧ ∃ q, w' = w.drewN q := AnyE.slices_IndexFunc Tryz.laysSlH6_f61 enc p g lb eg b off n c zs w hp hz hbig hc
def Tryz.lays161_ren : Go.Shelf.Ren := ⟨fun | 161 => 32 | 231 => 49 | 227 => 50 | 233 => 51 | 235 => 52 | 228 => 73 | 197 => 74 | 151 => 75 | 260 => 85 | 152 => 86 | 137 => 107 | 119 => 108 | 224 => 89 | 225 => 88 | 217 => 87 | 266 => 109 | n => n, fun | 9 => 9 | 4 => 4 | 3 => 3 | 5 => 5 | 117 => 91 | 116 => 90 | 0 => 0 | 124 => 94 | 105 => 108 | 21 => 21 | 119 => 139 | 46 => 122 | 139 => 142 | 138 => 141 | n => n, fun | 3 => 3 | 4 => 4 | n => n⟩
theorem Tryz.lays161 : Go.Proofs.Lays.n161 Tryz.prog Tryz.lays161_ren := {
  mixed := by kernel_rfl
  f119 := Tryz.func108.trans (congrArg some (by kernel_rfl))
  f137 := Tryz.func107.trans (congrArg some (by kernel_rfl))
  f151 := Tryz.func75.trans (congrArg some (by kernel_rfl))
  f152 := Tryz.func86.trans (congrArg some (by kernel_rfl))
  f161 := Tryz.func32.trans (congrArg some (by kernel_rfl))
  f197 := Tryz.func74.trans (congrArg some (by kernel_rfl))
  f217 := Tryz.func87.trans (congrArg some (by kernel_rfl))
  f224 := Tryz.func89.trans (congrArg some (by kernel_rfl))
  f225 := Tryz.func88.trans (congrArg some (by kernel_rfl))
  f227 := Tryz.func50.trans (congrArg some (by kernel_rfl))
  f228 := Tryz.func73.trans (congrArg some (by kernel_rfl))
  f231 := Tryz.func49.trans (congrArg some (by kernel_rfl))
  f233 := Tryz.func51.trans (congrArg some (by kernel_rfl))
  f235 := Tryz.func52.trans (congrArg some (by kernel_rfl))
  f260 := Tryz.func85.trans (congrArg some (by kernel_rfl))
  f266 := Tryz.func109.trans (congrArg some (by kernel_rfl))
  t0 := Tryz.underlying0
  a0 := Tryz.isAgg0
  z0 := Tryz.sizeOf0
  v0 := Tryz.zeroValue0
  t3 := Tryz.underlying3
  a3 := Tryz.isAgg3
  z3 := Tryz.sizeOf3
  v3 := Tryz.zeroValue3
  t4 := Tryz.underlying4
  a4 := Tryz.isAgg4
  z4 := Tryz.sizeOf4
  v4 := Tryz.zeroValue4
  t5 := Tryz.underlying5
  a5 := Tryz.isAgg5
  z5 := Tryz.sizeOf5
  v5 := Tryz.zeroValue5
  t9 := Tryz.underlying9
  a9 := Tryz.isAgg9
  z9 := Tryz.sizeOf9
  v9 := Tryz.zeroValue9
  t21 := Tryz.underlying21
  a21 := Tryz.isAgg21
  z21 := Tryz.sizeOf21
  v21 := Tryz.zeroValue21
  t46 := Tryz.underlying122
  a46 := Tryz.isAgg122
  z46 := Tryz.sizeOf122
  v46 := Tryz.zeroValue122
  t105 := Tryz.underlying108
  a105 := Tryz.isAgg108
  z105 := Tryz.sizeOf108
  v105 := Tryz.zeroValue108
  t116 := Tryz.underlying90
  a116 := Tryz.isAgg90
  z116 := Tryz.sizeOf90
  t117 := Tryz.underlying91
  a117 := Tryz.isAgg91
  z117 := Tryz.sizeOf91
  v117 := Tryz.zeroValue91
  t119 := Tryz.underlying139
  a119 := Tryz.isAgg139
  z119 := Tryz.sizeOf139
  t124 := Tryz.underlying94
  a124 := Tryz.isAgg94
  z124 := Tryz.sizeOf94
  v124 := Tryz.zeroValue94
  t138 := Tryz.underlying141
  a138 := Tryz.isAgg141
  z138 := Tryz.sizeOf141
  v138 := Tryz.zeroValue141
  t139 := Tryz.underlying142
  a139 := Tryz.isAgg142
  z139 := Tryz.sizeOf142
  v139 := Tryz.zeroValue142
  g3 := by kernel_rfl
  g4 := by kernel_rfl }
open Go.RowKit in
theorem Tryz.strings_TrimLeft_laid (s cutset : ByteArray) (w : World) (hcs : cutset.size < 4294967281) (hascii : ∀ (j : Nat) b, cutset.data.toList[j]? = some b → b.toNat < 128) :
    Calls Tryz.prog 32 #[.string s, .string cutset] w fun e w' => e = .returned (.string ⟨(Lib.trimLeftS s.data.toList cutset.data.toList).toArray⟩) ∧ Below w.heap.size w w' := Any.strings_TrimLeft_laid Tryz.lays161 (by kernel_rfl) s cutset w hcs hascii
def Tryz.lays2_26_ren : Go.Shelf.Ren := ⟨fun | 26 => 82 | 33 => 97 | 34 => 98 | 38 => 115 | n => n, fun | 24 => 82 | 9 => 9 | 3 => 3 | 4 => 4 | 40 => 122 | 0 => 0 | n => n, fun | n => n⟩
theorem Tryz.lays2_26 : Go.Proofs.Lays2.n26 Tryz.prog Tryz.lays2_26_ren := {
  mixed := by kernel_rfl
  f26 := Tryz.func82.trans (congrArg some (by kernel_rfl))
  f33 := Tryz.func97.trans (congrArg some (by kernel_rfl))
  f34 := Tryz.func98.trans (congrArg some (by kernel_rfl))
  f38 := Tryz.func115.trans (congrArg some (by kernel_rfl))
  t0 := Tryz.underlying0
  a0 := Tryz.isAgg0
  z0 := Tryz.sizeOf0
  v0 := Tryz.zeroValue0
  t3 := Tryz.underlying3
  a3 := Tryz.isAgg3
  z3 := Tryz.sizeOf3
  v3 := Tryz.zeroValue3
  t4 := Tryz.underlying4
  a4 := Tryz.isAgg4
  z4 := Tryz.sizeOf4
  v4 := Tryz.zeroValue4
  t9 := Tryz.underlying9
  a9 := Tryz.isAgg9
  z9 := Tryz.sizeOf9
  v9 := Tryz.zeroValue9
  t24 := Tryz.underlying82
  a24 := Tryz.isAgg82
  z24 := Tryz.sizeOf82
  v24 := Tryz.zeroValue82
  t40 := Tryz.underlying122
  a40 := Tryz.isAgg122
  z40 := Tryz.sizeOf122
  v40 := Tryz.zeroValue122 }
open Go.RowKit in
theorem Tryz.slices_BinarySearch_string (b off n c : Nat) (Sx : Nat → ByteArray) (x : ByteArray) (w : World) (hbig : n < 4611686018427387904) (hc : ∀ j, j < n → w.cell? ⟨b, off + j, none⟩ = some (.string (Sx j))) :
    Calls Tryz.prog 82 #[.slice (some ⟨b, off, none⟩) n c, .string x] w fun e w' =>
      e = .returned (.tuple #[.int .i64 (Lib.bsGo (fun t => Op.bytesLess (Sx t).toList x.toList) n 0 n : Nat), .bool (decide (Lib.bsGo (fun t => Op.bytesLess (Sx t).toList x.toList) n 0 n < n ∧ Sx (Lib.bsGo (fun t => Op.bytesLess (Sx t).toList x.toList) n 0 n) = x))]) ∧ ∃ q, w' = w.drewN q := Any2.slices_BinarySearch_string Tryz.lays2_26 b off n c Sx x w hbig hc
end Go.Proofs
namespace Go.Proofs.YtahalimekacliaaGreatDoor
open Go.RowKit Go.Shelf
set_option maxHeartbeats 400000 in
theorem isDigit_any (x : Nat) (w : World) :
    Calls Tryz.prog 56 #[.int .i32 x] w fun e w' => e = .returned (.bool (digN x)) ∧ w' = w := by
  go_enter Tryz.func56, Tryz.ntmps56
  go_wp2_with fail
  all_goals
    go_ret
    exact ⟨ret_bool (by rw [Bool.eq_iff_iff]; simp [digN]; omega), rfl⟩
set_option maxHeartbeats 400000 in
theorem isLetter_any (x : Nat) (w : World) :
    Calls Tryz.prog 81 #[.int .i32 x] w fun e w' => e = .returned (.bool (letN x)) ∧ w' = w := by
  by_cases h1 : (97 : Int) ≤ (x : Int)
  · by_cases h2 : (x : Int) ≤ 122
    · go_enter Tryz.func81, Tryz.ntmps81
      go_wp2_with fail
      all_goals
        go_ret
        exact ⟨ret_bool (by rw [Bool.eq_iff_iff]; simp [letN]; omega), rfl⟩
    · go_enter Tryz.func81, Tryz.ntmps81
      go_wp2_with fail
      all_goals
        go_ret
        exact ⟨ret_bool (by rw [Bool.eq_iff_iff]; simp [letN]; omega), rfl⟩
  · go_enter Tryz.func81, Tryz.ntmps81
    go_wp2_with fail
    all_goals
      go_ret
      exact ⟨ret_bool (by rw [Bool.eq_iff_iff]; simp [letN]; omega), rfl⟩
set_option maxHeartbeats 400000 in
theorem isPart_any (x : Nat) (w : World) :
    Calls Tryz.prog 58 #[.int .i32 x] w fun e w' => e = .returned (.bool (partN x)) ∧ w' = w := by
  obtain ⟨b, hb⟩ : ∃ b, b = letN x := ⟨_, rfl⟩
  have cL := isLetter_any x w
  rw [← hb] at cL
  have HB : Hid (b = letN x) := hb
  clear hb
  go_enter Tryz.func58, Tryz.ntmps58
  go_wp2_with fail
  refine cL.mono ?_
  rintro e w1 ⟨rfl, hW⟩
  subst hW
  cases b
  · go_wp2_with fail
    refine (isDigit_any x w1).mono ?_
    rintro e w2 ⟨rfl, hW⟩
    subst hW
    go_wp2_with fail
    go_ret
    exact ⟨ret_bool (by unfold partN; rw [← HB.out]; rfl), rfl⟩
  · go_wp2_with fail
    go_ret
    exact ⟨ret_bool (by unfold partN; rw [← HB.out]; rfl), rfl⟩
theorem row1_any (g : Nat) (p : Nat → Bool) (hp : ∀ x w, Calls Tryz.prog g #[.int .i32 (x : Nat)] w fun e w' => e = .returned (.bool (p x)) ∧ w' = w)
    (eg : ∀ args w, (callFunc g args).run Tryz.prog w = .ok (.enter g args) w) (x b : Nat) (w : World) (hc : w.cell? ⟨b, 0, none⟩ = some (.func (.func g) #[] #[])) :
    Calls Tryz.prog 78 #[.int .i32 x, .pointer (some ⟨b, 0, none⟩)] w fun e w' => e = .returned (.bool (!p x)) ∧ w' = w := by
  go_enter Tryz.func78, Tryz.ntmps78
  go_wp2_with fail
  refine (hp x w).mono ?_
  rintro e w1 ⟨rfl, hW⟩
  subst hW
  go_wp2_with fail
  go_ret
  exact ⟨rfl, rfl⟩
set_option maxHeartbeats 1000000 in
theorem row_any (g : Nat) (p : Nat → Bool) (q : UInt8 → Bool) (hp : ∀ x w, Calls Tryz.prog g #[.int .i32 (x : Nat)] w fun e w' => e = .returned (.bool (p x)) ∧ w' = w)
    (eg : ∀ args w, (callFunc g args).run Tryz.prog w = .ok (.enter g args) w) (hlow : ∀ c : UInt8, p c.toNat = q c) (hhigh : ∀ x, 128 ≤ x → p x = false) (s : ByteArray) (_hs : s.size ≤ 100000) (w : World) :
    Calls Tryz.prog 55 #[.string s, .func (.func g) #[] #[]] w fun e w' => ∃ t : ByteArray, e = .returned (.string t) ∧ t.data.toList = s.data.toList.takeWhile q ∧ Below w.heap.size w w' := by
  have hq : ∀ c : UInt8, 128 ≤ c.toNat → q c = false := fun c h => by rw [← hlow]; exact hhigh _ h
  have er : ∀ args w, (callFunc 78 args).run Tryz.prog w = .ok (.enter 78 args) w := enters_of Tryz.func78 (by kernel_rfl) rfl
  have bw : Below w.heap.size w (w.alloc (.cells #[.func (.func g) #[] #[]] 96)) := (Below.refl _ _).alloc (Nat.le_refl _) _
  have cc : (w.alloc (.cells #[.func (.func g) #[] #[]] 96)).cell? ⟨w.heap.size, 0, none⟩ = some (.func (.func g) #[] #[]) := by
    rw [cell_of_row _ _ 0 _ _ _ (heap_alloc_new w _)]; rfl
  have HP : PredAt Tryz.prog 78 #[.pointer (some ⟨w.heap.size, 0, none⟩)] encR (fun x => !p x) (w.alloc (.cells #[.func (.func g) #[] #[]] 96)) := by
    intro W x hW
    have hc : W.cell? ⟨w.heap.size, 0, none⟩ = some (.func (.func g) #[] #[]) := (hW.cell (by show w.heap.size < (w.heap.push _).size; simp)).trans cc
    refine (row1_any g p hp eg x w.heap.size W hc).mono fun e w' ⟨he, hw⟩ => ⟨he, 0, ?_⟩
    rw [hw]; rfl
  have cI := Tryz.strings_IndexFunc 78 #[.pointer (some ⟨w.heap.size, 0, none⟩)] er (fun x => !p x) s _ HP
  rw [Lx.idx_row p q (fun c _ => hlow c) hhigh hq s] at cI
  obtain ⟨n, hn⟩ : ∃ n, n = (s.data.toList.takeWhile q).length := ⟨_, rfl⟩
  have hle : n ≤ s.size := by rw [hn, ← size_toList]; exact (List.takeWhile_prefix q).length_le
  have HN : Hid (n = (s.data.toList.takeWhile q).length) := hn
  rw [← hn] at cI
  clear hn HP hq hhigh hlow
  by_cases h : n = s.size
  · rw [if_pos h] at cI
    have HA : Hid (n = s.size) := h
    clear h
    go_enter Tryz.func55, Tryz.ntmps55
    go_wp2_with fail
    refine cI.mono ?_
    rintro e w1 ⟨rfl, hb1⟩
    go_wp2_with fail
    go_ret
    refine ⟨s, rfl, ?_, bw.trans (hb1.mono bw.size)⟩
    have h1 := HN.out
    rw [HA.out, ← size_toList] at h1
    exact ((List.takeWhile_prefix q).eq_of_length h1.symm).symm
  · rw [if_neg h] at cI
    have hlt : n < s.size := by omega
    clear h
    go_enter Tryz.func55, Tryz.ntmps55
    go_wp2_with fail
    refine cI.mono ?_
    rintro e w1 ⟨rfl, hb1⟩
    go_wp2_with fail
    go_ret
    refine ⟨_, rfl, ?_, bw.trans (hb1.mono bw.size)⟩
    rw [extract_take, HN.out]
    exact (List.prefix_iff_eq_take.1 (List.takeWhile_prefix q)).symm
theorem eDigit : ∀ args w, (callFunc 56 args).run Tryz.prog w = .ok (.enter 56 args) w := enters_of Tryz.func56 (by kernel_rfl) rfl
theorem ePart : ∀ args w, (callFunc 58 args).run Tryz.prog w = .ok (.enter 58 args) w := enters_of Tryz.func58 (by kernel_rfl) rfl
theorem row_digit (s : ByteArray) (hs : s.size ≤ 100000) (w : World) :
    Calls Tryz.prog 55 #[.string s, .func (.func 56) #[] #[]] w fun e w' => ∃ t : ByteArray, e = .returned (.string t) ∧ t.data.toList = s.data.toList.takeWhile Lx.isDig ∧ Below w.heap.size w w' :=
  row_any _ digN Lx.isDig isDigit_any eDigit digN_byte (fun x h => (high_no x h).1) s hs w
theorem row_part (s : ByteArray) (hs : s.size ≤ 100000) (w : World) :
    Calls Tryz.prog 55 #[.string s, .func (.func 58) #[] #[]] w fun e w' => ∃ t : ByteArray, e = .returned (.string t) ∧ t.data.toList = s.data.toList.takeWhile Lx.isPt ∧ Below w.heap.size w w' :=
  row_any _ partN Lx.isPt isPart_any ePart partN_byte (fun x h => (high_no x h).2) s hs w
structure Gl (W : World) : Prop where
  words : ∃ b o c, W.cell? ⟨1, 0, none⟩ = some (.slice (some ⟨b, o, none⟩) 35 c) ∧ ∀ j, j < 35 → W.cell? ⟨b, o + j, none⟩ = some (.string ⟨(Lx.words.getD j []).toArray⟩)
  signs : ∃ b o c, W.cell? ⟨0, 0, none⟩ = some (.slice (some ⟨b, o, none⟩) 16 c) ∧ ∀ j, j < 16 → W.cell? ⟨b, o + j, none⟩ = some (.string ⟨(Lx.signs.getD j []).toArray⟩)
  shaped : W.ShapedOpen Tryz.prog
theorem Gl.below {w w' : World} (h : Gl w) (hb : Below w.heap.size w w') : Gl w' := by
  have kc : ∀ {a : Addr} {v : Value}, w.cell? a = some v → w'.cell? a = some v := fun {a v} q => (hb.cell (World.block_lt_of_cell? w a q)).trans q
  obtain ⟨b, o, c, h1, h2⟩ := h.words
  obtain ⟨b', o', c', h3, h4⟩ := h.signs
  exact ⟨⟨b, o, c, kc h1, fun j hj => kc (h2 j hj)⟩, ⟨b', o', c', kc h3, fun j hj => kc (h4 j hj)⟩, h.shaped.keptBut (hb.frame (fun _ => False)) (fun _ q => q.elim)⟩
set_option maxHeartbeats 400000 in
theorem IsWord_any (s : ByteArray) (w : World) (G : Gl w) :
    Calls Tryz.prog 59 #[.string s] w fun e w' => e = .returned (.bool (Lx.isWord s.data.toList)) ∧ Below w.heap.size w w' := by
  obtain ⟨b, o, c, h1, h2⟩ := G.words
  have cB := Tryz.slices_BinarySearch_string b o 35 c (fun j => ⟨(Lx.words.getD j []).toArray⟩) s w (by omega) h2
  have key : decide (Lib.bsGo (fun t => Op.bytesLess (⟨(Lx.words.getD t []).toArray⟩ : ByteArray).toList s.toList) 35 0 35 < 35 ∧ (⟨(Lx.words.getD (Lib.bsGo (fun t => Op.bytesLess (⟨(Lx.words.getD t []).toArray⟩ : ByteArray).toList s.toList) 35 0 35) []).toArray⟩ : ByteArray) = s) = Lx.isWord s.data.toList := by
    have h := Lx.search_is Lx.words Lx.words_sorted s.data.toList
    have e1 : ∀ l : List UInt8, (⟨l.toArray⟩ : ByteArray).toList = l := fun l => by rw [Lib.toList_data]
    have e2 : ∀ l : List UInt8, (⟨l.toArray⟩ : ByteArray) = s ↔ l = s.data.toList := fun l => ⟨fun h => by rw [← h], fun h => by rw [h]⟩
    simp only [e1, e2]
    exact h
  rw [key] at cB
  clear key h2
  go_enter Tryz.func59, Tryz.ntmps59
  go_wp2_with fail
  refine cB.mono ?_
  rintro e w1 ⟨rfl, q, rfl⟩
  go_wp2_with fail
  go_ret
  exact ⟨rfl, below_drewN' (Below.refl _ _) q⟩
set_option maxHeartbeats 400000 in
theorem IsName_any (s : ByteArray) (w : World) (G : Gl w) :
    Calls Tryz.prog 60 #[.string s] w fun e w' => e = .returned (.bool (Lx.isName s.data.toList)) ∧ Below w.heap.size w w' := by
  by_cases he : s.toList = []
  · have HF : Hid (Lx.isName s.data.toList = false) := by
      show _ = _
      rw [← Lib.toList_data, he]; rfl
    have he2 : (!s.toList.isEmpty) = false := by simp [he]
    go_enter Tryz.func60, Tryz.ntmps60
    go_wp2_with fail
    go_ret
    exact ⟨ret_bool HF.out.symm, Below.refl _ _⟩
  have he2 : (!s.toList.isEmpty) = true := by simp [he]
  have hpos : 0 < s.size := by
    rw [Lib.toList_data] at he
    have := List.length_pos_iff.2 he
    rwa [size_toList] at this
  by_cases hl : 40 < s.size
  · have HF : Hid (Lx.isName s.data.toList = false) := by
      show _ = _
      unfold Lx.isName
      rw [size_toList]
      have : decide (s.size ≤ 40) = false := by simp; omega
      rw [this]; simp
    go_enter Tryz.func60, Tryz.ntmps60
    go_wp2_with fail
    go_ret
    exact ⟨ret_bool HF.out.symm, Below.refl _ _⟩
  have hl' : s.size ≤ 40 := by omega
  have HE : Hid (s.data.toList ≠ []) := by rw [Lib.toList_data] at he; exact he
  clear hl
  go_enter Tryz.func60, Tryz.ntmps60
  go_wp2_with fail
  refine (row_part s (by omega) w).mono ?_
  rintro e w1 ⟨t, rfl, ht, hb1⟩
  have HT : Hid (t.data.toList = s.data.toList.takeWhile Lx.isPt) := ht
  have G1 := G.below hb1
  clear ht G
  by_cases hts : t.toList = s.toList
  · have HTS : Hid (s.data.toList.takeWhile Lx.isPt = s.data.toList) := by
      show _ = _
      rw [Lib.toList_data, Lib.toList_data] at hts
      rw [← HT.out]; exact hts
    go_wp2_with fail
    have hw : wrap32 ((s[0].toNat : Nat) : Int) = ((s[0].toNat : Nat) : Int) := by
      have := s[0].toNat_lt
      unfold wrap32; omega
    rw [hw]
    refine (isDigit_any s[0].toNat w1).mono ?_
    rintro e w2 ⟨rfl, hW⟩
    subst hW
    have HD : Hid (digN s[0].toNat = Lx.isDig (s.data.toList.headD 0)) := by
      show _ = _
      rw [digN_byte]
      have : s.data.toList.headD 0 = s[0] := by
        exact headD_byte s hpos
      rw [this]
    clear hw
    generalize digN s[0].toNat = b at HD ⊢
    cases b
    · go_wp2_with fail
      refine (IsWord_any s w2 G1).mono ?_
      rintro e w3 ⟨rfl, hb3⟩
      go_wp2_with fail
      go_ret
      refine ⟨ret_bool ?_, hb1.trans (hb3.mono hb1.size)⟩
      rw [Lx.name_yes HE.out (by rw [size_toList]; omega) HTS.out, ← HD.out]; rfl
    · go_wp2_with fail
      go_ret
      refine ⟨ret_bool ?_, hb1⟩
      rw [Lx.name_yes HE.out (by rw [size_toList]; omega) HTS.out, ← HD.out]; rfl
  · have HTS : Hid (s.data.toList.takeWhile Lx.isPt ≠ s.data.toList) := by
      show _ ≠ _
      rw [Lib.toList_data, Lib.toList_data] at hts
      rw [← HT.out]; exact hts
    go_wp2_with fail
    go_ret
    refine ⟨ret_bool ?_, hb1⟩
    rw [Lx.name_no HTS.out]
end Go.Proofs.YtahalimekacliaaGreatDoor
namespace Go.Proofs.YtahalimekacliaaGreatDoor
open Go.RowKit Go.Shelf
def FirstPost (s : ByteArray) (w : World) (e : Ending) (w' : World) : Prop :=
  ∃ (k er : Nat) (t : ByteArray), e = .returned (.tuple #[.int .i64 k, .string t, .int .i64 er]) ∧ ((er = 0 ∧ Lx.first s.data.toList = .tok k t.data.toList) ∨ (er ≠ 0 ∧ Lx.first s.data.toList = .err er)) ∧ Below w.heap.size w w'
theorem first1_any (s t : ByteArray) (b : Nat) (w : World) (hc : w.cell? ⟨b, 0, none⟩ = some (.string s)) :
    Calls Tryz.prog 62 #[.string t, .pointer (some ⟨b, 0, none⟩)] w fun e w' => e = .returned (.bool (Lib.hasPrefix s.data.toList t.data.toList)) ∧ w' = w := by
  go_enter Tryz.func62, Tryz.ntmps62
  go_wp2_with fail
  refine (Tryz.strings_HasPrefix s t w).mono ?_
  rintro e w1 ⟨rfl, hW⟩
  subst hW
  go_wp2_with fail
  go_ret
  exact ⟨rfl, rfl⟩
theorem eFirst1 : ∀ args w, (callFunc 62 args).run Tryz.prog w = .ok (.enter 62 args) w := enters_of Tryz.func62 (by kernel_rfl) rfl
def signsB : List ByteArray := Lx.signs.map fun l => ⟨l.toArray⟩
theorem signsB_get (j : Nat) (h : j < signsB.length) : signsB[j]! = ⟨(Lx.signs.getD j []).toArray⟩ := by
  have h2 : j < Lx.signs.length := h
  have e : signsB[j]? = some ⟨(Lx.signs.getD j []).toArray⟩ := by
    unfold signsB
    rw [List.getElem?_map, List.getD_eq_getElem?_getD, List.getElem?_eq_getElem h2]; rfl
  rw [List.getElem!_eq_getElem?_getD, e]; rfl
theorem signsB_find (l : Lx.Bs) : Lx.signs.find? (·.isPrefixOf l) = (signsB.find? (fun y => Lib.hasPrefix l y.data.toList)).map (fun b => b.data.toList) := by
  unfold signsB
  rw [List.find?_map, Option.map_map]
  have : ((fun y : ByteArray => Lib.hasPrefix l y.data.toList) ∘ fun l : Lx.Bs => (⟨l.toArray⟩ : ByteArray)) = (·.isPrefixOf l) := rfl
  rw [this]
  have h2 : ((fun b : ByteArray => b.data.toList) ∘ fun l : Lx.Bs => (⟨l.toArray⟩ : ByteArray)) = id := rfl
  rw [h2, Option.map_id]; rfl
set_option maxHeartbeats 1000000 in
theorem first_any (s : ByteArray) (hs : s.size ≤ 100000) (w : World) (G : Gl w) :
    Calls Tryz.prog 35 #[.string s] w (FirstPost s w) := by
  have bw : Below w.heap.size w (w.alloc (.cells #[.string s] 9)) := (Below.refl _ _).alloc (Nat.le_refl _) _
  have cc : (w.alloc (.cells #[.string s] 9)).cell? ⟨w.heap.size, 0, none⟩ = some (.string s) := by
    rw [cell_of_row _ _ 0 _ _ _ (heap_alloc_new w _)]; rfl
  have blt : w.heap.size < (w.alloc (.cells #[.string s] 9)).heap.size := by show w.heap.size < (w.heap.push _).size; simp
  have G0 := G.below bw
  go_enter Tryz.func35, Tryz.ntmps35
  go_wp2_with fail
  generalize hbx : w.heap.size = bx at cc blt bw ⊢
  have HBX : Hid (w.heap.size = bx) := hbx
  clear hbx
  generalize w.alloc (.cells #[.string s] 9) = W at bw cc blt G0 ⊢
  refine (row_digit s hs W).mono ?_
  rintro e w1 ⟨d, rfl, hd, hb1⟩
  have HD : Hid (d.data.toList = s.data.toList.takeWhile Lx.isDig) := hd
  have G1 := G0.below hb1
  have c1 : w1.cell? ⟨bx, 0, none⟩ = some (.string s) := (hb1.cell blt).trans cc
  have bl1 := Nat.lt_of_lt_of_le blt hb1.size
  have B1 : Below w.heap.size w w1 := by rw [HBX.out]; exact bw.trans (hb1.mono (Nat.le_of_lt blt))
  clear hd G0 cc blt bw hb1 G
  by_cases he : d.toList = []
  · have he2 : (!d.toList.isEmpty) = false := by simp [he]
    have HE : Hid (s.data.toList.takeWhile Lx.isDig = []) := by show _ = _; rw [← HD.out]; exact toList_nil.1 he
    go_wp2_with fail
    clear he he2
    refine (row_part s hs w1).mono ?_
    rintro e w2 ⟨p, rfl, hp, hb2⟩
    have HP : Hid (p.data.toList = s.data.toList.takeWhile Lx.isPt) := hp
    have G2 := G1.below hb2
    have c2 : w2.cell? ⟨bx, 0, none⟩ = some (.string s) := (hb2.cell bl1).trans c1
    have bl2 := Nat.lt_of_lt_of_le bl1 hb2.size
    have B2 := B1.trans (hb2.mono B1.size)
    clear hp G1 c1 bl1 B1 hb2
    go_wp2_with fail
    refine (IsWord_any p w2 G2).mono ?_
    rintro e w3 ⟨rfl, hb3⟩
    obtain ⟨bW, hbW⟩ : ∃ b, b = Lx.isWord p.data.toList := ⟨_, rfl⟩
    rw [← hbW]
    have HW : Hid (Lx.isWord (s.data.toList.takeWhile Lx.isPt) = bW) := by show _ = _; rw [hbW, HP.out]
    have G3 := G2.below hb3
    have c3 : w3.cell? ⟨bx, 0, none⟩ = some (.string s) := (hb3.cell bl2).trans c2
    have bl3 := Nat.lt_of_lt_of_le bl2 hb3.size
    have B3 := B2.trans (hb3.mono B2.size)
    clear hbW G2 c2 bl2 B2 hb3
    cases bW
    · go_wp2_with fail
      refine (IsName_any p w3 G3).mono ?_
      rintro e w4 ⟨rfl, hb4⟩
      obtain ⟨bN, hbN⟩ : ∃ b, b = Lx.isName p.data.toList := ⟨_, rfl⟩
      rw [← hbN]
      have HN : Hid (Lx.isName (s.data.toList.takeWhile Lx.isPt) = bN) := by show _ = _; rw [hbN, HP.out]
      have G4 := G3.below hb4
      have c4 : w4.cell? ⟨bx, 0, none⟩ = some (.string s) := (hb4.cell bl3).trans c3
      have bl4 := Nat.lt_of_lt_of_le bl3 hb4.size
      have B4 := B3.trans (hb4.mono B3.size)
      clear hbN G3 c3 bl3 B3 hb4
      cases bN
      · by_cases hpe : p.toList = []
        · have hpe2 : (!p.toList.isEmpty) = false := by simp [hpe]
          have HPE : Hid (s.data.toList.takeWhile Lx.isPt = []) := by show _ = _; rw [← HP.out]; exact toList_nil.1 hpe
          obtain ⟨sb, so, sc, g1, g2⟩ := G4.signs
          have HS : Hid _ := first_sign HE.out HPE.out
          have HP1 : PredAt Tryz.prog 62 #[.pointer (some ⟨bx, 0, none⟩)] (fun b : ByteArray => Value.string b) (fun y => Lib.hasPrefix s.data.toList y.data.toList) w4 := by
            intro W x hW
            refine (first1_any s x bx W ((hW.cell bl4).trans c4)).mono fun e w' ⟨he, hw⟩ => ⟨he, 0, ?_⟩
            rw [hw]; rfl
          have cI := Tryz.slices_IndexFunc (fun b : ByteArray => Value.string b) (fun y => Lib.hasPrefix s.data.toList y.data.toList) 62 #[.pointer (some ⟨bx, 0, none⟩)] eFirst1 sb so 16 sc signsB w4 HP1 (by decide) (by omega) (fun j hj => by
            rw [g2 j hj, signsB_get j hj])
          have hidx := Lx.idx_find (fun y : ByteArray => Lib.hasPrefix s.data.toList y.data.toList) default (signsB.take 16) 0
          have ht : signsB.take 16 = signsB := List.take_of_length_le (by decide)
          rw [ht] at hidx cI
          have hfs : Lx.signs.find? (·.isPrefixOf s.data.toList) = (signsB.find? (fun y => Lib.hasPrefix s.data.toList y.data.toList)).map (fun b => b.data.toList) := signsB_find s.data.toList
          unfold Lib.idxBy at cI
          rcases hidx with ⟨h1, h2⟩ | ⟨k, x, hk, h1, h2⟩
          · rw [h1] at cI
            have HF : Hid (Lx.first s.data.toList = .err 5) := by
              show _ = _
              rw [HS.out, hfs, h2]; rfl
            clear hfs h1 h2 ht g2 HP1 HS
            go_wp2_with fail
            refine cI.mono ?_
            rintro e w5 ⟨rfl, q, rfl⟩
            go_wp2_with fail
            go_ret3
            exact ⟨0, 5, ⟨#[]⟩, rfl, Or.inr ⟨by omega, HF.out⟩, below_drewN' B4 q⟩
          · rw [h1, Nat.zero_add] at cI
            have HF : Hid (Lx.first s.data.toList = .tok 4 x.data.toList) := by
              show _ = _
              rw [HS.out, hfs, h2]; rfl
            have hk16 : k < 16 := (List.getElem?_eq_some_iff.1 hk).1
            have gk := g2 k hk16
            have hx : (⟨(Lx.signs.getD k []).toArray⟩ : ByteArray) = x := by
              have := signsB_get k hk16
              rw [← this, getElem!_pos signsB k hk16]
              exact (List.getElem?_eq_some_iff.1 hk).2
            rw [hx] at gk
            have hk0 : (0 : Int) ≤ (k : Int) := by omega
            have hk1 : (k : Int) < 16 := by omega
            clear hfs h1 h2 ht g2 HP1 HS hx hk
            go_wp2_with fail
            refine cI.mono ?_
            rintro e w5 ⟨rfl, q, rfl⟩
            clear cI
            go_wp2_with fail
            go_quiet (fail)
            go_wp2_with fail
            go_ret3
            exact ⟨4, 0, x, rfl, Or.inl ⟨rfl, HF.out⟩, below_drewN' (below_drewN' B4 q) _⟩
        · have hpe2 : (!p.toList.isEmpty) = true := by simp [hpe]
          have HPE : Hid (s.data.toList.takeWhile Lx.isPt ≠ []) := by show _ ≠ _; rw [← HP.out]; exact fun h => hpe (toList_nil.2 h)
          go_wp2_with fail
          go_ret3
          exact ⟨0, 5, ⟨#[]⟩, rfl, Or.inr ⟨by omega, first_none HE.out HW.out HN.out HPE.out⟩, B4⟩
      · go_wp2_with fail
        go_ret3
        exact ⟨1, 0, p, rfl, Or.inl ⟨rfl, by rw [HP.out]; exact first_name HE.out HW.out HN.out⟩, B4⟩
    · go_wp2_with fail
      go_ret3
      exact ⟨3, 0, p, rfl, Or.inl ⟨rfl, by rw [HP.out]; exact first_word HE.out HW.out⟩, B3⟩
  · have he2 : (!d.toList.isEmpty) = true := by simp [he]
    have HE : Hid (s.data.toList.takeWhile Lx.isDig ≠ []) := by show _ ≠ _; rw [← HD.out]; exact fun h => he (toList_nil.2 h)
    have hall : d.data.toList.all Lx.isDig = true := by rw [HD.out]; exact List.all_takeWhile
    have hne : d.data.toList ≠ [] := fun h => he (toList_nil.2 h)
    have hsz := size_toList d
    have hpos : 0 < d.size := by rw [← hsz]; exact List.length_pos_iff.2 hne
    by_cases hl : 10 < d.size
    · have hm : (min (d.size : Int) 10).toNat = 10 := by omega
      obtain ⟨tb, htb⟩ : ∃ tb : ByteArray, tb = d.extract 0 10 := ⟨_, rfl⟩
      have hat : Lib.atoiAll tb.data.toList = .ok (Lx.val tb.data.toList : Int) := by
        have e : tb.data.toList = d.data.toList.take 10 := by rw [htb, extract_take]
        refine Lx.atoi_digits ?_ ?_ ?_
        · rw [e, List.all_eq_true]; intro x hx; exact List.all_eq_true.1 hall x (List.mem_of_mem_take hx)
        · rw [e]; intro h; have h2 : (d.data.toList.take 10).length = 0 := by rw [h]; rfl
          rw [List.length_take] at h2; omega
        · rw [e, List.length_take]; omega
      have htl : tb.size ≤ 10 := by rw [← size_toList, htb, extract_take, List.length_take]; omega
      have HBIG : Hid (Lx.tooBig d.data.toList = true) := by
        show _ = _
        unfold Lx.tooBig; rw [hsz]; simp [hl]
      generalize Lx.val tb.data.toList = v at hat
      clear htl hne hsz hall
      go_wp2_with fail
      rw [← htb]
      refine (Tryz.strconv_Atoi_ok tb (by rw [htb]; have := extract_take d 10; rw [← size_toList, this, List.length_take]; omega) v hat w1).mono ?_
      rintro e w2 ⟨rfl, hw2⟩
      have hb2 : Below w1.heap.size w1 w2 := by
        rcases hw2 with hw2 | ⟨t, hw2⟩
        · rw [hw2]; exact Below.refl _ _
        · rw [hw2]; exact Lib.bytesWorld_below _ _ _
      clear hw2 hat htb hm
      have B2 := B1.trans (hb2.mono B1.size)
      go_wp2_with fail
      go_ret3
      exact ⟨0, 2, ⟨#[]⟩, rfl, Or.inr ⟨by omega, by rw [first_dig HE.out, ← HD.out, HBIG.out]; rfl⟩, B2⟩
    · have hm : (min (d.size : Int) 10).toNat = d.size := by omega
      have hex : d.extract 0 d.size = d := by
        apply ByteArray.ext; simp
      have hat : Lib.atoiAll d.data.toList = .ok (Lx.val d.data.toList : Int) := Lx.atoi_digits hall hne (by omega)
      obtain ⟨v, hv⟩ : ∃ v, v = Lx.val d.data.toList := ⟨_, rfl⟩
      rw [← hv] at hat
      have TB : Hid (Lx.tooBig d.data.toList = true ↔ 10 < d.size ∨ 2147483647 < v ∨ (1 < d.size ∧ d[0] = 48)) := by
        have := tooBig_iff d.data.toList
        rw [hsz, ← hv, headD_byte d hpos] at this
        exact this
      have hl' : d.size ≤ 10 := by omega
      clear hne hsz hall hl hv
      go_wp2_with fail
      clear hex hm
      refine (Tryz.strconv_Atoi_ok d (by omega) v hat w1).mono ?_
      rintro e w2 ⟨rfl, hw2⟩
      have hb2 : Below w1.heap.size w1 w2 := by
        rcases hw2 with hw2 | ⟨t, hw2⟩
        · rw [hw2]; exact Below.refl _ _
        · rw [hw2]; exact Lib.bytesWorld_below _ _ _
      clear hw2 hat
      have B2 := B1.trans (hb2.mono B1.size)
      go_wp2_with fail
      · have h1 : (1 : Int) < (d.size : Int) := by assumption
        rename_i h
        have h48 : d[0] = 48 := by
          rcases h with h | h
          · omega
          · exact byte48.1 h
        have hT : Lx.tooBig d.data.toList = true := TB.out.2 (Or.inr (Or.inr ⟨by omega, h48⟩))
        clear h
        go_ret3
        exact ⟨0, 2, ⟨#[]⟩, rfl, Or.inr ⟨by omega, by rw [first_dig HE.out, ← HD.out, hT]; rfl⟩, B2⟩
      · rename_i h
        have hT : Lx.tooBig d.data.toList = false := by
          rw [← Bool.not_eq_true, TB.out]
          rintro (q | q | ⟨_, q⟩)
          · omega
          · omega
          · rw [byte48.2 q] at h; exact absurd h.2 (by simp)
        clear h
        go_ret3
        exact ⟨2, 0, d, rfl, Or.inl ⟨rfl, by rw [first_dig HE.out, ← HD.out, hT]; rfl⟩, B2⟩
      · have hT : Lx.tooBig d.data.toList = false := by
          rw [← Bool.not_eq_true, TB.out]
          rintro (q | q | ⟨q, _⟩)
          · omega
          · omega
          · omega
        go_ret3
        exact ⟨2, 0, d, rfl, Or.inl ⟨rfl, by rw [first_dig HE.out, ← HD.out, hT]; rfl⟩, B2⟩
      · have hT : Lx.tooBig d.data.toList = true := TB.out.2 (Or.inr (Or.inl (by omega)))
        go_ret3
        exact ⟨0, 2, ⟨#[]⟩, rfl, Or.inr ⟨by omega, by rw [first_dig HE.out, ← HD.out, hT]; rfl⟩, B2⟩
end Go.Proofs.YtahalimekacliaaGreatDoor
