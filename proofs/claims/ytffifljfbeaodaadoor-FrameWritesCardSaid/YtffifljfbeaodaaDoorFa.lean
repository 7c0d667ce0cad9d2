/- Rows of numbers and truths as lines of a text: the plain mathematics. -/
namespace Go.Proofs.YtffifljfbeaodaaDoor.Fx

abbrev Bs := List UInt8

/-! ### lines -/
def lineOf (s : Bs) : Bs := s.takeWhile (· != 10)
def restOf (s : Bs) : Bs := (s.dropWhile (· != 10)).drop 1
def linesF : Nat → Bs → List Bs
  | 0, _ => []
  | f + 1, s => if s.isEmpty then [] else lineOf s :: linesF f (restOf s)
def lines (s : Bs) : List Bs := linesF (s.length + 1) s

theorem rest_len {s : Bs} (h : s ≠ []) : (restOf s).length < s.length := by
  unfold restOf
  have := (List.dropWhile_suffix (fun c : UInt8 => c != 10) (l := s)).length_le
  have h2 : 0 < s.length := List.length_pos_iff.2 h
  simp only [List.length_drop]; omega
theorem linesF_fuel : ∀ (f g : Nat) (s : Bs), s.length < f → s.length < g → linesF f s = linesF g s
  | 0, _, _, h, _ => by omega
  | _, 0, _, _, h => by omega
  | f + 1, g + 1, s, hf, hg => by
    simp only [linesF]
    split
    · rfl
    · rename_i h
      have hs : s ≠ [] := by simpa using h
      have := rest_len hs
      rw [linesF_fuel f g _ (by omega) (by omega)]
theorem lines_nil : lines [] = [] := rfl
theorem lines_cons {s : Bs} (h : s ≠ []) : lines s = lineOf s :: lines (restOf s) := by
  have := rest_len h
  show linesF (s.length + 1) s = _
  simp only [linesF]
  rw [if_neg (by simpa using h)]
  rw [show linesF s.length (restOf s) = lines (restOf s) from linesF_fuel _ _ _ (by omega) (by omega)]
theorem lines_ind {P : Bs → Prop} (h0 : P []) (h1 : ∀ s, s ≠ [] → P (restOf s) → P s) : ∀ s, P s := by
  have key : ∀ n (s : Bs), s.length < n → P s := by
    intro n
    induction n with
    | zero => intro s h; omega
    | succ n ih =>
      intro s h
      by_cases hs : s = []
      · subst hs; exact h0
      · have := rest_len hs
        exact h1 s hs (ih _ (by omega))
  exact fun s => key _ s (Nat.lt_succ_self _)

theorem line_mem {s : Bs} (h : (10 : UInt8) ∈ s) (t : Bs) : lineOf (s ++ t) = lineOf s ∧ restOf (s ++ t) = restOf s ++ t := by
  unfold lineOf restOf
  induction s with
  | nil => simp at h
  | cons c s ih =>
    by_cases hc : c = 10
    · subst hc; simp
    · have h1 : (c != 10) = true := by simpa using hc
      have h2 := ih (by simpa [Ne.symm hc] using h)
      simp only [List.cons_append, List.takeWhile_cons, List.dropWhile_cons, h1, if_true, h2.1, h2.2]
      exact ⟨trivial, trivial⟩
theorem line_not {s : Bs} (h : (10 : UInt8) ∉ s) (t : Bs) : lineOf (s ++ 10 :: t) = s ∧ restOf (s ++ 10 :: t) = t := by
  unfold lineOf restOf
  induction s with
  | nil => simp
  | cons c s ih =>
    have hc : c ≠ 10 := by rintro rfl; simp at h
    have h1 : (c != 10) = true := by simpa using hc
    have h2 := ih (by simp at h; exact h.2)
    simp only [List.cons_append, List.takeWhile_cons, List.dropWhile_cons, h1, if_true, h2.1, h2.2]
    exact ⟨trivial, trivial⟩
theorem line_all {s : Bs} (h : (10 : UInt8) ∉ s) : lineOf s = s ∧ restOf s = [] := by
  unfold lineOf restOf
  induction s with
  | nil => exact ⟨rfl, rfl⟩
  | cons c s ih =>
    have hc : c ≠ 10 := by rintro rfl; simp at h
    have h1 : (c != 10) = true := by simpa using hc
    have h2 := ih (by simp at h; exact h.2)
    simp only [List.takeWhile_cons, List.dropWhile_cons, h1, if_true, h2.1, h2.2]
    exact ⟨trivial, trivial⟩

/-- Two texts, a line's end between them. -/
theorem lines_two (t : Bs) : ∀ s, lines (s ++ 10 :: t) = lines (s ++ [10]) ++ lines t := by
  refine lines_ind ?_ ?_
  · rw [List.nil_append, List.nil_append, lines_cons (by simp), lines_cons (s := [10]) (by simp)]
    have h1 := line_not (s := []) (by simp) t
    have h2 := line_not (s := []) (by simp) []
    simp only [List.nil_append] at h1 h2
    rw [h1.1, h1.2, h2.1, h2.2, lines_nil]; rfl
  · intro s _ ih
    by_cases h : (10 : UInt8) ∈ s
    · rw [lines_cons (s := s ++ 10 :: t) (by simp), lines_cons (s := s ++ [10]) (by simp), (line_mem h _).1, (line_mem h _).2, (line_mem h _).1, (line_mem h _).2, ih]; rfl
    · rw [lines_cons (s := s ++ 10 :: t) (by simp), lines_cons (s := s ++ [10]) (by simp), (line_not h t).1, (line_not h t).2, (line_not h []).1, (line_not h []).2, lines_nil]; rfl
theorem lines_line {l : Bs} (h : (10 : UInt8) ∉ l) (t : Bs) : lines (l ++ 10 :: t) = l :: lines t := by
  rw [lines_cons (by simp), (line_not h t).1, (line_not h t).2]
theorem lines_len (s : Bs) : (lines s).length ≤ s.length := by
  refine lines_ind (P := fun s => (lines s).length ≤ s.length) ?_ ?_ s
  · simp [lines_nil]
  · intro s h ih
    rw [lines_cons h]
    have := rest_len h
    simp only [List.length_cons]; omega

/-! ### words -/
def wordOf (s : Bs) : Bs := s.takeWhile (· != 32)
def behind (s : Bs) : Bs := s.dropWhile (· != 32)
def skip (s : Bs) : Bs := s.dropWhile (· == 32)
def wordsF : Nat → Bs → List Bs
  | 0, _ => []
  | f + 1, s => if (skip s).isEmpty then [] else wordOf (skip s) :: wordsF f (behind (skip s))
def words (s : Bs) : List Bs := wordsF (s.length + 1) s

theorem skip_len (s : Bs) : (skip s).length ≤ s.length := (List.dropWhile_suffix _).length_le
theorem skip_head {s : Bs} {c : UInt8} {r : Bs} (h : skip s = c :: r) : c ≠ 32 := by
  unfold skip at h
  induction s with
  | nil => simp at h
  | cons x s ih =>
    rw [List.dropWhile_cons] at h
    split at h
    · exact ih h
    · rename_i hx; cases h; simpa using hx
theorem behind_len {s : Bs} {c : UInt8} {r : Bs} (h : s = c :: r) (hc : c ≠ 32) : (behind s).length < s.length := by
  subst h
  unfold behind
  rw [List.dropWhile_cons, if_pos (by simpa using hc)]
  have := (List.dropWhile_suffix (fun c : UInt8 => c != 32) (l := r)).length_le
  simp; omega
theorem wordsF_fuel : ∀ (f g : Nat) (s : Bs), s.length < f → s.length < g → wordsF f s = wordsF g s
  | 0, _, _, h, _ => by omega
  | _, 0, _, _, h => by omega
  | f + 1, g + 1, s, hf, hg => by
    simp only [wordsF]
    split
    · rfl
    · rename_i h
      have hl := skip_len s
      cases hs : skip s with
      | nil => rw [hs] at h; simp at h
      | cons c r =>
        have := behind_len hs (skip_head hs)
        rw [hs] at this hl
        rw [wordsF_fuel f g _ (by omega) (by omega)]
theorem words_skip {s : Bs} (h : skip s = []) : words s = [] := by
  unfold words; simp only [wordsF]; rw [h]; rfl
theorem words_cons {s : Bs} {c : UInt8} {r : Bs} (h : skip s = c :: r) : words s = wordOf (skip s) :: words (behind (skip s)) := by
  have hl := skip_len s
  have := behind_len h (skip_head h)
  show wordsF (s.length + 1) s = _
  simp only [wordsF]
  rw [if_neg (by rw [h]; simp)]
  rw [show wordsF s.length (behind (skip s)) = words (behind (skip s)) from wordsF_fuel _ _ _ (by omega) (by omega)]
theorem words_nil : words [] = [] := rfl
theorem words_blank (s : Bs) : words (32 :: s) = words s := by
  have e : skip (32 :: s) = skip s := by unfold skip; rw [List.dropWhile_cons, if_pos (by decide)]
  cases h : skip s with
  | nil => rw [words_skip (e.trans h), words_skip h]
  | cons c r => rw [words_cons (e.trans h), words_cons h, e]
theorem words_word {c : UInt8} (hc : c ≠ 32) (s : Bs) : words (c :: s) = wordOf (c :: s) :: words (behind (c :: s)) := by
  have e : skip (c :: s) = c :: s := by unfold skip; rw [List.dropWhile_cons, if_neg (by simpa using hc)]
  rw [words_cons e, e]
theorem wordOf_behind (s : Bs) : wordOf s ++ behind s = s := List.takeWhile_append_dropWhile
theorem word_no {w : Bs} (h : (32 : UInt8) ∉ w) (s : Bs) : wordOf (w ++ 32 :: s) = w ∧ behind (w ++ 32 :: s) = 32 :: s := by
  unfold wordOf behind
  induction w with
  | nil => simp
  | cons c w ih =>
    have hc : c ≠ 32 := by rintro rfl; simp at h
    have h1 : (c != 32) = true := by simpa using hc
    have h2 := ih (by simp at h; exact h.2)
    simp only [List.cons_append, List.takeWhile_cons, List.dropWhile_cons, h1, if_true, h2.1, h2.2]
    exact ⟨trivial, trivial⟩
theorem word_end {w : Bs} (h : (32 : UInt8) ∉ w) : wordOf w = w ∧ behind w = [] := by
  unfold wordOf behind
  induction w with
  | nil => exact ⟨rfl, rfl⟩
  | cons c w ih =>
    have hc : c ≠ 32 := by rintro rfl; simp at h
    have h1 : (c != 32) = true := by simpa using hc
    have h2 := ih (by simp at h; exact h.2)
    simp only [List.takeWhile_cons, List.dropWhile_cons, h1, if_true, h2.1, h2.2]
    exact ⟨trivial, trivial⟩
/-- A word, and what stands behind a blank. -/
theorem words_two {w : Bs} (h : (32 : UInt8) ∉ w) (s : Bs) : words (w ++ 32 :: s) = (if w.isEmpty then [] else [w]) ++ words s := by
  cases w with
  | nil => exact words_blank s
  | cons c w =>
    have hc : c ≠ 32 := by rintro rfl; simp at h
    have e := word_no h s
    simp only [List.cons_append] at e ⊢
    rw [words_word hc, e.1, e.2, words_blank]; rfl
theorem words_one {w : Bs} (h : (32 : UInt8) ∉ w) : words w = if w.isEmpty then [] else [w] := by
  cases w with
  | nil => rfl
  | cons c w =>
    have hc : c ≠ 32 := by rintro rfl; simp at h
    rw [words_word hc, (word_end h).1, (word_end h).2]; rfl

/-- Joined words. -/
def joinW : List Bs → Bs
  | [] => []
  | [w] => w
  | w :: l => w ++ 32 :: joinW l
theorem words_join : ∀ (l : List Bs), (∀ w ∈ l, w ≠ [] ∧ (32 : UInt8) ∉ w) → words (joinW l) = l
  | [], _ => rfl
  | [w], h => by
    have := h w (by simp)
    show words w = [w]
    rw [words_one this.2, if_neg (by simpa using this.1)]
  | w :: x :: l, h => by
    have h1 := h w (by simp)
    have h2 := words_join (x :: l) fun y hy => h y (by simp only [List.mem_cons] at hy ⊢; exact Or.inr hy)
    show words (w ++ 32 :: joinW (x :: l)) = _
    rw [words_two h1.2, h2, if_neg (by simpa using h1.1)]; rfl
theorem join_no10 : ∀ (l : List Bs), (∀ w ∈ l, (10 : UInt8) ∉ w) → (10 : UInt8) ∉ joinW l
  | [], _ => by simp [joinW]
  | [w], h => h w (by simp)
  | w :: x :: l, h => by
    have h1 := h w (by simp)
    have h2 := join_no10 (x :: l) fun y hy => h y (by simp only [List.mem_cons] at hy ⊢; exact Or.inr hy)
    show (10 : UInt8) ∉ w ++ 32 :: joinW (x :: l)
    simp [h1, h2]
theorem join_snoc (l : List Bs) (w : Bs) : joinW (l ++ [w]) = if l = [] then w else joinW l ++ 32 :: w := by
  induction l with
  | nil => rfl
  | cons a l ih =>
    cases l with
    | nil => simp [joinW]
    | cons b l =>
      have e2 : ∀ m : List Bs, m ≠ [] → joinW (a :: m) = a ++ 32 :: joinW m := by
        intro m hm
        cases m with
        | nil => exact absurd rfl hm
        | cons _ _ => rfl
      show joinW (a :: ((b :: l) ++ [w])) = _
      rw [e2 _ (by simp), ih, if_neg (by simp), if_neg (by simp), e2 (b :: l) (by simp)]
      simp
theorem words_sum (s : Bs) : ((words s).map (fun w => w.length + 1)).sum ≤ s.length + 1 := by
  have key : ∀ (n : Nat) (s : Bs), s.length < n → ((words s).map (fun w => w.length + 1)).sum ≤ s.length + 1 := by
    intro n
    induction n with
    | zero => intro s h; omega
    | succ n ih =>
      intro s h
      have hl := skip_len s
      cases hs : skip s with
      | nil => rw [words_skip hs]; simp
      | cons c r =>
        have hb := behind_len hs (skip_head hs)
        have hw := congrArg List.length (wordOf_behind (skip s))
        rw [List.length_append] at hw
        rw [words_cons hs, List.map_cons, List.sum_cons]
        cases hq : behind (skip s) with
        | nil => rw [words_nil]; rw [hq] at hw; simp at hw ⊢; omega
        | cons d q =>
          have hd : d = 32 := by
            have : ∀ l : Bs, ∀ d q, behind l = d :: q → d = 32 := by
              intro l
              unfold behind
              induction l with
              | nil => intro d q h; simp at h
              | cons x l ih =>
                intro d q h
                rw [List.dropWhile_cons] at h
                split at h
                · exact ih d q h
                · rename_i hx; cases h; simpa using hx
            exact this _ d q hq
          subst hd
          rw [words_blank]
          rw [hq] at hw hb
          have := ih q (by simp at hb hw; omega)
          simp at hw; omega
  exact key _ s (Nat.lt_succ_self _)

/-! ### numbers -/
def fits (n : Int) : Bool := decide (-2147483648 ≤ n) && decide (n ≤ 2147483647)
def isD (c : UInt8) : Bool := 48 ≤ c && c ≤ 57
def val (l : Bs) : Nat := l.foldl (fun n c => 10 * n + (c.toNat - 48)) 0
def size (d : Bs) : Option Nat := if d.isEmpty || decide (10 < d.length) || (d.headD 0 == 48 && decide (1 < d.length)) || !d.all isD then none else some (val d)
def readInt (w : Bs) : Option Int :=
  match w with
  | 45 :: d => match size d with
    | some n => if 0 < n ∧ n ≤ 2147483648 then some (-(n : Int)) else none
    | none => none
  | d => match size d with
    | some n => if n ≤ 2147483647 then some (n : Int) else none
    | none => none
def tru : Bs := [116, 114, 117, 101]
def fal : Bs := [102, 97, 108, 115, 101]
def readW (t : Int) (w : Bs) : Option Int := if t = 1 then (if w = tru then some 1 else if w = fal then some 0 else none) else if t = 2 then readInt w else none
def readZ : List Int → List Bs → Option (List Int)
  | [], [] => some []
  | t :: ts, w :: ws => match readW t w with
    | some n => match readZ ts ws with
      | some l => some (n :: l)
      | none => none
    | none => none
  | _, _ => none
def readRow (types : List Int) (line : Bs) : Option (List Int) := readZ types (words line)
def readLs (types : List Int) : List Bs → List (List Int) × Bool
  | [] => ([], false)
  | l :: r => match readRow types l with
    | some x => (x :: (readLs types r).1, (readLs types r).2)
    | none => ([], true)
def readS (types : List Int) (s : Bs) : List (List Int) × Bool := readLs types (lines s)

theorem readLs_append (types : List Int) : ∀ (a b : List Bs), readLs types (a ++ b) = if (readLs types a).2 then readLs types a else ((readLs types a).1 ++ (readLs types b).1, (readLs types b).2)
  | [], b => by simp [readLs]
  | l :: a, b => by
    have hor : readRow types l = none ∨ ∃ x, readRow types l = some x := by
      cases readRow types l with
      | none => exact Or.inl rfl
      | some x => exact Or.inr ⟨x, rfl⟩
    rcases hor with h | ⟨x, h⟩
    · simp only [List.cons_append, readLs, h]; simp
    · simp only [List.cons_append, readLs, h, readLs_append types a b]
      split <;> simp_all
theorem readZ_len : ∀ {ts : List Int} {ws : List Bs} {l : List Int}, readZ ts ws = some l → l.length = ts.length ∧ ws.length = ts.length
  | [], [], l, h => by simp [readZ] at h; subst h; exact ⟨rfl, rfl⟩
  | [], _ :: _, l, h => by simp [readZ] at h
  | _ :: _, [], l, h => by simp [readZ] at h
  | t :: ts, w :: ws, l, h => by
    simp only [readZ] at h
    split at h
    · split at h
      · rename_i _ l' h'
        cases h
        have := readZ_len h'
        simp [this]
      · cases h
    · cases h

/-! ### what is written -/
def dg (n : Nat) : UInt8 := UInt8.ofNat (48 + n)
def decF : Nat → Nat → Bs
  | 0, _ => []
  | f + 1, n => if n < 10 then [dg n] else decF f (n / 10) ++ [dg (n % 10)]
def dec (n : Nat) : Bs := decF (n + 1) n
def itoa (n : Int) : Bs := if n < 0 then 45 :: dec n.natAbs else dec n.toNat
theorem decF_fuel : ∀ (f g n : Nat), n < f → n < g → decF f n = decF g n
  | 0, _, _, h, _ => by omega
  | _, 0, _, _, h => by omega
  | f + 1, g + 1, n, hf, hg => by
    simp only [decF]
    split
    · rfl
    · rw [decF_fuel f g (n / 10) (by omega) (by omega)]
theorem dec_small {n : Nat} (h : n < 10) : dec n = [dg n] := by unfold dec; simp only [decF]; rw [if_pos h]
theorem dec_big {n : Nat} (h : ¬ n < 10) : dec n = dec (n / 10) ++ [dg (n % 10)] := by
  show decF (n + 1) n = _
  simp only [decF]
  rw [if_neg h, show decF n (n / 10) = dec (n / 10) from decF_fuel _ _ _ (by omega) (by omega)]
theorem val_snoc (l : Bs) (c : UInt8) : val (l ++ [c]) = 10 * val l + (c.toNat - 48) := by simp [val, List.foldl_append]
theorem byte_of {n : Nat} (h : n < 10) : (dg n).toNat = 48 + n := by
  unfold dg; rw [UInt8.toNat_ofNat']; exact Nat.mod_eq_of_lt (by omega)
theorem isD_of {n : Nat} (h : n < 10) : isD (dg n) = true := by
  simp only [isD, Bool.and_eq_true, decide_eq_true_eq, UInt8.le_iff_toNat_le, byte_of h]
  have h1 : (48 : UInt8).toNat = 48 := rfl
  have h2 : (57 : UInt8).toNat = 57 := rfl
  omega
theorem isD_nat {c : UInt8} (h : isD c = true) : 48 ≤ c.toNat ∧ c.toNat ≤ 57 := by
  simp only [isD, Bool.and_eq_true, decide_eq_true_eq, UInt8.le_iff_toNat_le] at h
  exact h

/-- What the digits of a number are. -/
theorem dec_is (n : Nat) : (dec n).all isD = true ∧ val (dec n) = n ∧ dec n ≠ [] ∧ ((dec n).headD 0 = 48 → n = 0) ∧ ∀ k, n < 10 ^ (k + 1) → (dec n).length ≤ k + 1 := by
  induction n using Nat.strongRecOn with
  | ind n ih =>
    by_cases h : n < 10
    · rw [dec_small h]
      refine ⟨by simp [isD_of h], by simp [val, byte_of h], by simp, fun h0 => ?_, fun k _ => by simp⟩
      have := congrArg UInt8.toNat h0
      simp only [List.headD_cons, byte_of h] at this
      have h2 : (48 : UInt8).toNat = 48 := rfl
      omega
    · obtain ⟨i1, i2, i3, i4, i5⟩ := ih (n / 10) (by omega)
      rw [dec_big h]
      have hm : n % 10 < 10 := Nat.mod_lt _ (by omega)
      refine ⟨by rw [List.all_append, i1]; simp [isD_of hm], by rw [val_snoc, i2, byte_of hm]; omega, by simp, fun h0 => ?_, fun k hk => ?_⟩
      · have : (dec (n / 10)).headD 0 = 48 := by
          cases hq : dec (n / 10) with
          | nil => exact absurd hq i3
          | cons c r => rw [hq] at h0; simpa using h0
        have := i4 this; omega
      · rw [List.length_append, List.length_singleton]
        cases k with
        | zero => simp at hk; omega
        | succ k =>
          have := i5 k (by rw [Nat.pow_succ] at hk; omega)
          omega
/-- Digits that do not begin with 0 are those of their number. -/
theorem fold_pos (r : Bs) : ∀ n : Nat, n ≤ r.foldl (fun n c => 10 * n + (c.toNat - 48)) n := by
  induction r with
  | nil => intro n; exact Nat.le_refl _
  | cons c r ih => intro n; rw [List.foldl_cons]; have := ih (10 * n + (c.toNat - 48)); omega
theorem dec_val : ∀ (n : Nat) (d : Bs), d.length = n + 1 → d.all isD = true → (d.headD 0 = 48 → d.length = 1) → dec (val d) = d
  | 0, d, hl, hd, _ => by
    match d, hl with
    | [c], _ =>
      simp at hd
      have hc := isD_nat hd
      have : val [c] = c.toNat - 48 := by simp [val]
      rw [this, dec_small (by omega)]
      congr 1
      rw [← UInt8.toNat_inj, byte_of (by omega)]; omega
  | n + 1, d, hl, hd, hh => by
    have hne : d ≠ [] := by intro e; rw [e] at hl; simp at hl
    obtain ⟨r, c, rfl⟩ : ∃ r c, d = r ++ [c] := ⟨d.dropLast, d.getLast hne, (List.dropLast_concat_getLast hne).symm⟩
    simp at hl
    rw [List.all_append, Bool.and_eq_true] at hd
    have hc := isD_nat (c := c) (by simpa using hd.2)
    have hr : r.headD 0 = 48 → r.length = 1 := by
      intro h0
      cases r with
      | nil => simp at hl
      | cons x q =>
        have := hh (by simpa using h0)
        simp at this
    have ih := dec_val n r (by omega) hd.1 hr
    have hpos : 1 ≤ val r := by
      cases r with
      | nil => simp at hl
      | cons x q =>
        have hx : x ≠ 48 := by
          rintro rfl
          have := hh (by simp)
          simp at this
        simp at hd
        have hxd := isD_nat hd.1.1
        have h2 : x.toNat ≠ 48 := fun e => hx (by rw [← UInt8.toNat_inj]; exact e)
        have := fold_pos q (10 * 0 + (x.toNat - 48))
        show 1 ≤ List.foldl _ 0 (x :: q)
        rw [List.foldl_cons]; omega
    rw [val_snoc, dec_big (by omega)]
    have e1 : (10 * val r + (c.toNat - 48)) / 10 = val r := by omega
    have e2 : (10 * val r + (c.toNat - 48)) % 10 = c.toNat - 48 := by omega
    rw [e1, e2, ih]
    congr 2
    rw [← UInt8.toNat_inj, byte_of (by omega)]; omega

theorem size_some {d : Bs} {n : Nat} (h : size d = some n) : d = dec n ∧ n < 10000000000 := by
  unfold size at h
  split at h
  · cases h
  · rename_i hc
    simp only [Bool.or_eq_true, Bool.not_eq_true', not_or, Bool.not_eq_true, Bool.and_eq_true, decide_eq_true_eq, not_and, Bool.not_eq_false] at hc
    obtain ⟨⟨⟨h1, h2⟩, h3⟩, h4⟩ := hc
    cases h
    have hne : d ≠ [] := by simpa using h1
    have hlen : 0 < d.length := List.length_pos_iff.2 hne
    have hv : ∀ (l : Bs) (acc : Nat), l.all isD = true → l.foldl (fun n c => 10 * n + (c.toNat - 48)) acc < (acc + 1) * 10 ^ l.length := by
      intro l
      induction l with
      | nil => intro acc _; simp
      | cons c l ih =>
        intro acc h
        simp only [List.all_cons, Bool.and_eq_true] at h
        have hc := isD_nat h.1
        have := ih (10 * acc + (c.toNat - 48)) h.2
        rw [List.foldl_cons, List.length_cons, Nat.pow_succ]
        refine Nat.lt_of_lt_of_le this ?_
        rw [Nat.mul_comm (10 ^ _), ← Nat.mul_assoc]
        exact Nat.mul_le_mul_right _ (by omega)
    have hb := hv d 0 h4
    have hp : 10 ^ d.length ≤ 10 ^ 10 := Nat.pow_le_pow_right (by omega) (by omega)
    refine ⟨(dec_val (d.length - 1) d (by omega) h4 fun h0 => ?_).symm, by unfold val; omega⟩
    have := h3 (by simpa using h0)
    omega
theorem size_dec {n : Nat} (h : n < 10000000000) : size (dec n) = some n := by
  obtain ⟨h1, h2, h3, h4, h5⟩ := dec_is n
  have hl := h5 9 (by omega)
  unfold size
  rw [if_neg, h2]
  simp only [Bool.or_eq_true, Bool.not_eq_true', not_or, Bool.not_eq_true, Bool.and_eq_true, decide_eq_true_eq, not_and, Bool.not_eq_false]
  refine ⟨⟨⟨by simpa using h3, by omega⟩, fun h0 => ?_⟩, h1⟩
  have := h4 (by simpa using h0)
  subst this
  decide
theorem dec_head (n : Nat) : (dec n).headD 0 ≠ 45 := by
  obtain ⟨h1, _, h3, _, _⟩ := dec_is n
  cases h : dec n with
  | nil => exact absurd h h3
  | cons c r =>
    rw [h] at h1
    simp only [List.all_cons, Bool.and_eq_true] at h1
    have := isD_nat h1.1
    intro e
    simp at e; subst e
    have h2 : (45 : UInt8).toNat = 45 := rfl
    omega
theorem readInt_some {w : Bs} {n : Int} (h : readInt w = some n) : w = itoa n ∧ fits n = true := by
  unfold readInt at h
  split at h
  · rename_i d
    split at h
    · rename_i m hm
      split at h
      · rename_i hb
        cases h
        have hs := (size_some hm).1
        refine ⟨?_, by simp [fits]; omega⟩
        unfold itoa
        rw [if_pos (by omega), Int.natAbs_neg, Int.natAbs_natCast, ← hs]
      · cases h
    · cases h
  · split at h
    · rename_i m hm
      split at h
      · rename_i hb
        cases h
        have hs := (size_some hm).1
        refine ⟨?_, by simp [fits]; omega⟩
        unfold itoa
        rw [if_neg (by omega), Int.toNat_natCast, ← hs]
      · cases h
    · cases h
theorem readInt_itoa {n : Int} (h : fits n = true) : readInt (itoa n) = some n := by
  simp only [fits, Bool.and_eq_true, decide_eq_true_eq] at h
  unfold itoa
  split
  · rename_i hn
    have hs : size (dec n.natAbs) = some n.natAbs := size_dec (by omega)
    unfold readInt
    simp only [hs]
    rw [if_pos (by omega)]
    congr 1; omega
  · rename_i hn
    have hs : size (dec n.toNat) = some n.toNat := size_dec (by omega)
    have hh := dec_head n.toNat
    unfold readInt
    split
    · rename_i d hd
      rw [hd] at hh; simp at hh
    · rw [hs]
      simp only
      rw [if_pos (by omega)]
      congr 1; omega

/-! ### rows out and in -/
def may (t n : Int) : Bool := (decide (t = 2) && fits n) || (decide (t = 1) && (decide (n = 0) || decide (n = 1)))
def text (t n : Int) : Bs := if t = 1 then (if n = 1 then tru else fal) else itoa n
def typeOk (t : Int) : Bool := decide (t = 1) || decide (t = 2)
def rowOk : List Int → List Int → Bool
  | [], [] => true
  | t :: ts, n :: ns => may t n && rowOk ts ns
  | _, _ => false
def rowText (types row : List Int) : Bs := joinW (List.zipWith text types row) ++ [10]
def writeOk (types : List Int) (rows : List (List Int)) : Bool := types.all typeOk && rows.all (rowOk types)
def writeText (types : List Int) (rows : List (List Int)) : Bs := rows.flatMap (rowText types)

theorem read_text {t n : Int} (h : may t n = true) : readW t (text t n) = some n := by
  simp only [may, Bool.or_eq_true, Bool.and_eq_true, decide_eq_true_eq] at h
  unfold readW text
  rcases h with ⟨rfl, h⟩ | ⟨rfl, rfl | rfl⟩
  · exact readInt_itoa h
  · decide
  · decide
theorem may_read {t : Int} {w : Bs} {n : Int} (h : readW t w = some n) : may t n = true ∧ text t n = w := by
  unfold readW at h
  split at h
  · rename_i ht; subst ht
    split at h
    · rename_i hw; cases h; subst hw; exact ⟨by decide, by decide⟩
    · split at h
      · rename_i hw; cases h; subst hw; exact ⟨by decide, by decide⟩
      · cases h
  · split at h
    · rename_i ht; subst ht
      obtain ⟨h1, h2⟩ := readInt_some h
      exact ⟨by simp [may, h2], by unfold text; rw [if_neg (by decide), ← h1]⟩
    · cases h
theorem text_chars {t n : Int} : text t n ≠ [] ∧ (32 : UInt8) ∉ text t n ∧ (10 : UInt8) ∉ text t n := by
  have hd : ∀ m : Nat, dec m ≠ [] ∧ (32 : UInt8) ∉ dec m ∧ (10 : UInt8) ∉ dec m := by
    intro m
    obtain ⟨h1, _, h3, _, _⟩ := dec_is m
    have hno : ∀ c : UInt8, c.toNat < 48 → c ∉ dec m := fun c hc hm => by
      have := isD_nat (List.all_eq_true.1 h1 c hm); omega
    exact ⟨h3, hno 32 (by decide), hno 10 (by decide)⟩
  unfold text
  split
  · split <;> decide
  · unfold itoa
    split
    · obtain ⟨_, h2, h3⟩ := hd n.natAbs
      exact ⟨by simp, by simp [h2], by simp [h3]⟩
    · exact hd n.toNat
theorem rowOk_len : ∀ {ts ns : List Int}, rowOk ts ns = true → ns.length = ts.length
  | [], [], _ => rfl
  | [], _ :: _, h => by simp [rowOk] at h
  | _ :: _, [], h => by simp [rowOk] at h
  | t :: ts, n :: ns, h => by
    simp only [rowOk, Bool.and_eq_true] at h
    simp [rowOk_len h.2]
theorem readZ_text : ∀ {ts ns : List Int}, rowOk ts ns = true → readZ ts (List.zipWith text ts ns) = some ns
  | [], [], _ => rfl
  | [], _ :: _, h => by simp [rowOk] at h
  | _ :: _, [], h => by simp [rowOk] at h
  | t :: ts, n :: ns, h => by
    simp only [rowOk, Bool.and_eq_true] at h
    simp only [List.zipWith_cons_cons, readZ, read_text h.1, readZ_text h.2]
theorem zip_chars (ts ns : List Int) : ∀ w ∈ List.zipWith text ts ns, w ≠ [] ∧ (32 : UInt8) ∉ w ∧ (10 : UInt8) ∉ w := by
  intro w hw
  induction ts generalizing ns with
  | nil => simp at hw
  | cons t ts ih =>
    cases ns with
    | nil => simp at hw
    | cons n ns =>
      simp only [List.zipWith_cons_cons, List.mem_cons] at hw
      rcases hw with rfl | hw
      · exact text_chars
      · exact ih ns hw
theorem row_back {types row : List Int} (h : rowOk types row = true) : readRow types (joinW (List.zipWith text types row)) = some row := by
  unfold readRow
  rw [words_join _ fun w hw => ⟨(zip_chars _ _ w hw).1, (zip_chars _ _ w hw).2.1⟩]
  exact readZ_text h
theorem lines_text (types : List Int) : ∀ (rows : List (List Int)), lines (writeText types rows) = rows.map (fun r => joinW (List.zipWith text types r))
  | [] => rfl
  | r :: rows => by
    show lines (rowText types r ++ writeText types rows) = _
    unfold rowText
    rw [List.append_assoc]
    show lines (joinW (List.zipWith text types r) ++ 10 :: writeText types rows) = _
    rw [lines_line (join_no10 _ fun w hw => (zip_chars _ _ w hw).2.2), lines_text types rows]; rfl
/-- What is written is read. -/
theorem write_read {types : List Int} {rows : List (List Int)} (h : rows.all (rowOk types) = true) : readS types (writeText types rows) = (rows, false) := by
  unfold readS
  rw [lines_text]
  induction rows with
  | nil => rfl
  | cons r rows ih =>
    simp only [List.all_cons, Bool.and_eq_true] at h
    simp only [List.map_cons, readLs, row_back h.1, ih h.2]

theorem rowOk_read : ∀ {ts : List Int} {ws : List Bs} {l : List Int}, readZ ts ws = some l → rowOk ts l = true ∧ List.zipWith text ts l = ws
  | [], [], l, h => by simp [readZ] at h; subst h; exact ⟨rfl, rfl⟩
  | [], _ :: _, l, h => by simp [readZ] at h
  | _ :: _, [], l, h => by simp [readZ] at h
  | t :: ts, w :: ws, l, h => by
    simp only [readZ] at h
    split at h
    · rename_i n hn
      split at h
      · rename_i l' h'
        cases h
        have := rowOk_read h'
        have h2 := may_read hn
        exact ⟨by simp [rowOk, h2.1, this.1], by simp [h2.2, this.2]⟩
      · cases h
    · cases h
theorem rows_read (types : List Int) : ∀ (ls : List Bs), (readLs types ls).1.all (rowOk types) = true ∧ (readLs types ls).1.length ≤ ls.length
  | [] => ⟨rfl, Nat.le_refl _⟩
  | l :: r => by
    have ih := rows_read types r
    simp only [readLs]
    split
    · rename_i x hx
      exact ⟨by simp only [List.all_cons, ih.1, (rowOk_read hx).1, Bool.and_self], by simp only [List.length_cons]; omega⟩
    · exact ⟨rfl, by simp⟩
end Go.Proofs.YtffifljfbeaodaaDoor.Fx
