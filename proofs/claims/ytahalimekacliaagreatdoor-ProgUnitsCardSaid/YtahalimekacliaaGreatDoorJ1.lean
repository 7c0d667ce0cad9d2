/- Tokens: the plain mathematics of a lexer over lists of bytes. Tokens: plain laws of the lexer. Slices that read as lists, each element in some cells; appends of one element. Tokens in memory; bytes, texts: what both lexers share. Texts that are joined: the plain mathematics. -/
import Derived.WalkKit
import Derived.WalkSpells
import Derived.Deep.Onto
import Derived.Deep.AppendLies
import Derived.Deep.Draws
import Derived.OwnWalk
import Derived.Test.YtahalimekacliaaGreatDoorProg
import Derived.Shelf.Abstract
import Derived.Lib.Strings
import Derived.WalkLawsBesides
import Derived.Outline
set_option linter.unusedVariables false
set_option linter.unusedSimpArgs false
namespace Go.Proofs.YtahalimekacliaaGreatDoor.Lx
abbrev Bs := List UInt8
def isDig (c : UInt8) : Bool := 48 ≤ c && c ≤ 57
def isLet (c : UInt8) : Bool := (97 ≤ c && c ≤ 122) || c == 95
def isPt (c : UInt8) : Bool := isLet c || isDig c
def isBl (c : UInt8) : Bool := c == 32 || c == 9 || c == 10 || c == 13
def val (l : Bs) : Nat := l.foldl (fun n c => 10 * n + (c.toNat - 48)) 0
def words : List Bs := [[97, 110, 100], [97, 115, 115, 117, 109, 101], [98, 111, 111, 108], [99, 111, 110, 116, 114, 97, 99, 116], [100, 105, 118], [101, 108, 115, 101], [101, 110, 100], [101, 110, 115, 117, 114, 101], [102, 97, 108, 108, 98, 97, 99, 107], [102, 97, 108, 115, 101], [103, 104, 111, 115, 116], [103, 117, 97, 114, 97, 110, 116, 101, 101], [104, 105, 115, 116], [105, 102], [105, 109, 112, 111, 114, 116], [105, 110, 116], [108, 101, 116], [109, 97, 105, 110], [109, 111, 100], [109, 111, 100, 101], [110, 111, 100, 101], [110, 111, 116], [111, 110, 99, 101], [111, 114], [112, 114, 101], [112, 114, 101, 118], [114, 101, 113, 117, 105, 114, 101], [114, 101, 116, 117, 114, 110, 115], [115, 105, 110, 99, 101], [116, 101, 108], [116, 104, 101, 110], [116, 114, 117, 101], [118, 97, 114], [119, 105, 116, 104, 105, 110], [120, 111, 114]]
def signs : List Bs := [[45, 62], [61, 62], [60, 61], [62, 61], [60, 62], [61], [60], [62], [43], [45], [42], [40], [41], [44], [59], [58]]
def isWord (t : Bs) : Bool := words.contains t
def isName (t : Bs) : Bool := !t.isEmpty && decide (t.length ≤ 40) && t.all isPt && !(t.headD 0 |> isDig) && !isWord t
def tooBig (d : Bs) : Bool := decide (10 < d.length) || decide (2147483647 < val d) || (decide (1 < d.length) && d.headD 0 == 48)
inductive Tk where
  | err (e : Nat)
  | tok (k : Nat) (t : Bs)
def first (r : Bs) : Tk :=
  let d := r.takeWhile isDig
  if d.isEmpty then
    let p := r.takeWhile isPt
    if isWord p then .tok 3 p else if isName p then .tok 1 p else if p.isEmpty then
      match signs.find? (·.isPrefixOf r) with
      | some t => .tok 4 t
      | none => .err 5
    else .err 5
  else if tooBig d then .err 2 else .tok 2 d
def afterLine (r : Bs) : Bs := (r.dropWhile (· != 10)).drop 1
structure R where
  k : Nat
  t : Bs
  m : Nat
def isCom (r : Bs) : Bool := [45, 45].isPrefixOf r
def lexR : Nat → Bs → List R × Option (Nat × Nat)
  | 0, _ => ([], none)
  | f + 1, r =>
    let u := r.dropWhile isBl
    if u.isEmpty then ([], none)
    else if isCom u then lexR f (afterLine u)
    else match first u with
      | .err e => ([], some (e, u.length))
      | .tok k t => (⟨k, t, u.length⟩ :: (lexR f (u.drop t.length)).1, (lexR f (u.drop t.length)).2)
def lexS (s : Bs) : List R × Option (Nat × Nat) := lexR (s.length + 1) s
theorem signs_ne : ∀ t ∈ signs, t ≠ [] ∧ t.length ≤ 2 ∧ ∀ c ∈ t, isBl c = false ∧ isPt c = false := by decide
theorem first_tok {r : Bs} {k : Nat} {t : Bs} (h : first r = .tok k t) : t <+: r ∧ (t ≠ [] ∨ r = []) := by
  unfold first at h
  simp only at h
  split at h
  · split at h
    · rename_i hd hw
      cases h
      refine ⟨List.takeWhile_prefix _, ?_⟩
      by_cases e : r.takeWhile isPt = []
      · rw [e] at hw; exact absurd hw (by decide)
      · exact Or.inl e
    · split at h
      · rename_i hd hw hn
        cases h
        refine ⟨List.takeWhile_prefix _, ?_⟩
        by_cases e : r.takeWhile isPt = []
        · rw [e] at hn; exact absurd hn (by decide)
        · exact Or.inl e
      · split at h
        · split at h
          · rename_i t' hf
            cases h
            have h1 := List.find?_some hf
            have h2 := signs_ne _ (List.mem_of_find?_eq_some hf)
            exact ⟨List.isPrefixOf_iff_prefix.1 h1, Or.inl h2.1⟩
          · cases h
        · cases h
  · split at h
    · cases h
    · rename_i hd _
      cases h
      exact ⟨List.takeWhile_prefix _, Or.inl (by simpa using hd)⟩
theorem drop_len {u t : Bs} (h : t <+: u) (hn : t ≠ []) : (u.drop t.length).length < u.length := by
  have h1 := h.length_le
  have h2 : 0 < t.length := List.length_pos_iff.2 hn
  simp; omega
theorem after_len {u : Bs} (h : u ≠ []) : (afterLine u).length < u.length := by
  unfold afterLine
  have := (List.dropWhile_suffix (fun c : UInt8 => c != 10) (l := u)).length_le
  have h2 : 0 < u.length := List.length_pos_iff.2 h
  simp only [List.length_drop]
  omega
theorem blank_len (r : Bs) : (r.dropWhile isBl).length ≤ r.length := (List.dropWhile_suffix _).length_le
theorem lexR_fuel : ∀ (f g : Nat) (r : Bs), r.length < f → r.length < g → lexR f r = lexR g r
  | 0, _, _, h, _ => by omega
  | _, 0, _, _, h => by omega
  | f + 1, g + 1, r, hf, hg => by
    have hb := blank_len r
    simp only [lexR]
    split
    · rfl
    · rename_i hu
      have hu' : r.dropWhile isBl ≠ [] := by simpa using hu
      split
      · have := after_len hu'
        exact lexR_fuel f g _ (by omega) (by omega)
      · split
        · rfl
        · rename_i k t ht
          obtain ⟨h1, h2⟩ := first_tok ht
          have := drop_len h1 (h2.resolve_right hu')
          rw [lexR_fuel f g _ (by omega) (by omega)]
theorem lexS_blank {c : UInt8} {r : Bs} (h : isBl c = true) : lexS (c :: r) = lexS r := by
  unfold lexS
  have e : ∀ f, lexR (f + 1) (c :: r) = lexR (f + 1) r := fun f => by simp only [lexR, List.dropWhile_cons, h, if_true]
  show lexR ((r.length + 1) + 1) (c :: r) = _
  rw [e]
  exact lexR_fuel _ _ _ (by omega) (by omega)
theorem lexS_drop (r : Bs) : lexS r = lexS (r.dropWhile isBl) := by
  induction r with
  | nil => rfl
  | cons c r ih =>
    rw [List.dropWhile_cons]
    split
    · rename_i h; rw [lexS_blank h]; exact ih
    · rfl
theorem lexS_nil : lexS [] = ([], none) := rfl
theorem lexS_com {u : Bs} (hn : u.dropWhile isBl = u) (hu : u ≠ []) (h : isCom u = true) : lexS u = lexS (afterLine u) := by
  have := after_len hu
  show lexR (u.length + 1) u = _
  simp only [lexR, hn, h, if_true]
  rw [if_neg (by simpa using hu)]
  exact lexR_fuel _ _ _ (by omega) (by omega)
theorem lexS_tok {u : Bs} (hn : u.dropWhile isBl = u) (hu : u ≠ []) (h : isCom u = false) {k : Nat} {t : Bs} (ht : first u = .tok k t) :
    lexS u = (⟨k, t, u.length⟩ :: (lexS (u.drop t.length)).1, (lexS (u.drop t.length)).2) := by
  obtain ⟨h1, h2⟩ := first_tok ht
  have := drop_len h1 (h2.resolve_right hu)
  show lexR (u.length + 1) u = _
  simp only [lexR, hn, h, ht]
  rw [if_neg (by simpa using hu), if_neg (by simp)]
  have e : lexR u.length (u.drop t.length) = lexS (u.drop t.length) := lexR_fuel _ _ _ (by omega) (by omega)
  simp only [e]
theorem lexS_err {u : Bs} (hn : u.dropWhile isBl = u) (hu : u ≠ []) (h : isCom u = false) {e : Nat} (ht : first u = .err e) : lexS u = ([], some (e, u.length)) := by
  show lexR (u.length + 1) u = _
  simp only [lexR, hn, h, ht]
  rw [if_neg (by simpa using hu), if_neg (by simp)]
theorem drop_fix {u : Bs} (hn : u.dropWhile isBl = u) {c : UInt8} {q : Bs} (e : u = c :: q) : isBl c = false := by
  subst e
  rw [List.dropWhile_cons] at hn
  split at hn
  · have := congrArg List.length hn
    have h2 := blank_len q
    simp at this; omega
  · rename_i h; simpa using h
theorem fix_drop (r : Bs) : (r.dropWhile isBl).dropWhile isBl = r.dropWhile isBl := by
  induction r with
  | nil => rfl
  | cons c r ih =>
    rw [List.dropWhile_cons]
    split
    · exact ih
    · rename_i h; rw [List.dropWhile_cons, if_neg h]
theorem lex_ind {P : Bs → Prop} (h0 : P []) (hb : ∀ c r, isBl c = true → P r → P (c :: r)) (hc : ∀ u, u.dropWhile isBl = u → u ≠ [] → isCom u = true → P (afterLine u) → P u)
    (he : ∀ u e, u.dropWhile isBl = u → u ≠ [] → isCom u = false → first u = .err e → P u)
    (ht : ∀ u k t, u.dropWhile isBl = u → u ≠ [] → isCom u = false → first u = .tok k t → t <+: u → t ≠ [] → P (u.drop t.length) → P u) : ∀ r, P r := by
  have key : ∀ n (r : Bs), r.length < n → P r := by
    intro n
    induction n with
    | zero => intro r h; omega
    | succ n ih =>
      intro r h
      cases r with
      | nil => exact h0
      | cons c q =>
        by_cases hcb : isBl c = true
        · exact hb c q hcb (ih q (by simp at h; omega))
        · have hn : (c :: q).dropWhile isBl = c :: q := by rw [List.dropWhile_cons, if_neg hcb]
          have hu : (c :: q : Bs) ≠ [] := by simp
          cases hcom : isCom (c :: q)
          · cases hf : first (c :: q) with
            | err e => exact he _ e hn hu hcom hf
            | tok k t =>
              obtain ⟨h1, h2⟩ := first_tok hf
              have h3 := h2.resolve_right hu
              have := drop_len h1 h3
              exact ht _ k t hn hu hcom hf h1 h3 (ih _ (by omega))
          · have := after_len hu
            exact hc _ hn hu hcom (ih _ (by omega))
  exact fun r => key _ r (Nat.lt_succ_self _)
end Go.Proofs.YtahalimekacliaaGreatDoor.Lx
namespace Go.Proofs.YtahalimekacliaaGreatDoor.Lx
theorem first_self {u : Bs} {k : Nat} {t : Bs} (h : first u = .tok k t) : first t = .tok k t := by
  have hp := (first_tok h).1
  obtain ⟨v, rfl⟩ := hp
  have tw : ∀ (p : UInt8 → Bool) (l : Bs), (l.takeWhile p).takeWhile p = l.takeWhile p := by
    intro p l
    induction l with
    | nil => rfl
    | cons x l ih => by_cases hx : p x <;> simp [hx, ih]
  unfold first at h
  simp only at h
  split at h
  · rename_i hd
    have hd2 : (t.takeWhile isDig).isEmpty = true := by
      cases t with
      | nil => rfl
      | cons x t => simp only [List.cons_append, List.takeWhile_cons] at hd ⊢; split at hd <;> simp_all
    split at h
    · rename_i hw
      have e : List.takeWhile isPt (t ++ v) = t := by injection h
      have e2 : t.takeWhile isPt = t := by have := tw isPt (t ++ v); rwa [e] at this
      unfold first; simp only [hd2, if_true, e2]
      rw [e] at hw
      rw [if_pos hw]; injection h with a _; rw [a]
    · split at h
      · rename_i hw hn
        have e : List.takeWhile isPt (t ++ v) = t := by injection h
        have e2 : t.takeWhile isPt = t := by have := tw isPt (t ++ v); rwa [e] at this
        unfold first; simp only [hd2, if_true, e2]
        rw [e] at hw hn
        rw [if_neg hw, if_pos hn]; injection h with a _; rw [a]
      · split at h
        · rename_i hw hn he
          split at h
          · rename_i t' hf
            cases h
            have hm := List.mem_of_find?_eq_some hf
            obtain ⟨hne, _, hch⟩ := signs_ne _ hm
            have e2 : t.takeWhile isPt = [] := by
              cases t with
              | nil => rfl
              | cons x t => rw [List.takeWhile_cons, if_neg (by simp [(hch x (by simp)).2])]
            unfold first; simp only [hd2, if_true, e2]
            rw [if_neg (by decide), if_neg (by decide)]
            simp only [List.isEmpty_nil, if_true]
            have : ∀ l : List Bs, l.find? (·.isPrefixOf (t ++ v)) = some t → l.find? (·.isPrefixOf t) = some t := by
              intro l
              induction l with
              | nil => intro h; simp at h
              | cons x l ih =>
                intro h
                simp only [List.find?_cons] at h ⊢
                split at h
                · cases h
                  rw [List.isPrefixOf_iff_prefix.2 (List.prefix_refl t)]
                · rename_i hx
                  have hx2 : x.isPrefixOf t = false := by
                    by_cases q : x.isPrefixOf t = true
                    · have := List.isPrefixOf_iff_prefix.1 q
                      rw [List.isPrefixOf_iff_prefix.2 (this.trans (List.prefix_append t v))] at hx; cases hx
                    · exact Bool.eq_false_iff.2 q
                  rw [hx2]; exact ih h
            rw [this _ hf]
          · cases h
        · cases h
  · rename_i hd
    split at h
    · cases h
    · rename_i hb
      have e : List.takeWhile isDig (t ++ v) = t := by injection h
      have e2 : t.takeWhile isDig = t := by have := tw isDig (t ++ v); rwa [e] at this
      unfold first; simp only [e2]
      rw [e] at hd hb
      rw [if_neg hd, if_neg hb]; injection h with a _; rw [a]
structure Is (k : Nat) (t : Bs) : Prop where
  self : first t = .tok k t
  ne : t ≠ []
  com : isCom t = false
  bl : t.dropWhile isBl = t
theorem is_of {u : Bs} {k : Nat} {t : Bs} (hn : u.dropWhile isBl = u) (hc : isCom u = false) (h : first u = .tok k t) (ht : t ≠ []) : Is k t := by
  obtain ⟨v, hv⟩ := (first_tok h).1
  refine ⟨first_self h, ht, ?_, ?_⟩
  · by_cases q : isCom t = true
    · have := List.isPrefixOf_iff_prefix.1 q
      have h2 : isCom u = true := List.isPrefixOf_iff_prefix.2 (this.trans ⟨v, hv⟩)
      rw [hc] at h2; cases h2
    · simpa using q
  · cases t with
    | nil => exact absurd rfl ht
    | cons c t =>
      have := drop_fix hn (c := c) (q := t ++ v) (by rw [← hv]; rfl)
      rw [List.dropWhile_cons, if_neg (by simp [this])]
theorem lexS_is (s : Bs) : ∀ x ∈ (lexS s).1, Is x.k x.t := by
  refine lex_ind (P := fun r => ∀ x ∈ (lexS r).1, Is x.k x.t) ?_ ?_ ?_ ?_ ?_ s
  · intro x hx; rw [lexS_nil] at hx; simp at hx
  · intro c r hb ih; rw [lexS_blank hb]; exact ih
  · intro u hn hu hc ih; rw [lexS_com hn hu hc]; exact ih
  · intro u e hn hu hc he x hx; rw [lexS_err hn hu hc he] at hx; simp at hx
  · intro u k t hn hu hc ht _ hne ih x hx
    rw [lexS_tok hn hu hc ht] at hx
    simp only [List.mem_cons] at hx
    rcases hx with rfl | hx
    · exact is_of hn hc ht hne
    · exact ih x hx
def alike (a b : R) : Prop := a.k = b.k ∧ a.t = b.t
def Chain (s : Bs) : Nat → List R → Prop
  | _, [] => True
  | e, x :: l => e ≤ s.length - x.m ∧ x.m ≤ s.length ∧ x.t ≠ [] ∧ x.t <+: s.drop (s.length - x.m) ∧ Chain s (s.length - x.m + x.t.length) l
theorem Chain.mono {s : Bs} {e e' : Nat} (h : e' ≤ e) : ∀ {l : List R}, Chain s e l → Chain s e' l
  | [], _ => trivial
  | _ :: _, ⟨a, b⟩ => ⟨Nat.le_trans h a, b⟩
end Go.Proofs.YtahalimekacliaaGreatDoor.Lx
namespace Go.Proofs.YtahalimekacliaaGreatDoor
structure Tok where
  k : Nat
  t : ByteArray
  p : Nat
end Go.Proofs.YtahalimekacliaaGreatDoor
namespace Go.Proofs.YtahalimekacliaaGreatDoor
open Go.RowKit
theorem below_drawn {B : Nat} {a w : World} (h : Below B a w) (n : Nat) : Below B a (w.drewN n) := ⟨h.os, h.tape, h.output, h.size, h.block⟩
theorem below_grow {w w' : World} (h : Below w.heap.size w w') (row : Option Nat) : w.grownBy w' row := ⟨h.os, h.tape, h.output, h.size, fun k hk _ => h.block k hk⟩
theorem below_next {a w w' : World} (h : Below a.heap.size a w) (k : Below w.heap.size w w') : Below a.heap.size a w' := h.trans (k.mono h.size)
theorem below_row {w w' : World} (h : Below w.heap.size w w') {base e size n : Nat} {v : Value} {xs : List Value} (ho : w.ownsRow base e size v n xs) : w'.ownsRow base e size v n xs :=
  ho.kept (below_grow h none) (by cases v.ownBlock <;> simp)
def Sl {α : Type} (enc : α → List Value) (k : Nat) (w : World) (v : Value) (l : List α) : Prop :=
  (l = [] ∧ ∃ a c, v = .slice a 0 c) ∨ ∃ b o c, v = .slice (some ⟨b, o, none⟩) l.length c ∧ l.length ≤ c ∧ b < w.heap.size ∧ ∀ i x, l[i]? = some x → ∀ j u, (enc x)[j]? = some u → w.cell? ⟨b, o + i * k + j, none⟩ = some u
section
variable {α : Type} {enc : α → List Value} {k : Nat} {w w' : World} {v : Value} {l : List α}
theorem Sl.nil_ : Sl enc k w (.slice none 0 0) [] := Or.inl ⟨rfl, none, 0, rfl⟩
theorem Sl.below (h : Sl enc k w v l) (hb : Below w.heap.size w w') : Sl enc k w' v l := by
  rcases h with h | ⟨b, o, c, rfl, hc, hlt, hx⟩
  · exact Or.inl h
  · exact Or.inr ⟨b, o, c, rfl, hc, Nat.lt_of_lt_of_le hlt hb.size, fun i x hi j u hu => (hb.cell (p := ⟨b, o + i * k + j, none⟩) hlt).trans (hx i x hi j u hu)⟩
theorem Sl.form (h : Sl enc k w v l) : ∃ a c, v = .slice a l.length c ∧ l.length ≤ c ∧ ∀ W, Below w.heap.size w W → ∀ i x, l[i]? = some x → ∃ b o, a = some ⟨b, o, none⟩ ∧ ∀ j u, (enc x)[j]? = some u → W.cell? ⟨b, o + i * k + j, none⟩ = some u := by
  rcases h with ⟨rfl, a, c, rfl⟩ | ⟨b, o, c, rfl, hc, hlt, hx⟩
  · exact ⟨a, c, rfl, Nat.zero_le _, fun W _ i x hi => by simp at hi⟩
  · exact ⟨_, c, rfl, hc, fun W hW i x hi => ⟨b, o, rfl, fun j u hu => (hW.cell (p := ⟨b, o + i * k + j, none⟩) hlt).trans (hx i x hi j u hu)⟩⟩
end
theorem flatMap_cell {α : Type} {enc : α → List Value} {k : Nat} (hk : ∀ x, (enc x).length = k) : ∀ (l : List α) (i : Nat) (x : α), l[i]? = some x → ∀ j u, (enc x)[j]? = some u → (l.flatMap enc)[i * k + j]? = some u
  | [], i, x, h, _, _, _ => by simp at h
  | y :: r, 0, x, h, j, u, hu => by
    simp at h; subst h
    have hj : j < (enc y).length := (List.getElem?_eq_some_iff.1 hu).1
    rw [List.flatMap_cons, Nat.zero_mul, Nat.zero_add, List.getElem?_append_left hj]; exact hu
  | y :: r, i + 1, x, h, j, u, hu => by
    have h' : r[i]? = some x := by simpa using h
    have := flatMap_cell hk r i x h' j u hu
    rw [List.flatMap_cons, List.getElem?_append_right (by rw [hk, Nat.add_mul]; omega), hk, show (i + 1) * k + j - k = i * k + j by rw [Nat.add_mul]; omega]
    exact this
theorem Sl.own {α : Type} {enc : α → List Value} {k : Nat} (hk : ∀ x, (enc x).length = k) {w : World} {v : Value} {l : List α} {base e n : Nat} (h : w.ownsRow base e k v n (l.flatMap enc)) (hn : l.length = n) : Sl enc k w v l := by
  subst hn
  rcases h.2 with ⟨rfl, h0⟩ | ⟨g, cap, cur, rfl, _, hg, hcap, _, hsz, htake⟩
  · exact Or.inl ⟨List.eq_nil_of_length_eq_zero h0, none, 0, rfl⟩
  · refine Or.inr ⟨g, 0, cap, rfl, hcap, (Array.getElem?_eq_some_iff.1 hg).1, fun i x hi j u hu => ?_⟩
    have hc := flatMap_cell hk l i x hi j u hu
    rw [cell_of_row w g (0 + i * k + j) cur e (0, 0) hg, Nat.zero_add]
    rw [← htake, List.getElem?_take] at hc
    split at hc
    · simpa using hc
    · cases hc
structure RowTy (P : Program) (t e size bytes : Nat) : Prop where
  ht : P.underlying t = some (.slice e)
  ex : ∃ i z, P.info? e = some i ∧ i.zero = some z ∧ i.size = size ∧ i.bytes = bytes ∧ z.cells.size = size
  pos : 0 < size
theorem RowTy.mk' {P : Program} {t e size bytes : Nat} {z : Value} (ht : P.underlying t = some (.slice e)) (h : (P.info? e).map (fun i => (i.zero, i.size, i.bytes)) = some (some z, size, bytes)) (hz : z.cells.size = size) (hp : 0 < size) : RowTy P t e size bytes := by
  obtain ⟨i, hi, a, b, c⟩ := info_parts h
  exact ⟨ht, ⟨i, z, hi, a, b, c, hz⟩, hp⟩
theorem wpList_app {P : Program} {w : World} {ops : Array Oper} {rest : List Oper} {o : Oper} {a : Act} {Q : Exit → Act → World → Prop} {t e size bytes : Nat} (R : RowTy P t e size bytes) (hgd : o.guard = none) (s x : Operand)
    (ho : o.op = .call { callee := .builtin .append, args := #[s, x], argTypes := #[t, t] })
    (base : Nat) (v : Value) (n : Nat) (xs : List Value) (hs : a.eval s = v) (hown : w.ownsRow base e size v n xs)
    (ad : Addr) (c : Nat) (news : List Value) (hx : a.eval x = .slice (some ad) 1 c) (hl : news.length = size) (hnews : ∀ j u, news[j]? = some u → w.cell? (ad.add j) = some u) (h1 : ∀ u ∈ news, u.oneCell' = true)
    (hn : (n + 1) * (bytes + 1) ≤ 140737488355328) (hbase : base ≤ w.heap.size) (H : Nat) (hH : w.heap.size = H)
    (h : ∀ g cap w', w'.ownsRow base e size (.slice (some ⟨g, 0, none⟩) (n + 1) cap) (n + 1) (xs ++ news) → w.grownBy w' v.ownBlock → (v.ownBlock = some g ∨ g = H) → g < w'.heap.size → n + 1 ≤ cap → wpList P ops Q rest (a.put o.dst (.slice (some ⟨g, 0, none⟩) (n + 1) cap)) w') : wpList P ops Q (o :: rest) a w := by
  obtain ⟨i, z, hi, hz, hsize, hby, hzs⟩ := R.ex
  have hb : (n + 1) * bytes ≤ 140737488355328 := Nat.le_trans (Nat.mul_le_mul_left _ (by omega)) hn
  have hm : n + 1 ≤ maxLen := by
    have : (n + 1) * 1 ≤ (n + 1) * (bytes + 1) := Nat.mul_le_mul_left _ (by omega)
    unfold maxLen; omega
  refine wpList_append_lies w hgd s x t ho base e i z size bytes R.ht hi hz hsize hby hzs R.pos v n xs hs hown ad 1 c news hx (by rw [hl]; omega) hnews h1 (by omega) hm hb hbase H hH ?_
  intro g cap w' ho' hg hat hlt
  refine h g cap w' ho' hg hat hlt ?_
  rcases ho'.2 with ⟨h0, _⟩ | ⟨g', cap', cur, h0, _, _, hc, _⟩
  · cases h0
  · cases h0; exact hc
end Go.Proofs.YtahalimekacliaaGreatDoor
namespace Go.Proofs.YtahalimekacliaaGreatDoor
open Go.RowKit Go.Shelf
namespace Lx
theorem dig_nat {c : UInt8} (h : isDig c = true) : 48 ≤ c.toNat ∧ c.toNat ≤ 57 := by
  simp only [isDig, Bool.and_eq_true, decide_eq_true_eq, UInt8.le_iff_toNat_le] at h
  exact h
end Lx
theorem ret_bool {a b : Bool} (h : a = b) : Ending.returned (.bool a) = .returned (.bool b) := by rw [h]
def digN (x : Nat) : Bool := decide (48 ≤ x ∧ x ≤ 57)
def letN (x : Nat) : Bool := decide ((97 ≤ x ∧ x ≤ 122) ∨ x = 95)
def partN (x : Nat) : Bool := letN x || digN x
theorem digN_byte (c : UInt8) : digN c.toNat = Lx.isDig c := by
  rw [Bool.eq_iff_iff]; simp [digN, Lx.isDig, UInt8.le_iff_toNat_le]
theorem letN_byte (c : UInt8) : letN c.toNat = Lx.isLet c := by
  rw [Bool.eq_iff_iff]; simp [letN, Lx.isLet, UInt8.le_iff_toNat_le, ← UInt8.toNat_inj]
theorem partN_byte (c : UInt8) : partN c.toNat = Lx.isPt c := by
  unfold partN Lx.isPt; rw [digN_byte, letN_byte]
theorem high_no (x : Nat) (h : 128 ≤ x) : digN x = false ∧ partN x = false := by
  have a : digN x = false := by simp [digN]; omega
  have b : letN x = false := by simp [letN]; omega
  exact ⟨a, by unfold partN; rw [a, b]; rfl⟩
theorem size_toList (s : ByteArray) : s.data.toList.length = s.size := by rw [Array.length_toList]; rfl
theorem extract_take (s : ByteArray) (n : Nat) : (s.extract 0 n).data.toList = s.data.toList.take n := by simp
theorem extract_drop (s : ByteArray) (n : Nat) : (s.extract n s.size).data.toList = s.data.toList.drop n := by
  rw [ByteArray.data_extract, Array.toList_extract, List.extract_eq_take_drop, ← size_toList]
  rw [List.take_of_length_le (by simp)]
theorem headD_byte (s : ByteArray) (h : 0 < s.size) : s.data.toList.headD 0 = s[0] := by
  rw [List.headD_eq_head?_getD, List.head?_eq_getElem?, List.getElem?_eq_getElem (by rw [size_toList]; exact h)]; rfl
theorem toList_nil {t : ByteArray} : t.toList = [] ↔ t.data.toList = [] := by rw [Lib.toList_data]
def tokC (x : Tok) : List Value := [.int .i64 x.k, .string x.t, .int .i64 x.p]
theorem tokC_len (x : Tok) : (tokC x).length = 3 := rfl
def tok (N : Nat) (x : Lx.R) : Tok := ⟨x.k, ⟨x.t.toArray⟩, N - x.m⟩
def toks (N : Nat) (l : List Lx.R) : List Tok := l.map (tok N)
theorem rowTok : RowTy Tryz.prog 22 47 3 32 := RowTy.mk' (z := .agg #[.int .i64 0, .string ⟨#[]⟩, .int .i64 0]) Tryz.underlying22 (by kernel_rfl) rfl (by omega)
def strLen : Value → Nat
  | .string r => r.size
  | _ => 0
def LexPost (s : ByteArray) (w : World) (e : Ending) (w' : World) : Prop :=
  ∃ (v : Value) (er at_ : Int), e = .returned (.tuple #[v, .agg #[.int .i64 er, .int .i64 at_]]) ∧ Below w.heap.size w w' ∧
    ((er = 0 ∧ at_ = 0 ∧ (Lx.lexS s.data.toList).2 = none ∧ w'.ownsRow w.heap.size 47 3 v (Lx.lexS s.data.toList).1.length ((toks s.size (Lx.lexS s.data.toList).1).flatMap tokC)) ∨
     (∃ c m : Nat, c ≠ 0 ∧ er = c ∧ at_ = (s.size - m : Nat) ∧ (Lx.lexS s.data.toList).2 = some (c, m) ∧ v = .slice none 0 0))
structure LexLp (s : ByteArray) (w : World) (l : Value) (r : ByteArray) (done : List Lx.R) (wr : World) : Prop where
  sz : r.size ≤ s.size
  few : done.length + r.size ≤ s.size
  below : Below w.heap.size w wr
  ret : wr.heap[w.heap.size]? = some (.cells #[.int .i64 0, .int .i64 0] 25 (0, 0))
  own : wr.ownsRow (w.heap.size + 1) 47 3 l done.length ((toks s.size done).flatMap tokC)
  eq : Lx.lexS s.data.toList = (done ++ (Lx.lexS r.data.toList).1, (Lx.lexS r.data.toList).2)
theorem two_cells {W : World} {b T : Nat} {x y : Value} (h : W.heap[b]? = some (.cells #[x, y] T (0, 0))) :
    W.cell? ⟨b, 0, none⟩ = some x ∧ W.cell? ⟨b, 1, none⟩ = some y ∧ W.frozen? ⟨b, 0, none⟩ = false ∧ W.frozen? ⟨b, 1, none⟩ = false :=
  ⟨by simp [World.cell?, h], by simp [World.cell?, h], by simp [World.frozen?, h], by simp [World.frozen?, h]⟩
theorem size_of_list (r : ByteArray) : r.size = r.data.toList.length := (size_toList r).symm
theorem LexLp.step {s : ByteArray} {w : World} {l : Value} {r u : ByteArray} {done : List Lx.R} {wr w1 : World} (h : LexLp s w l r done wr) (hb : Below wr.heap.size wr w1) (hu : u.size ≤ r.size) (he : Lx.lexS u.data.toList = Lx.lexS r.data.toList) : LexLp s w l u done w1 where
  sz := Nat.le_trans hu h.sz
  few := Nat.le_trans (Nat.add_le_add_left hu _) h.few
  below := below_next h.below hb
  ret := (hb.block _ (Array.getElem?_eq_some_iff.1 h.ret).1).trans h.ret
  own := below_row hb h.own
  eq := by rw [he]; exact h.eq
theorem LexLp.push {s : ByteArray} {w : World} {l : Value} {u u' t : ByteArray} {done : List Lx.R} {w3 w4 : World} {o : Obj} {g cap k d : Nat} (h : LexLp s w l u done w3) (hd : (s.size : Int) - (u.size : Int) = (d : Int)) (hne : t.data.toList ≠ []) (hle : t.size ≤ u.size)
    (he : Lx.lexS u.data.toList = (⟨k, t.data.toList, u.data.toList.length⟩ :: (Lx.lexS (u.data.toList.drop t.data.toList.length)).1, (Lx.lexS (u.data.toList.drop t.data.toList.length)).2))
    (hu : u'.data.toList = u.data.toList.drop t.data.toList.length)
    (ho : w4.ownsRow (w.heap.size + 1) 47 3 (.slice (some ⟨g, 0, none⟩) (done.length + 1) cap) (done.length + 1) ((toks s.size done).flatMap tokC ++ [.int .i64 k, .string t, .int .i64 d])) (hg : (w3.alloc o).grownBy w4 l.ownBlock) :
    LexLp s w (.slice (some ⟨g, 0, none⟩) (done.length + 1) cap) u' (done ++ [⟨k, t.data.toList, u.data.toList.length⟩]) w4 := by
  have hsz := h.sz
  have hpos : 0 < t.size := by rw [size_of_list]; exact List.length_pos_iff.2 hne
  have hu2 : u'.size = u.size - t.size := by rw [size_of_list, hu, List.length_drop, size_toList, size_toList]
  have hlow : ∀ k, l.ownBlock = some k → w.heap.size + 1 ≤ k := fun k hk => (h.own.lt k hk).1
  have hsize := h.below.size
  have hret := (Array.getElem?_eq_some_iff.1 h.ret).1
  refine ⟨by omega, ?_, ?_, ?_, ?_, ?_⟩
  · have := h.few; simp; omega
  · exact (h.below.alloc hsize o).grown hg (by simp; omega) (fun q hq => by have := hlow q hq; omega)
  · rw [hg.block w.heap.size (by simp; omega) (fun e => by have := hlow _ e.symm; omega), Below.heap_alloc _ _ _ hret]; exact h.ret
  · have e : (toks s.size (done ++ [⟨k, t.data.toList, u.data.toList.length⟩])).flatMap tokC = (toks s.size done).flatMap tokC ++ [.int .i64 k, .string t, .int .i64 d] := by
      unfold toks
      rw [List.map_append, List.flatMap_append]
      congr 1
      have e2 : s.size - u.size = d := by omega
      simp [tok, tokC, e2]
    rw [e]
    simpa using ho
  · rw [h.eq, he, hu]; simp
theorem first_dig {r : Lx.Bs} (h : r.takeWhile Lx.isDig ≠ []) : Lx.first r = if Lx.tooBig (r.takeWhile Lx.isDig) then .err 2 else .tok 2 (r.takeWhile Lx.isDig) := by
  unfold Lx.first
  have : (r.takeWhile Lx.isDig).isEmpty = false := by
    cases h2 : r.takeWhile Lx.isDig with
    | nil => exact absurd h2 h
    | cons _ _ => rfl
  simp only [this, Bool.false_eq_true, if_false]
theorem first_word {r : Lx.Bs} (h : r.takeWhile Lx.isDig = []) (hw : Lx.isWord (r.takeWhile Lx.isPt) = true) : Lx.first r = .tok 3 (r.takeWhile Lx.isPt) := by
  unfold Lx.first; simp [h, hw]
theorem first_name {r : Lx.Bs} (h : r.takeWhile Lx.isDig = []) (hw : Lx.isWord (r.takeWhile Lx.isPt) = false) (hn : Lx.isName (r.takeWhile Lx.isPt) = true) : Lx.first r = .tok 1 (r.takeWhile Lx.isPt) := by
  unfold Lx.first; simp [h, hw, hn]
theorem first_none {r : Lx.Bs} (h : r.takeWhile Lx.isDig = []) (hw : Lx.isWord (r.takeWhile Lx.isPt) = false) (hn : Lx.isName (r.takeWhile Lx.isPt) = false) (hp : r.takeWhile Lx.isPt ≠ []) : Lx.first r = .err 5 := by
  unfold Lx.first
  have : (r.takeWhile Lx.isPt).isEmpty = false := by
    cases h2 : r.takeWhile Lx.isPt with
    | nil => exact absurd h2 hp
    | cons _ _ => rfl
  simp [h, hw, hn, this]
theorem first_sign {r : Lx.Bs} (h : r.takeWhile Lx.isDig = []) (hp : r.takeWhile Lx.isPt = []) : Lx.first r = match Lx.signs.find? (·.isPrefixOf r) with | some t => .tok 4 t | none => .err 5 := by
  unfold Lx.first
  have a : Lx.isWord [] = false := by decide
  have b : Lx.isName [] = false := by decide
  simp only [h, hp, a, b, List.isEmpty_nil, if_true, Bool.false_eq_true, if_false]
  all_goals rfl
theorem tooBig_iff (d : Lx.Bs) : Lx.tooBig d = true ↔ 10 < d.length ∨ 2147483647 < Lx.val d ∨ (1 < d.length ∧ d.headD 0 = 48) := by
  unfold Lx.tooBig
  simp only [Bool.or_eq_true, decide_eq_true_eq, Bool.and_eq_true, beq_iff_eq, or_assoc]
theorem byte48 {c : UInt8} : ((c.toNat : Int) == 48) = true ↔ c = 48 := by
  rw [beq_iff_eq, ← UInt8.toNat_inj]
  have : (48 : UInt8).toNat = 48 := rfl
  omega
end Go.Proofs.YtahalimekacliaaGreatDoor
namespace Go.Proofs.YtahalimekacliaaGreatDoor
open Go.RowKit Go.Shelf
namespace Lx
theorem sum_take (f : Bs → Nat) : ∀ (l : List Bs) (k : Nat) (t : Bs), l[k]? = some t → ((l.take k).map f).sum + f t ≤ (l.map f).sum
  | [], k, t, h => by simp at h
  | a :: l, 0, t, h => by simp at h; subst h; simp
  | a :: l, k + 1, t, h => by
    have := sum_take f l k t (by simpa using h)
    simp only [List.take_succ_cons, List.map_cons, List.sum_cons]; omega
end Lx
end Go.Proofs.YtahalimekacliaaGreatDoor
