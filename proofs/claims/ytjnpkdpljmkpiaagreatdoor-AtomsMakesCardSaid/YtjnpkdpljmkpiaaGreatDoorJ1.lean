/- Tokens: the plain mathematics of a lexer over lists of bytes. Tokens: plain laws of the lexer. Slices that read as lists, each element in some cells; appends of one element. Tokens in memory; bytes, texts: what both lexers share. Blocks and slices in memory, for all that follows. Expressions as lists of nodes, and as trees. Nodes and expressions in memory; the operands of a node. Expressions out of tokens: the plain mathematics. More steps; each source has an answer: the plain mathematics. Tokens among others; tokens without the last ones: the plain mathematics. Expressions out of texts: the plain mathematics of the laws. -/
import Derived.WalkKit
import Derived.WalkSpells
import Derived.Deep.Onto
import Derived.Deep.AppendLies
import Derived.Deep.Draws
import Derived.OwnWalk
import Derived.Test.YtjnpkdpljmkpiaaGreatDoorProg
import Derived.Shelf.Abstract
import Derived.Lib.Strings
import Derived.WalkLawsBesides
import Derived.Outline
import Derived.Laws.EntriesVeiled
import Derived.Deep.RegionHeld3
import Derived.Deep.QuietTactic
import Derived.BigQuiet
import Derived.StillTailTactics
namespace Go.Proofs.YtjnpkdpljmkpiaaGreatDoor.Lx
abbrev Bs := List UInt8
def isDig (c : UInt8) : Bool := 48 ≤ c && c ≤ 57
def isLet (c : UInt8) : Bool := (97 ≤ c && c ≤ 122) || c == 95
def isPt (c : UInt8) : Bool := isLet c || isDig c
def isBl (c : UInt8) : Bool := c == 32 || c == 9 || c == 10 || c == 13
def val (l : Bs) : Nat := l.foldl (fun n c => 10 * n + (c.toNat - 48)) 0
def words : List Bs := [[97, 110, 100], [97, 115, 115, 117, 109, 101], [98, 111, 111, 108], [99, 111, 110, 116, 114, 97, 99, 116], [100, 105, 118], [101, 108, 115, 101], [101, 110, 100], [101, 110, 115, 117, 114, 101], [102, 97, 108, 108, 98, 97, 99, 107], [102, 97, 108, 115, 101], [103, 104, 111, 115, 116], [103, 117, 97, 114, 97, 110, 116, 101, 101], [104, 105, 115, 116], [105, 102], [105, 109, 112, 111, 114, 116], [105, 110, 116], [108, 101, 116], [109, 97, 105, 110], [109, 111, 100], [109, 111, 100, 101], [110, 111, 100, 101], [110, 111, 116], [111, 110, 99, 101], [111, 114], [112, 114, 101], [112, 114, 101, 118], [114, 101, 113, 117, 105, 114, 101], [114, 101, 116, 117, 114, 110, 115], [115, 105, 110, 99, 101], [116, 101, 108], [116, 104, 101, 110], [116, 114, 117, 101], [118, 97, 114], [119, 105, 116, 104, 105, 110], [120, 111, 114]]
def signs : List Bs := [[45, 62], [61, 62], [60, 61], [62, 61], [60, 62], [61], [60], [62], [43], [45], [42], [40], [41], [44], [59], [58]]
def isWord (t : Bs) : Bool := words.contains t
def isName (t : Bs) : Bool := !t.isEmpty && decide (t.length ≤ 40) && t.all isPt && !(t.headD 0 |> isDig) && !isWord t
def tooBig (d : Bs) : Bool := decide (10 < d.length) || decide (2147483647 < val d) || (decide (1 < d.length) && d.headD 0 == 48)
inductive Tk where
  | err (e : Nat)
  | tok (k : Nat) (t : Bs)
def first (r : Bs) : Tk :=
  let d := r.takeWhile isDig
  if d.isEmpty then
    let p := r.takeWhile isPt
    if isWord p then .tok 3 p else if isName p then .tok 1 p else if p.isEmpty then
      match signs.find? (·.isPrefixOf r) with
      | some t => .tok 4 t
      | none => .err 5
    else .err 5
  else if tooBig d then .err 2 else .tok 2 d
def afterLine (r : Bs) : Bs := (r.dropWhile (· != 10)).drop 1
structure R where
  k : Nat
  t : Bs
  m : Nat
def isCom (r : Bs) : Bool := [45, 45].isPrefixOf r
def lexR : Nat → Bs → List R × Option (Nat × Nat)
  | 0, _ => ([], none)
  | f + 1, r =>
    let u := r.dropWhile isBl
    if u.isEmpty then ([], none)
    else if isCom u then lexR f (afterLine u)
    else match first u with
      | .err e => ([], some (e, u.length))
      | .tok k t => (⟨k, t, u.length⟩ :: (lexR f (u.drop t.length)).1, (lexR f (u.drop t.length)).2)
def lexS (s : Bs) : List R × Option (Nat × Nat) := lexR (s.length + 1) s
theorem signs_ne : ∀ t ∈ signs, t ≠ [] ∧ t.length ≤ 2 ∧ ∀ c ∈ t, isBl c = false ∧ isPt c = false := by decide
theorem first_tok {r : Bs} {k : Nat} {t : Bs} (h : first r = .tok k t) : t <+: r ∧ (t ≠ [] ∨ r = []) := by
  unfold first at h
  simp only at h
  split at h
  · split at h
    · rename_i hd hw
      cases h
      refine ⟨List.takeWhile_prefix _, ?_⟩
      by_cases e : r.takeWhile isPt = []
      · rw [e] at hw; exact absurd hw (by decide)
      · exact Or.inl e
    · split at h
      · rename_i hd hw hn
        cases h
        refine ⟨List.takeWhile_prefix _, ?_⟩
        by_cases e : r.takeWhile isPt = []
        · rw [e] at hn; exact absurd hn (by decide)
        · exact Or.inl e
      · split at h
        · split at h
          · rename_i t' hf
            cases h
            have h1 := List.find?_some hf
            have h2 := signs_ne _ (List.mem_of_find?_eq_some hf)
            exact ⟨List.isPrefixOf_iff_prefix.1 h1, Or.inl h2.1⟩
          · cases h
        · cases h
  · split at h
    · cases h
    · rename_i hd _
      cases h
      exact ⟨List.takeWhile_prefix _, Or.inl (by simpa using hd)⟩
theorem drop_len {u t : Bs} (h : t <+: u) (hn : t ≠ []) : (u.drop t.length).length < u.length := by
  have h1 := h.length_le
  have h2 : 0 < t.length := List.length_pos_iff.2 hn
  simp; omega
theorem after_len {u : Bs} (h : u ≠ []) : (afterLine u).length < u.length := by
  unfold afterLine
  have := (List.dropWhile_suffix (fun c : UInt8 => c != 10) (l := u)).length_le
  have h2 : 0 < u.length := List.length_pos_iff.2 h
  simp only [List.length_drop]
  omega
theorem blank_len (r : Bs) : (r.dropWhile isBl).length ≤ r.length := (List.dropWhile_suffix _).length_le
theorem lexR_fuel : ∀ (f g : Nat) (r : Bs), r.length < f → r.length < g → lexR f r = lexR g r
  | 0, _, _, h, _ => by omega
  | _, 0, _, _, h => by omega
  | f + 1, g + 1, r, hf, hg => by
    have hb := blank_len r
    simp only [lexR]
    split
    · rfl
    · rename_i hu
      have hu' : r.dropWhile isBl ≠ [] := by simpa using hu
      split
      · have := after_len hu'
        exact lexR_fuel f g _ (by omega) (by omega)
      · split
        · rfl
        · rename_i k t ht
          obtain ⟨h1, h2⟩ := first_tok ht
          have := drop_len h1 (h2.resolve_right hu')
          rw [lexR_fuel f g _ (by omega) (by omega)]
theorem lexS_blank {c : UInt8} {r : Bs} (h : isBl c = true) : lexS (c :: r) = lexS r := by
  unfold lexS
  have e : ∀ f, lexR (f + 1) (c :: r) = lexR (f + 1) r := fun f => by simp only [lexR, List.dropWhile_cons, h, if_true]
  show lexR ((r.length + 1) + 1) (c :: r) = _
  rw [e]
  exact lexR_fuel _ _ _ (by omega) (by omega)
theorem lexS_nil : lexS [] = ([], none) := rfl
theorem lexS_com {u : Bs} (hn : u.dropWhile isBl = u) (hu : u ≠ []) (h : isCom u = true) : lexS u = lexS (afterLine u) := by
  have := after_len hu
  show lexR (u.length + 1) u = _
  simp only [lexR, hn, h, if_true]
  rw [if_neg (by simpa using hu)]
  exact lexR_fuel _ _ _ (by omega) (by omega)
theorem lexS_tok {u : Bs} (hn : u.dropWhile isBl = u) (hu : u ≠ []) (h : isCom u = false) {k : Nat} {t : Bs} (ht : first u = .tok k t) :
    lexS u = (⟨k, t, u.length⟩ :: (lexS (u.drop t.length)).1, (lexS (u.drop t.length)).2) := by
  obtain ⟨h1, h2⟩ := first_tok ht
  have := drop_len h1 (h2.resolve_right hu)
  show lexR (u.length + 1) u = _
  simp only [lexR, hn, h, ht]
  rw [if_neg (by simpa using hu), if_neg (by simp)]
  have e : lexR u.length (u.drop t.length) = lexS (u.drop t.length) := lexR_fuel _ _ _ (by omega) (by omega)
  simp only [e]
theorem lexS_err {u : Bs} (hn : u.dropWhile isBl = u) (hu : u ≠ []) (h : isCom u = false) {e : Nat} (ht : first u = .err e) : lexS u = ([], some (e, u.length)) := by
  show lexR (u.length + 1) u = _
  simp only [lexR, hn, h, ht]
  rw [if_neg (by simpa using hu), if_neg (by simp)]
theorem drop_fix {u : Bs} (hn : u.dropWhile isBl = u) {c : UInt8} {q : Bs} (e : u = c :: q) : isBl c = false := by
  subst e
  rw [List.dropWhile_cons] at hn
  split at hn
  · have := congrArg List.length hn
    have h2 := blank_len q
    simp at this; omega
  · rename_i h; simpa using h
theorem lex_ind {P : Bs → Prop} (h0 : P []) (hb : ∀ c r, isBl c = true → P r → P (c :: r)) (hc : ∀ u, u.dropWhile isBl = u → u ≠ [] → isCom u = true → P (afterLine u) → P u)
    (he : ∀ u e, u.dropWhile isBl = u → u ≠ [] → isCom u = false → first u = .err e → P u)
    (ht : ∀ u k t, u.dropWhile isBl = u → u ≠ [] → isCom u = false → first u = .tok k t → t <+: u → t ≠ [] → P (u.drop t.length) → P u) : ∀ r, P r := by
  have key : ∀ n (r : Bs), r.length < n → P r := by
    intro n
    induction n with
    | zero => intro r h; omega
    | succ n ih =>
      intro r h
      cases r with
      | nil => exact h0
      | cons c q =>
        by_cases hcb : isBl c = true
        · exact hb c q hcb (ih q (by simp at h; omega))
        · have hn : (c :: q).dropWhile isBl = c :: q := by rw [List.dropWhile_cons, if_neg hcb]
          have hu : (c :: q : Bs) ≠ [] := by simp
          cases hcom : isCom (c :: q)
          · cases hf : first (c :: q) with
            | err e => exact he _ e hn hu hcom hf
            | tok k t =>
              obtain ⟨h1, h2⟩ := first_tok hf
              have h3 := h2.resolve_right hu
              have := drop_len h1 h3
              exact ht _ k t hn hu hcom hf h1 h3 (ih _ (by omega))
          · have := after_len hu
            exact hc _ hn hu hcom (ih _ (by omega))
  exact fun r => key _ r (Nat.lt_succ_self _)
end Go.Proofs.YtjnpkdpljmkpiaaGreatDoor.Lx
namespace Go.Proofs.YtjnpkdpljmkpiaaGreatDoor.Lx
theorem first_self {u : Bs} {k : Nat} {t : Bs} (h : first u = .tok k t) : first t = .tok k t := by
  have hp := (first_tok h).1
  obtain ⟨v, rfl⟩ := hp
  have tw : ∀ (p : UInt8 → Bool) (l : Bs), (l.takeWhile p).takeWhile p = l.takeWhile p := by
    intro p l
    induction l with
    | nil => rfl
    | cons x l ih => by_cases hx : p x <;> simp [hx, ih]
  unfold first at h
  simp only at h
  split at h
  · rename_i hd
    have hd2 : (t.takeWhile isDig).isEmpty = true := by
      cases t with
      | nil => rfl
      | cons x t => simp only [List.cons_append, List.takeWhile_cons] at hd ⊢; split at hd <;> simp_all
    split at h
    · rename_i hw
      have e : List.takeWhile isPt (t ++ v) = t := by injection h
      have e2 : t.takeWhile isPt = t := by have := tw isPt (t ++ v); rwa [e] at this
      unfold first; simp only [hd2, if_true, e2]
      rw [e] at hw
      rw [if_pos hw]; injection h with a _; rw [a]
    · split at h
      · rename_i hw hn
        have e : List.takeWhile isPt (t ++ v) = t := by injection h
        have e2 : t.takeWhile isPt = t := by have := tw isPt (t ++ v); rwa [e] at this
        unfold first; simp only [hd2, if_true, e2]
        rw [e] at hw hn
        rw [if_neg hw, if_pos hn]; injection h with a _; rw [a]
      · split at h
        · rename_i hw hn he
          split at h
          · rename_i t' hf
            cases h
            have hm := List.mem_of_find?_eq_some hf
            obtain ⟨hne, _, hch⟩ := signs_ne _ hm
            have e2 : t.takeWhile isPt = [] := by
              cases t with
              | nil => rfl
              | cons x t => rw [List.takeWhile_cons, if_neg (by simp [(hch x (by simp)).2])]
            unfold first; simp only [hd2, if_true, e2]
            rw [if_neg (by decide), if_neg (by decide)]
            simp only [List.isEmpty_nil, if_true]
            have : ∀ l : List Bs, l.find? (·.isPrefixOf (t ++ v)) = some t → l.find? (·.isPrefixOf t) = some t := by
              intro l
              induction l with
              | nil => intro h; simp at h
              | cons x l ih =>
                intro h
                simp only [List.find?_cons] at h ⊢
                split at h
                · cases h
                  rw [List.isPrefixOf_iff_prefix.2 (List.prefix_refl t)]
                · rename_i hx
                  have hx2 : x.isPrefixOf t = false := by
                    by_cases q : x.isPrefixOf t = true
                    · have := List.isPrefixOf_iff_prefix.1 q
                      rw [List.isPrefixOf_iff_prefix.2 (this.trans (List.prefix_append t v))] at hx; cases hx
                    · exact Bool.eq_false_iff.2 q
                  rw [hx2]; exact ih h
            rw [this _ hf]
          · cases h
        · cases h
  · rename_i hd
    split at h
    · cases h
    · rename_i hb
      have e : List.takeWhile isDig (t ++ v) = t := by injection h
      have e2 : t.takeWhile isDig = t := by have := tw isDig (t ++ v); rwa [e] at this
      unfold first; simp only [e2]
      rw [e] at hd hb
      rw [if_neg hd, if_neg hb]; injection h with a _; rw [a]
structure Is (k : Nat) (t : Bs) : Prop where
  self : first t = .tok k t
  ne : t ≠ []
  com : isCom t = false
  bl : t.dropWhile isBl = t
theorem is_of {u : Bs} {k : Nat} {t : Bs} (hn : u.dropWhile isBl = u) (hc : isCom u = false) (h : first u = .tok k t) (ht : t ≠ []) : Is k t := by
  obtain ⟨v, hv⟩ := (first_tok h).1
  refine ⟨first_self h, ht, ?_, ?_⟩
  · by_cases q : isCom t = true
    · have := List.isPrefixOf_iff_prefix.1 q
      have h2 : isCom u = true := List.isPrefixOf_iff_prefix.2 (this.trans ⟨v, hv⟩)
      rw [hc] at h2; cases h2
    · simpa using q
  · cases t with
    | nil => exact absurd rfl ht
    | cons c t =>
      have := drop_fix hn (c := c) (q := t ++ v) (by rw [← hv]; rfl)
      rw [List.dropWhile_cons, if_neg (by simp [this])]
theorem lexS_is (s : Bs) : ∀ x ∈ (lexS s).1, Is x.k x.t := by
  refine lex_ind (P := fun r => ∀ x ∈ (lexS r).1, Is x.k x.t) ?_ ?_ ?_ ?_ ?_ s
  · intro x hx; rw [lexS_nil] at hx; simp at hx
  · intro c r hb ih; rw [lexS_blank hb]; exact ih
  · intro u hn hu hc ih; rw [lexS_com hn hu hc]; exact ih
  · intro u e hn hu hc he x hx; rw [lexS_err hn hu hc he] at hx; simp at hx
  · intro u k t hn hu hc ht _ hne ih x hx
    rw [lexS_tok hn hu hc ht] at hx
    simp only [List.mem_cons] at hx
    rcases hx with rfl | hx
    · exact is_of hn hc ht hne
    · exact ih x hx
def Chain (s : Bs) : Nat → List R → Prop
  | _, [] => True
  | e, x :: l => e ≤ s.length - x.m ∧ x.m ≤ s.length ∧ x.t ≠ [] ∧ x.t <+: s.drop (s.length - x.m) ∧ Chain s (s.length - x.m + x.t.length) l
theorem Chain.mono {s : Bs} {e e' : Nat} (h : e' ≤ e) : ∀ {l : List R}, Chain s e l → Chain s e' l
  | [], _ => trivial
  | _ :: _, ⟨a, b⟩ => ⟨Nat.le_trans h a, b⟩
theorem name_not_word {s : Bs} (h : isName s = true) : isWord s = false := by
  simp only [isName, Bool.and_eq_true, Bool.not_eq_true'] at h; exact h.2
end Go.Proofs.YtjnpkdpljmkpiaaGreatDoor.Lx
namespace Go.Proofs.YtjnpkdpljmkpiaaGreatDoor
structure Tok where
  k : Nat
  t : ByteArray
  p : Nat
end Go.Proofs.YtjnpkdpljmkpiaaGreatDoor
namespace Go.Proofs.YtjnpkdpljmkpiaaGreatDoor
open Go.RowKit
theorem below_drawn {B : Nat} {a w : World} (h : Below B a w) (n : Nat) : Below B a (w.drewN n) := ⟨h.os, h.tape, h.output, h.size, h.block⟩
theorem below_grow {w w' : World} (h : Below w.heap.size w w') (row : Option Nat) : w.grownBy w' row := ⟨h.os, h.tape, h.output, h.size, fun k hk _ => h.block k hk⟩
theorem below_next {a w w' : World} (h : Below a.heap.size a w) (k : Below w.heap.size w w') : Below a.heap.size a w' := h.trans (k.mono h.size)
theorem below_row {w w' : World} (h : Below w.heap.size w w') {base e size n : Nat} {v : Value} {xs : List Value} (ho : w.ownsRow base e size v n xs) : w'.ownsRow base e size v n xs :=
  ho.kept (below_grow h none) (by cases v.ownBlock <;> simp)
def Sl {α : Type} (enc : α → List Value) (k : Nat) (w : World) (v : Value) (l : List α) : Prop :=
  (l = [] ∧ ∃ a c, v = .slice a 0 c) ∨ ∃ b o c, v = .slice (some ⟨b, o, none⟩) l.length c ∧ l.length ≤ c ∧ b < w.heap.size ∧ ∀ i x, l[i]? = some x → ∀ j u, (enc x)[j]? = some u → w.cell? ⟨b, o + i * k + j, none⟩ = some u
section
variable {α : Type} {enc : α → List Value} {k : Nat} {w w' : World} {v : Value} {l : List α}
theorem Sl.nil_ : Sl enc k w (.slice none 0 0) [] := Or.inl ⟨rfl, none, 0, rfl⟩
theorem Sl.below (h : Sl enc k w v l) (hb : Below w.heap.size w w') : Sl enc k w' v l := by
  rcases h with h | ⟨b, o, c, rfl, hc, hlt, hx⟩
  · exact Or.inl h
  · exact Or.inr ⟨b, o, c, rfl, hc, Nat.lt_of_lt_of_le hlt hb.size, fun i x hi j u hu => (hb.cell (p := ⟨b, o + i * k + j, none⟩) hlt).trans (hx i x hi j u hu)⟩
theorem Sl.form (h : Sl enc k w v l) : ∃ a c, v = .slice a l.length c ∧ l.length ≤ c ∧ ∀ W, Below w.heap.size w W → ∀ i x, l[i]? = some x → ∃ b o, a = some ⟨b, o, none⟩ ∧ ∀ j u, (enc x)[j]? = some u → W.cell? ⟨b, o + i * k + j, none⟩ = some u := by
  rcases h with ⟨rfl, a, c, rfl⟩ | ⟨b, o, c, rfl, hc, hlt, hx⟩
  · exact ⟨a, c, rfl, Nat.zero_le _, fun W _ i x hi => by simp at hi⟩
  · exact ⟨_, c, rfl, hc, fun W hW i x hi => ⟨b, o, rfl, fun j u hu => (hW.cell (p := ⟨b, o + i * k + j, none⟩) hlt).trans (hx i x hi j u hu)⟩⟩
end
theorem flatMap_cell {α : Type} {enc : α → List Value} {k : Nat} (hk : ∀ x, (enc x).length = k) : ∀ (l : List α) (i : Nat) (x : α), l[i]? = some x → ∀ j u, (enc x)[j]? = some u → (l.flatMap enc)[i * k + j]? = some u
  | [], i, x, h, _, _, _ => by simp at h
  | y :: r, 0, x, h, j, u, hu => by
    simp at h; subst h
    have hj : j < (enc y).length := (List.getElem?_eq_some_iff.1 hu).1
    rw [List.flatMap_cons, Nat.zero_mul, Nat.zero_add, List.getElem?_append_left hj]; exact hu
  | y :: r, i + 1, x, h, j, u, hu => by
    have h' : r[i]? = some x := by simpa using h
    have := flatMap_cell hk r i x h' j u hu
    rw [List.flatMap_cons, List.getElem?_append_right (by rw [hk, Nat.add_mul]; omega), hk, show (i + 1) * k + j - k = i * k + j by rw [Nat.add_mul]; omega]
    exact this
theorem Sl.own {α : Type} {enc : α → List Value} {k : Nat} (hk : ∀ x, (enc x).length = k) {w : World} {v : Value} {l : List α} {base e n : Nat} (h : w.ownsRow base e k v n (l.flatMap enc)) (hn : l.length = n) : Sl enc k w v l := by
  subst hn
  rcases h.2 with ⟨rfl, h0⟩ | ⟨g, cap, cur, rfl, _, hg, hcap, _, hsz, htake⟩
  · exact Or.inl ⟨List.eq_nil_of_length_eq_zero h0, none, 0, rfl⟩
  · refine Or.inr ⟨g, 0, cap, rfl, hcap, (Array.getElem?_eq_some_iff.1 hg).1, fun i x hi j u hu => ?_⟩
    have hc := flatMap_cell hk l i x hi j u hu
    rw [cell_of_row w g (0 + i * k + j) cur e (0, 0) hg, Nat.zero_add]
    rw [← htake, List.getElem?_take] at hc
    split at hc
    · simpa using hc
    · cases hc
structure RowTy (P : Program) (t e size bytes : Nat) : Prop where
  ht : P.underlying t = some (.slice e)
  ex : ∃ i z, P.info? e = some i ∧ i.zero = some z ∧ i.size = size ∧ i.bytes = bytes ∧ z.cells.size = size
  pos : 0 < size
theorem RowTy.mk' {P : Program} {t e size bytes : Nat} {z : Value} (ht : P.underlying t = some (.slice e)) (h : (P.info? e).map (fun i => (i.zero, i.size, i.bytes)) = some (some z, size, bytes)) (hz : z.cells.size = size) (hp : 0 < size) : RowTy P t e size bytes := by
  obtain ⟨i, hi, a, b, c⟩ := info_parts h
  exact ⟨ht, ⟨i, z, hi, a, b, c, hz⟩, hp⟩
theorem wpList_app {P : Program} {w : World} {ops : Array Oper} {rest : List Oper} {o : Oper} {a : Act} {Q : Exit → Act → World → Prop} {t e size bytes : Nat} (R : RowTy P t e size bytes) (hgd : o.guard = none) (s x : Operand)
    (ho : o.op = .call { callee := .builtin .append, args := #[s, x], argTypes := #[t, t] })
    (base : Nat) (v : Value) (n : Nat) (xs : List Value) (hs : a.eval s = v) (hown : w.ownsRow base e size v n xs)
    (ad : Addr) (c : Nat) (news : List Value) (hx : a.eval x = .slice (some ad) 1 c) (hl : news.length = size) (hnews : ∀ j u, news[j]? = some u → w.cell? (ad.add j) = some u) (h1 : ∀ u ∈ news, u.oneCell' = true)
    (hn : (n + 1) * (bytes + 1) ≤ 140737488355328) (hbase : base ≤ w.heap.size) (H : Nat) (hH : w.heap.size = H)
    (h : ∀ g cap w', w'.ownsRow base e size (.slice (some ⟨g, 0, none⟩) (n + 1) cap) (n + 1) (xs ++ news) → w.grownBy w' v.ownBlock → (v.ownBlock = some g ∨ g = H) → g < w'.heap.size → n + 1 ≤ cap → wpList P ops Q rest (a.put o.dst (.slice (some ⟨g, 0, none⟩) (n + 1) cap)) w') : wpList P ops Q (o :: rest) a w := by
  obtain ⟨i, z, hi, hz, hsize, hby, hzs⟩ := R.ex
  have hb : (n + 1) * bytes ≤ 140737488355328 := Nat.le_trans (Nat.mul_le_mul_left _ (by omega)) hn
  have hm : n + 1 ≤ maxLen := by
    have : (n + 1) * 1 ≤ (n + 1) * (bytes + 1) := Nat.mul_le_mul_left _ (by omega)
    unfold maxLen; omega
  refine wpList_append_lies w hgd s x t ho base e i z size bytes R.ht hi hz hsize hby hzs R.pos v n xs hs hown ad 1 c news hx (by rw [hl]; omega) hnews h1 (by omega) hm hb hbase H hH ?_
  intro g cap w' ho' hg hat hlt
  refine h g cap w' ho' hg hat hlt ?_
  rcases ho'.2 with ⟨h0, _⟩ | ⟨g', cap', cur, h0, _, _, hc, _⟩
  · cases h0
  · cases h0; exact hc
end Go.Proofs.YtjnpkdpljmkpiaaGreatDoor
namespace Go.Proofs.YtjnpkdpljmkpiaaGreatDoor
open Go.RowKit Go.Shelf
namespace Lx
theorem dig_nat {c : UInt8} (h : isDig c = true) : 48 ≤ c.toNat ∧ c.toNat ≤ 57 := by
  simp only [isDig, Bool.and_eq_true, decide_eq_true_eq, UInt8.le_iff_toNat_le] at h
  exact h
end Lx
theorem ret_bool {a b : Bool} (h : a = b) : Ending.returned (.bool a) = .returned (.bool b) := by rw [h]
theorem ret_string {a b : ByteArray} (h : a = b) : Ending.returned (.string a) = .returned (.string b) := by rw [h]
def digN (x : Nat) : Bool := decide (48 ≤ x ∧ x ≤ 57)
def letN (x : Nat) : Bool := decide ((97 ≤ x ∧ x ≤ 122) ∨ x = 95)
theorem digN_byte (c : UInt8) : digN c.toNat = Lx.isDig c := by
  rw [Bool.eq_iff_iff]; simp [digN, Lx.isDig, UInt8.le_iff_toNat_le]
theorem letN_byte (c : UInt8) : letN c.toNat = Lx.isLet c := by
  rw [Bool.eq_iff_iff]; simp [letN, Lx.isLet, UInt8.le_iff_toNat_le, ← UInt8.toNat_inj]
theorem size_toList (s : ByteArray) : s.data.toList.length = s.size := by rw [Array.length_toList]; rfl
theorem extract_take (s : ByteArray) (n : Nat) : (s.extract 0 n).data.toList = s.data.toList.take n := by simp
theorem extract_drop (s : ByteArray) (n : Nat) : (s.extract n s.size).data.toList = s.data.toList.drop n := by
  rw [ByteArray.data_extract, Array.toList_extract, List.extract_eq_take_drop, ← size_toList]
  rw [List.take_of_length_le (by simp)]
theorem headD_byte (s : ByteArray) (h : 0 < s.size) : s.data.toList.headD 0 = s[0] := by
  rw [List.headD_eq_head?_getD, List.head?_eq_getElem?, List.getElem?_eq_getElem (by rw [size_toList]; exact h)]; rfl
theorem toList_nil {t : ByteArray} : t.toList = [] ↔ t.data.toList = [] := by rw [Lib.toList_data]
def tokC (x : Tok) : List Value := [.int .i64 x.k, .string x.t, .int .i64 x.p]
theorem tokC_len (x : Tok) : (tokC x).length = 3 := rfl
def tok (N : Nat) (x : Lx.R) : Tok := ⟨x.k, ⟨x.t.toArray⟩, N - x.m⟩
def toks (N : Nat) (l : List Lx.R) : List Tok := l.map (tok N)
theorem rowTok : RowTy Tryz.prog 134 140 3 32 := RowTy.mk' (z := .agg #[.int .i64 0, .string ⟨#[]⟩, .int .i64 0]) Tryz.underlying134 (by kernel_rfl) rfl (by omega)
def LexPost (s : ByteArray) (w : World) (e : Ending) (w' : World) : Prop :=
  ∃ (v : Value) (er at_ : Int), e = .returned (.tuple #[v, .agg #[.int .i64 er, .int .i64 at_]]) ∧ Below w.heap.size w w' ∧
    ((er = 0 ∧ at_ = 0 ∧ (Lx.lexS s.data.toList).2 = none ∧ w'.ownsRow w.heap.size 140 3 v (Lx.lexS s.data.toList).1.length ((toks s.size (Lx.lexS s.data.toList).1).flatMap tokC)) ∨
     (∃ c m : Nat, c ≠ 0 ∧ er = c ∧ at_ = (s.size - m : Nat) ∧ (Lx.lexS s.data.toList).2 = some (c, m) ∧ v = .slice none 0 0))
structure LexLp (s : ByteArray) (w : World) (l : Value) (r : ByteArray) (done : List Lx.R) (wr : World) : Prop where
  sz : r.size ≤ s.size
  few : done.length + r.size ≤ s.size
  below : Below w.heap.size w wr
  ret : wr.heap[w.heap.size]? = some (.cells #[.int .i64 0, .int .i64 0] 82 (0, 0))
  own : wr.ownsRow (w.heap.size + 1) 140 3 l done.length ((toks s.size done).flatMap tokC)
  eq : Lx.lexS s.data.toList = (done ++ (Lx.lexS r.data.toList).1, (Lx.lexS r.data.toList).2)
theorem two_cells {W : World} {b T : Nat} {x y : Value} (h : W.heap[b]? = some (.cells #[x, y] T (0, 0))) :
    W.cell? ⟨b, 0, none⟩ = some x ∧ W.cell? ⟨b, 1, none⟩ = some y ∧ W.frozen? ⟨b, 0, none⟩ = false ∧ W.frozen? ⟨b, 1, none⟩ = false :=
  ⟨by simp [World.cell?, h], by simp [World.cell?, h], by simp [World.frozen?, h], by simp [World.frozen?, h]⟩
theorem size_of_list (r : ByteArray) : r.size = r.data.toList.length := (size_toList r).symm
theorem LexLp.step {s : ByteArray} {w : World} {l : Value} {r u : ByteArray} {done : List Lx.R} {wr w1 : World} (h : LexLp s w l r done wr) (hb : Below wr.heap.size wr w1) (hu : u.size ≤ r.size) (he : Lx.lexS u.data.toList = Lx.lexS r.data.toList) : LexLp s w l u done w1 where
  sz := Nat.le_trans hu h.sz
  few := Nat.le_trans (Nat.add_le_add_left hu _) h.few
  below := below_next h.below hb
  ret := (hb.block _ (Array.getElem?_eq_some_iff.1 h.ret).1).trans h.ret
  own := below_row hb h.own
  eq := by rw [he]; exact h.eq
theorem LexLp.push {s : ByteArray} {w : World} {l : Value} {u u' t : ByteArray} {done : List Lx.R} {w3 w4 : World} {o : Obj} {g cap k d : Nat} (h : LexLp s w l u done w3) (hd : (s.size : Int) - (u.size : Int) = (d : Int)) (hne : t.data.toList ≠ []) (hle : t.size ≤ u.size)
    (he : Lx.lexS u.data.toList = (⟨k, t.data.toList, u.data.toList.length⟩ :: (Lx.lexS (u.data.toList.drop t.data.toList.length)).1, (Lx.lexS (u.data.toList.drop t.data.toList.length)).2))
    (hu : u'.data.toList = u.data.toList.drop t.data.toList.length)
    (ho : w4.ownsRow (w.heap.size + 1) 140 3 (.slice (some ⟨g, 0, none⟩) (done.length + 1) cap) (done.length + 1) ((toks s.size done).flatMap tokC ++ [.int .i64 k, .string t, .int .i64 d])) (hg : (w3.alloc o).grownBy w4 l.ownBlock) :
    LexLp s w (.slice (some ⟨g, 0, none⟩) (done.length + 1) cap) u' (done ++ [⟨k, t.data.toList, u.data.toList.length⟩]) w4 := by
  have hsz := h.sz
  have hpos : 0 < t.size := by rw [size_of_list]; exact List.length_pos_iff.2 hne
  have hu2 : u'.size = u.size - t.size := by rw [size_of_list, hu, List.length_drop, size_toList, size_toList]
  have hlow : ∀ k, l.ownBlock = some k → w.heap.size + 1 ≤ k := fun k hk => (h.own.lt k hk).1
  have hsize := h.below.size
  have hret := (Array.getElem?_eq_some_iff.1 h.ret).1
  refine ⟨by omega, ?_, ?_, ?_, ?_, ?_⟩
  · have := h.few; simp; omega
  · exact (h.below.alloc hsize o).grown hg (by simp; omega) (fun q hq => by have := hlow q hq; omega)
  · rw [hg.block w.heap.size (by simp; omega) (fun e => by have := hlow _ e.symm; omega), Below.heap_alloc _ _ _ hret]; exact h.ret
  · have e : (toks s.size (done ++ [⟨k, t.data.toList, u.data.toList.length⟩])).flatMap tokC = (toks s.size done).flatMap tokC ++ [.int .i64 k, .string t, .int .i64 d] := by
      unfold toks
      rw [List.map_append, List.flatMap_append]
      congr 1
      have e2 : s.size - u.size = d := by omega
      simp [tok, tokC, e2]
    rw [e]
    simpa using ho
  · rw [h.eq, he, hu]; simp
theorem first_dig {r : Lx.Bs} (h : r.takeWhile Lx.isDig ≠ []) : Lx.first r = if Lx.tooBig (r.takeWhile Lx.isDig) then .err 2 else .tok 2 (r.takeWhile Lx.isDig) := by
  unfold Lx.first
  have : (r.takeWhile Lx.isDig).isEmpty = false := by
    cases h2 : r.takeWhile Lx.isDig with
    | nil => exact absurd h2 h
    | cons _ _ => rfl
  simp only [this, Bool.false_eq_true, if_false]
theorem first_word {r : Lx.Bs} (h : r.takeWhile Lx.isDig = []) (hw : Lx.isWord (r.takeWhile Lx.isPt) = true) : Lx.first r = .tok 3 (r.takeWhile Lx.isPt) := by
  unfold Lx.first; simp [h, hw]
theorem first_name {r : Lx.Bs} (h : r.takeWhile Lx.isDig = []) (hw : Lx.isWord (r.takeWhile Lx.isPt) = false) (hn : Lx.isName (r.takeWhile Lx.isPt) = true) : Lx.first r = .tok 1 (r.takeWhile Lx.isPt) := by
  unfold Lx.first; simp [h, hw, hn]
theorem first_none {r : Lx.Bs} (h : r.takeWhile Lx.isDig = []) (hw : Lx.isWord (r.takeWhile Lx.isPt) = false) (hn : Lx.isName (r.takeWhile Lx.isPt) = false) (hp : r.takeWhile Lx.isPt ≠ []) : Lx.first r = .err 5 := by
  unfold Lx.first
  have : (r.takeWhile Lx.isPt).isEmpty = false := by
    cases h2 : r.takeWhile Lx.isPt with
    | nil => exact absurd h2 hp
    | cons _ _ => rfl
  simp [h, hw, hn, this]
theorem first_sign {r : Lx.Bs} (h : r.takeWhile Lx.isDig = []) (hp : r.takeWhile Lx.isPt = []) : Lx.first r = match Lx.signs.find? (·.isPrefixOf r) with | some t => .tok 4 t | none => .err 5 := by
  unfold Lx.first
  have a : Lx.isWord [] = false := by decide
  have b : Lx.isName [] = false := by decide
  simp only [h, hp, a, b, List.isEmpty_nil, if_true, Bool.false_eq_true, if_false]
  all_goals rfl
theorem byte48 {c : UInt8} : ((c.toNat : Int) == 48) = true ↔ c = 48 := by
  rw [beq_iff_eq, ← UInt8.toNat_inj]
  have : (48 : UInt8).toNat = 48 := rfl
  omega
end Go.Proofs.YtjnpkdpljmkpiaaGreatDoor
namespace Go.Proofs.YtjnpkdpljmkpiaaGreatDoor
open Go.RowKit Go.Shelf
theorem concat_bytes (a b : ByteArray) : (a ++ b).data.toList = a.data.toList ++ b.data.toList := by simp
theorem bytes_ext {a b : ByteArray} (h : a.data.toList = b.data.toList) : a = b := by
  obtain ⟨⟨a⟩⟩ := a
  obtain ⟨⟨b⟩⟩ := b
  simp at h; rw [h]
theorem list_size (s : ByteArray) : s.data.toList.length = s.size := by rw [Array.length_toList]; rfl
theorem fields_eq {P : Program} {t : TypeId} {fs : Array Field} (h : P.underlying t = some (.struct fs)) : P.fieldsOf t = fs := by unfold Program.fieldsOf; rw [h]
def Blk (w : World) (b : Nat) (cs : Array Value) (T : Nat) : Prop := w.heap[b]? = some (.cells cs T (0, 0))
theorem Blk.new (w : World) (cs : Array Value) (T : Nat) : Blk (w.alloc (.cells cs T)) w.heap.size cs T := heap_alloc_new w _
theorem Blk.below {w w' : World} {b T : Nat} {cs : Array Value} (h : Blk w b cs T) (hb : Below w.heap.size w w') : Blk w' b cs T := (hb.block b (Array.getElem?_eq_some_iff.1 h).1).trans h
theorem Blk.lt {w : World} {b T : Nat} {cs : Array Value} (h : Blk w b cs T) : b < w.heap.size := (Array.getElem?_eq_some_iff.1 h).1
theorem one_cell {W : World} {b T : Nat} {x : Value} (h : Blk W b #[x] T) : W.cell? ⟨b, 0, none⟩ = some x ∧ W.frozen? ⟨b, 0, none⟩ = false := by
  unfold Blk at h; exact ⟨by simp [World.cell?, h], by simp [World.frozen?, h]⟩
theorem Blk.set1 {W : World} {b T : Nat} {x : Value} (h : Blk W b #[x] T) (y : Value) : Blk (W.setCell ⟨b, 0, none⟩ y) b #[y] T := by
  unfold Blk at h ⊢
  simp [World.setCell, Array.getElem?_modify, h]
theorem Blk.other {W : World} {b T : Nat} {cs : Array Value} (h : Blk W b cs T) {p : Nat} (i : Nat) (hp : b ≠ p) (y : Value) : Blk (W.setCell ⟨p, i, none⟩ y) b cs T := by
  unfold Blk at h ⊢
  rw [Below.heap_setCell _ _ _ _ hp]; exact h
theorem Sl.lit {α : Type} {enc : α → List Value} {k : Nat} (hk : ∀ x, (enc x).length = k) {w : World} {b c T : Nat} {fr : Nat × Nat} {l : List α} (h : w.heap[b]? = some (.cells (l.flatMap enc).toArray T fr)) (hc : l.length ≤ c) : Sl enc k w (.slice (some ⟨b, 0, none⟩) l.length c) l :=
  Or.inr ⟨b, 0, c, rfl, hc, (Array.getElem?_eq_some_iff.1 h).1, fun i x hi j u hu => by
    rw [cell_of_row w b (0 + i * k + j) _ T fr h, Nat.zero_add]
    have := flatMap_cell hk l i x hi j u hu
    simpa using this⟩
theorem Sl.take {α : Type} {enc : α → List Value} {k : Nat} {w : World} {a : Option Addr} {l : List α} {c n : Nat} (h : Sl enc k w (.slice a l.length c) l) (hn : n ≤ l.length) : Sl enc k w (.slice a n c) (l.take n) := by
  rcases h with ⟨h2, a', c', h1⟩ | ⟨b, o, c', h1, hc, hlt, hx⟩
  · subst h2; simp at hn; subst hn; exact Or.inl ⟨rfl, _, _, rfl⟩
  · simp only [Value.slice.injEq] at h1
    obtain ⟨rfl, _, rfl⟩ := h1
    refine Or.inr ⟨b, o, c, by rw [List.length_take, Nat.min_eq_left hn], by rw [List.length_take]; omega, hlt, fun i x hi j u hu => hx i x ?_ j u hu⟩
    rw [List.getElem?_take] at hi
    split at hi
    · exact hi
    · cases hi
def intC (x : Int) : List Value := [.int .i64 x]
theorem intC_len (x : Int) : (intC x).length = 1 := rfl
def strC (s : ByteArray) : List Value := [.string s]
theorem strC_len (x : ByteArray) : (strC x).length = 1 := rfl
def oneC (v : Value) : List Value := [v]
theorem oneC_len (x : Value) : (oneC x).length = 1 := rfl
theorem flat_one (l : List Value) : l.flatMap oneC = l := by induction l with
  | nil => rfl
  | cons a l ih => simp [List.flatMap_cons, oneC, ih]
def Sg {β : Type} (k : Nat) (P : World → List Value → β → Prop) (w : World) (v : Value) (L : List β) : Prop :=
  ∃ cs : List (List Value), Sl id k w v cs ∧ cs.length = L.length ∧ ∀ (i : Nat) (c : List Value) (x : β), cs[i]? = some c → L[i]? = some x → P w c x
def Keeps {β : Type} (P : World → List Value → β → Prop) : Prop := ∀ (w w' : World) (c : List Value) (x : β), P w c x → Below w.heap.size w w' → P w' c x
section
variable {β : Type} {k : Nat} {P : World → List Value → β → Prop} {w w' : World} {v : Value} {L : List β}
theorem Sg.below (hP : Keeps P) (h : Sg k P w v L) (hb : Below w.heap.size w w') : Sg k P w' v L := by
  obtain ⟨cs, h1, h2, h3⟩ := h
  exact ⟨cs, h1.below hb, h2, fun i c x hc hx => hP _ _ _ _ (h3 i c x hc hx) hb⟩
theorem Sg.nil_ : Sg k P w (.slice none 0 0) [] := ⟨[], Sl.nil_, rfl, fun i c x hc _ => by simp at hc⟩
theorem Sg.form (hP : Keeps P) (h : Sg k P w v L) : ∃ a c, v = .slice a L.length c ∧ L.length ≤ c ∧ ∀ W, Below w.heap.size w W → ∀ i x, L[i]? = some x → ∃ b o cs, a = some ⟨b, o, none⟩ ∧ P W cs x ∧ ∀ j u, cs[j]? = some u → W.cell? ⟨b, o + i * k + j, none⟩ = some u := by
  obtain ⟨cs, h1, h2, h3⟩ := h
  obtain ⟨a, c, rfl, hc, hx⟩ := h1.form
  rw [h2]
  refine ⟨a, c, rfl, by omega, fun W hW i x hi => ?_⟩
  have hi2 := (List.getElem?_eq_some_iff.1 hi).1
  obtain ⟨y, hy⟩ : ∃ y, cs[i]? = some y := ⟨_, List.getElem?_eq_getElem (by omega)⟩
  obtain ⟨b, o, rfl, hj⟩ := hx W hW i y hy
  exact ⟨b, o, y, rfl, hP _ _ _ _ (h3 i y x hy hi) hW, hj⟩
end
def Og {β : Type} (T k : Nat) (P : World → List Value → β → Prop) (base : Nat) (w : World) (v : Value) (L : List β) : Prop :=
  ∃ cs : List (List Value), w.ownsRow base T k v L.length (cs.flatMap id) ∧ cs.length = L.length ∧ (∀ c ∈ cs, c.length = k) ∧ ∀ (i : Nat) (c : List Value) (x : β), cs[i]? = some c → L[i]? = some x → P w c x
section
variable {β : Type} {T k base : Nat} {P : World → List Value → β → Prop} {w w' : World} {v : Value} {L : List β}
theorem Og.nil_ : Og T k P base w (.slice none 0 0) [] := ⟨[], World.ownsRow_nil _ _ _ _, rfl, fun c hc => by simp at hc, fun i c x hc _ => by simp at hc⟩
theorem Og.below (hP : Keeps P) (h : Og T k P base w v L) (hb : Below w.heap.size w w') : Og T k P base w' v L := by
  obtain ⟨cs, h1, h2, h3, h4⟩ := h
  exact ⟨cs, below_row hb h1, h2, h3, fun i c x hc hx => hP _ _ _ _ (h4 i c x hc hx) hb⟩
theorem flatMap_cell' {k : Nat} : ∀ (l : List (List Value)) (i : Nat) (x : List Value), (∀ c ∈ l, c.length = k) → l[i]? = some x → ∀ j u, x[j]? = some u → (l.flatMap id)[i * k + j]? = some u
  | [], i, x, _, h, _, _, _ => by simp at h
  | y :: r, 0, x, hk, h, j, u, hu => by
    simp at h; subst h
    have hj := (List.getElem?_eq_some_iff.1 hu).1
    rw [List.flatMap_cons, Nat.zero_mul, Nat.zero_add]
    show (y ++ _)[j]? = _
    rw [List.getElem?_append_left hj]; exact hu
  | y :: r, i + 1, x, hk, h, j, u, hu => by
    have h' : r[i]? = some x := by simpa using h
    have := flatMap_cell' r i x (fun c hc => hk c (by simp [hc])) h' j u hu
    have hy := hk y (by simp)
    rw [List.flatMap_cons, List.getElem?_append_right (by simp only [id]; rw [hy, Nat.add_mul]; omega)]
    simp only [id]
    rw [hy, show (i + 1) * k + j - k = i * k + j by rw [Nat.add_mul]; omega]
    exact this
theorem Og.sg (h : Og T k P base w v L) : Sg k P w v L := by
  obtain ⟨cs, h1, h2, h3, h4⟩ := h
  refine ⟨cs, ?_, h2, h4⟩
  rcases h1.2 with ⟨rfl, h0⟩ | ⟨g, cap, cur, rfl, _, hg, hcap, _, hsz, htake⟩
  · exact Or.inl ⟨List.eq_nil_of_length_eq_zero (by omega), none, 0, rfl⟩
  · refine Or.inr ⟨g, 0, cap, by rw [h2], by omega, (Array.getElem?_eq_some_iff.1 hg).1, fun i x hi j u hu => ?_⟩
    have hc := flatMap_cell' cs i x h3 hi j u hu
    rw [cell_of_row w g (0 + i * k + j) cur T (0, 0) hg, Nat.zero_add]
    rw [← htake, List.getElem?_take] at hc
    split at hc
    · simpa using hc
    · cases hc
theorem Og.len (h : Og T k P base w v L) (hP : Keeps P) : ∃ a c, v = .slice a L.length c ∧ L.length ≤ c := by
  obtain ⟨a, c, h1, h2, _⟩ := h.sg.form hP
  exact ⟨a, c, h1, h2⟩
theorem Og.push (h : Og T k P base w v L) {w1 : World} {v1 : Value} {x : β} {news : List Value} (hP : ∀ c x, P w c x → P w1 c x) (hn : news.length = k) (hx : P w1 news x)
    (ho : ∀ xs, w.ownsRow base T k v L.length xs → w1.ownsRow base T k v1 (L.length + 1) (xs ++ news)) : Og T k P base w1 v1 (L ++ [x]) := by
  obtain ⟨cs, h1, h2, h3, h4⟩ := h
  refine ⟨cs ++ [news], ?_, by simp [h2], ?_, ?_⟩
  · have := ho _ h1
    simpa using this
  · intro c hc
    rcases List.mem_append.1 hc with hc | hc
    · exact h3 c hc
    · rw [List.mem_singleton.1 hc]; exact hn
  · intro i c y hc hy
    rcases Nat.lt_or_ge i L.length with hi | hi
    · rw [List.getElem?_append_left (by omega)] at hc hy
      exact hP c y (h4 i c y hc hy)
    · have hi2 : i = L.length := by
        have := (List.getElem?_eq_some_iff.1 hy).1
        simp at this; omega
      subst hi2
      rw [List.getElem?_append_right (by omega)] at hc hy
      simp [h2] at hc hy
      subst hc hy; exact hx
end
end Go.Proofs.YtjnpkdpljmkpiaaGreatDoor
namespace Go.Proofs.YtjnpkdpljmkpiaaGreatDoor
namespace Tx
structure Nd where
  op : Int
  a : Int
  b : Int
  c : Int
  n : Int
  s : ByteArray
instance : DecidableEq Nd := fun x y =>
  decidable_of_iff (x.op = y.op ∧ x.a = y.a ∧ x.b = y.b ∧ x.c = y.c ∧ x.n = y.n ∧ x.s = y.s) (by cases x; cases y; simp)
def kids (x : Nd) : List Int :=
  if x.op = 26 then [x.a, x.b, x.c]
  else if x.op = 28 then (if x.b = -1 then [x.a] else [x.b, x.a])
  else if x.op = 27 then (if x.a = -1 then [] else [x.a])
  else if 6 ≤ x.op ∧ x.op ≤ 20 then [x.a, x.b]
  else if x.op = 4 ∨ x.op = 5 ∨ (21 ≤ x.op ∧ x.op ≤ 25) then [x.a]
  else []
def arB (op : Int) (k : Nat) : Bool :=
  if op = 26 then k == 3
  else if op = 28 then k == 1 || k == 2
  else if op = 27 then k == 0 || k == 1
  else if 6 ≤ op ∧ op ≤ 20 then k == 2
  else if op = 4 ∨ op = 5 ∨ (21 ≤ op ∧ op ≤ 25) then k == 1
  else k == 0
def aim (x : Nd) (l : List Int) : Nd :=
  match l with
  | [] => x
  | [p] => { x with a := p }
  | [p, q] => if x.op = 28 then { x with b := p, a := q } else { x with a := p, b := q }
  | p :: q :: r :: _ => { x with a := p, b := q, c := r }
def leaf (op n : Int) (s : ByteArray) : Nd := ⟨op, -1, -1, -1, n, s⟩
inductive Fo where
  | no
  | tr (op n : Int) (s : ByteArray) (ks : Fo) (r : Fo)
namespace Fo
def size : Fo → Nat
  | no => 0
  | tr _ _ _ ks r => size ks + 1 + size r
def count : Fo → Nat
  | no => 0
  | tr _ _ _ _ r => count r + 1
def depth : Fo → Nat
  | no => 0
  | tr _ _ _ ks r => max (depth ks + 1) (depth r)
def app : Fo → Fo → Fo
  | no, b => b
  | tr op n s ks r, b => tr op n s ks (app r b)
def ends (base : Nat) : Fo → List Int
  | no => []
  | tr _ _ _ ks r => ((base + size ks : Nat) : Int) :: ends (base + size ks + 1) r
def flat (base : Nat) : Fo → List Nd
  | no => []
  | tr op n s ks r => flat base ks ++ aim (leaf op n s) (ends base ks) :: flat (base + size ks + 1) r
theorem flat_len (t : Fo) : ∀ base, (t.flat base).length = t.size := by
  induction t with
  | no => intro _; rfl
  | tr op n s ks r ihk ihr => intro base; simp [flat, size, ihk, ihr]; omega
theorem ends_len (t : Fo) : ∀ base, (t.ends base).length = t.count := by
  induction t with
  | no => intro _; rfl
  | tr op n s ks r _ ihr => intro base; simp [ends, count, ihr]
theorem ends_range (t : Fo) : ∀ (base : Nat) (k : Int), k ∈ t.ends base → (base : Int) ≤ k ∧ k < base + t.size := by
  induction t with
  | no => intro _ k h; simp [ends] at h
  | tr op n s ks r _ ihr =>
    intro base k h
    simp only [ends, List.mem_cons] at h
    simp only [size]
    rcases h with rfl | h
    · omega
    · have := ihr _ k h; omega
theorem app_no (a : Fo) : a.app no = a := by induction a with
  | no => rfl
  | tr op n s ks r _ ih => simp [app, ih]
theorem app_assoc (a b c : Fo) : (a.app b).app c = a.app (b.app c) := by induction a with
  | no => rfl
  | tr op n s ks r _ ih => simp [app, ih]
theorem size_app (a b : Fo) : (a.app b).size = a.size + b.size := by induction a with
  | no => simp [app, size]
  | tr op n s ks r _ ih => simp [app, size, ih]; omega
theorem count_app (a b : Fo) : (a.app b).count = a.count + b.count := by induction a with
  | no => simp [app, count]
  | tr op n s ks r _ ih => simp [app, count, ih]; omega
theorem depth_app (a b : Fo) : (a.app b).depth = max a.depth b.depth := by induction a with
  | no => simp [app, depth]
  | tr op n s ks r _ ih => simp [app, depth, ih, Nat.max_assoc]
theorem ends_app (a b : Fo) : ∀ base, (a.app b).ends base = a.ends base ++ b.ends (base + a.size) := by induction a with
  | no => intro _; simp [app, size, ends]
  | tr op n s ks r _ ih => intro base; simp [app, size, ends, ih]; congr 1; omega
theorem flat_app (a b : Fo) : ∀ base, (a.app b).flat base = a.flat base ++ b.flat (base + a.size) := by induction a with
  | no => intro _; simp [app, size, flat]
  | tr op n s ks r _ ih => intro base; simp [app, size, flat, ih, Nat.add_assoc]
theorem count_zero {a : Fo} (h : a.count = 0) : a = no := by cases a <;> simp [count] at h ⊢
end Fo
def dft : Nd := leaf 0 0 ByteArray.empty
def bareB (x : Nd) : Bool := decide (x = aim (leaf x.op x.n x.s) (kids x))
def plainB (op n : Int) (s : ByteArray) : Bool :=
  (decide (s ≠ ByteArray.empty) == (op == 3 || op == 27)) && decide (0 ≤ n) && decide (n ≤ if op = 1 then 2147483647 else if op = 2 then 1 else if op = 25 then 1000 else 0)
def nodeB (x : Nd) : Bool := decide (1 ≤ x.op) && decide (x.op ≤ 28) && bareB x && plainB x.op x.n x.s
theorem kids_aim {op n : Int} {s : ByteArray} {l : List Int} (ha : arB op l.length = true) (hl : ∀ k ∈ l, k ≠ -1) : kids (aim (leaf op n s) l) = l := by
  unfold arB at ha
  match l with
  | [] =>
    simp only [List.length_nil] at ha
    simp only [aim, kids, leaf]
    repeat' (split at ha)
    all_goals simp_all
    rw [if_neg (by omega), if_neg (by omega)]
  | [p] =>
    simp only [List.length_singleton] at ha
    have := hl p (by simp)
    simp only [aim, kids, leaf]
    repeat' (split at ha)
    all_goals simp_all
  | [p, q] =>
    simp only [List.length_cons, List.length_nil] at ha
    have := hl p (by simp)
    have := hl q (by simp)
    simp only [aim, kids, leaf]
    repeat' (split at ha)
    all_goals simp_all
  | [p, q, r] =>
    simp only [List.length_cons, List.length_nil] at ha
    simp only [aim, kids, leaf]
    repeat' (split at ha)
    all_goals simp_all
  | p :: q :: r :: u :: t =>
    simp only [List.length_cons] at ha
    exfalso
    repeat' (split at ha)
    all_goals simp at ha
theorem kids_ar (x : Nd) : arB x.op (kids x).length = true := by
  unfold arB kids
  repeat' split
  all_goals simp_all
theorem aim_bare {x : Nd} (h : bareB x = true) (l : List Int) (hl : l.length = (kids x).length) : aim x l = aim (leaf x.op x.n x.s) l := by
  have hx : x = aim (leaf x.op x.n x.s) (kids x) := by simpa [bareB] using h
  have e : ∀ (y : Nd) (k l : List Int), l.length = k.length → k.length ≤ 3 → aim (aim y k) l = aim y l := by
    intro y k l h1 h2
    match k, l with
    | [], [] => rfl
    | [p], [q] => rfl
    | [p, q], [r, t] => simp only [aim]; split <;> rfl
    | [p, q, r], [t, u, v] => rfl
    | p :: q :: r :: t :: u, _ => simp at h2
    | [], _ :: _ => simp at h1
    | [_], [] => simp at h1
    | [_], _ :: _ :: _ => simp at h1
    | [_, _], [] => simp at h1
    | [_, _], [_] => simp at h1
    | [_, _], _ :: _ :: _ :: _ => simp at h1
    | [_, _, _], [] => simp at h1
    | [_, _, _], [_] => simp at h1
    | [_, _, _], [_, _] => simp at h1
    | [_, _, _], _ :: _ :: _ :: _ :: _ => simp at h1
  have h3 : (kids x).length ≤ 3 := by
    unfold kids; repeat' split
    all_goals simp
  generalize leaf x.op x.n x.s = y at hx ⊢
  generalize kids x = k at hx hl h3
  rw [hx, e y k l hl h3]
theorem aim_op (x : Nd) (l : List Int) : (aim x l).op = x.op ∧ (aim x l).n = x.n ∧ (aim x l).s = x.s := by
  unfold aim; split <;> try simp
  split <;> simp
theorem bare_aim {op n : Int} {s : ByteArray} {l : List Int} (ha : arB op l.length = true) (hl : ∀ k ∈ l, k ≠ -1) : bareB (aim (leaf op n s) l) = true := by
  unfold bareB
  rw [kids_aim ha hl]
  have := aim_op (leaf op n s) l
  rw [this.1, this.2.1, this.2.2]
  simp [leaf]
def cat : List Fo → Fo
  | [] => .no
  | a :: l => a.app (cat l)
theorem cat_append (a b : List Fo) : cat (a ++ b) = (cat a).app (cat b) := by
  induction a with
  | nil => rfl
  | cons x a ih => simp [cat, ih, Fo.app_assoc]
def tOf (ts : List Fo) (x : Nd) : Fo := .tr x.op x.n x.s (cat ((kids x).map fun k => ts.getD k.toNat .no)) .no
def trees (e : List Nd) : List Fo := e.foldl (fun ts x => ts ++ [tOf ts x]) []
theorem trees_snoc (e : List Nd) (x : Nd) : trees (e ++ [x]) = trees e ++ [tOf (trees e) x] := by simp [trees, List.foldl_append]
theorem snoc_ind {α : Type} {P : List α → Prop} (h0 : P []) (h1 : ∀ l x, P l → P (l ++ [x])) : ∀ l, P l := by
  intro l
  rw [← List.reverse_reverse l]
  induction l.reverse with
  | nil => exact h0
  | cons x l ih => rw [List.reverse_cons]; exact h1 _ _ ih
theorem trees_len (e : List Nd) : (trees e).length = e.length := by
  induction e using snoc_ind with
  | h0 => rfl
  | h1 e x ih => simp [trees_snoc, ih]
theorem trees_app (a b : List Nd) (i : Nat) (hi : i < a.length) : (trees (a ++ b))[i]? = (trees a)[i]? := by
  induction b using snoc_ind with
  | h0 => simp
  | h1 b x ih =>
    rw [← List.append_assoc, trees_snoc, List.getElem?_append_left (by rw [trees_len]; simp; omega), ih]
def T (e : List Nd) (i : Nat) : Fo := (trees e).getD i .no
theorem T_app (a b : List Nd) (i : Nat) (hi : i < a.length) : T (a ++ b) i = T a i := by
  unfold T; rw [List.getD_eq_getElem?_getD, List.getD_eq_getElem?_getD, trees_app a b i hi]
theorem T_snoc (e : List Nd) (x : Nd) : T (e ++ [x]) e.length = tOf (trees e) x := by
  unfold T
  rw [trees_snoc, List.getD_eq_getElem?_getD, List.getElem?_append_right (by rw [trees_len]; exact Nat.le_refl _), trees_len]; simp
def inR (x : Nd) (i : Nat) : Prop := ∀ k ∈ kids x, 0 ≤ k ∧ k < (i : Int)
theorem split_get {α : Type} {e : List α} {i : Nat} {x : α} (h : e[i]? = some x) : e = e.take i ++ x :: e.drop (i + 1) ∧ (e.take i).length = i := by
  have hi := (List.getElem?_eq_some_iff.1 h).1
  refine ⟨?_, by rw [List.length_take]; omega⟩
  have h2 := (List.getElem?_eq_some_iff.1 h).2
  rw [← h2, List.getElem_cons_drop]; exact (List.take_append_drop i e).symm
theorem T_at {e : List Nd} {i : Nat} {x : Nd} (h : e[i]? = some x) (hr : inR x i) : T e i = .tr x.op x.n x.s (cat ((kids x).map fun k => T e k.toNat)) .no := by
  obtain ⟨he, hl⟩ := split_get h
  have e1 : e = (e.take i ++ [x]) ++ e.drop (i + 1) := by rw [List.append_assoc]; exact he
  have h1 : T e i = T (e.take i ++ [x]) i := by
    conv => lhs; rw [e1]
    exact T_app _ _ i (by simp [hl])
  have h2 : T (e.take i ++ [x]) i = tOf (trees (e.take i)) x := by
    have := T_snoc (e.take i) x
    rwa [hl] at this
  rw [h1, h2]
  unfold tOf
  congr 2
  apply List.map_congr_left
  intro k hk
  have hk2 := hr k hk
  have h3 : T e k.toNat = T (e.take i) k.toNat := by
    conv => lhs; rw [he]
    exact T_app _ _ _ (by rw [hl]; omega)
  rw [h3]; rfl
def argsB (op : Int) (l : List Int) : Bool :=
  if op = 27 then l.all (fun p => p == 28)
  else if op = 28 then (match l with | [p, q] => p == 28 && q != 28 | l => l.all (fun p => p != 28))
  else l.all (fun p => p != 28)
namespace Fo
def ops : Fo → List Int
  | no => []
  | tr op _ _ _ r => op :: ops r
theorem ops_app (a b : Fo) : (a.app b).ops = a.ops ++ b.ops := by induction a with
  | no => rfl
  | tr op n s ks r _ ih => simp [app, ops, ih]
theorem ops_len (a : Fo) : a.ops.length = a.count := by induction a with
  | no => rfl
  | tr op n s ks r _ ih => simp [ops, count, ih]
def wf : Fo → Bool
  | no => true
  | tr op n s ks r => decide (1 ≤ op) && decide (op ≤ 28) && arB op ks.count && plainB op n s && argsB op ks.ops && wf ks && wf r
theorem wf_app (a b : Fo) : (a.app b).wf = (a.wf && b.wf) := by induction a with
  | no => simp [app, wf]
  | tr op n s ks r _ ih => simp [app, wf, ih, Bool.and_assoc]
end Fo
theorem ends_ne (t : Fo) (base : Nat) : ∀ k ∈ t.ends base, k ≠ -1 := fun k hk => by have := t.ends_range base k hk; omega
theorem cat_ends (F : Fo) : ∀ (pre post : List Nd), F.wf = true → cat ((F.ends pre.length).map fun k => T (pre ++ F.flat pre.length ++ post) k.toNat) = F := by
  induction F with
  | no => intro _ _ _; rfl
  | tr op n s ks r ihk ihr =>
    intro pre post hw
    simp only [Fo.wf, Bool.and_eq_true] at hw
    obtain ⟨⟨⟨⟨⟨⟨h1, h2⟩, h3⟩, h4⟩, h5⟩, h6⟩, h7⟩ := hw
    have hk := ihk pre (aim (leaf op n s) (ks.ends pre.length) :: (r.flat (pre.length + ks.size + 1) ++ post)) h6
    have hr := ihr (pre ++ (ks.flat pre.length ++ [aim (leaf op n s) (ks.ends pre.length)])) post h7
    have hlen : (pre ++ (ks.flat pre.length ++ [aim (leaf op n s) (ks.ends pre.length)])).length = pre.length + ks.size + 1 := by simp [Fo.flat_len]; omega
    have e1 : pre ++ ks.flat pre.length ++ aim (leaf op n s) (ks.ends pre.length) :: (r.flat (pre.length + ks.size + 1) ++ post) = pre ++ (Fo.tr op n s ks r).flat pre.length ++ post := by
      simp [Fo.flat]
    rw [hlen] at hr
    have e2 : pre ++ (ks.flat pre.length ++ [aim (leaf op n s) (ks.ends pre.length)]) ++ r.flat (pre.length + ks.size + 1) ++ post = pre ++ (Fo.tr op n s ks r).flat pre.length ++ post := by
      simp [Fo.flat]
    rw [e1] at hk
    rw [e2] at hr
    generalize hE : pre ++ (Fo.tr op n s ks r).flat pre.length ++ post = E at hk hr
    have hx : E[pre.length + ks.size]? = some (aim (leaf op n s) (ks.ends pre.length)) := by
      rw [← hE, ← e1, List.getElem?_append_right (by simp [Fo.flat_len])]
      simp [Fo.flat_len]
    have hkid : kids (aim (leaf op n s) (ks.ends pre.length)) = ks.ends pre.length := kids_aim (by rw [Fo.ends_len]; exact h3) (ends_ne ks _)
    have hT := T_at hx (fun k hk2 => by
      rw [hkid] at hk2
      have := ks.ends_range _ k hk2
      omega)
    rw [hkid, hk] at hT
    have h8 := aim_op (leaf op n s) (ks.ends pre.length)
    rw [h8.1, h8.2.1, h8.2.2] at hT
    simp only [Fo.ends, List.map_cons, cat]
    rw [show ((pre.length + ks.size : Nat) : Int).toNat = pre.length + ks.size by omega, hT, hr]
    rfl
theorem T_flat (F : Fo) (pre post : List Nd) (hw : F.wf = true) (hc : F.count = 1) : T (pre ++ F.flat pre.length ++ post) (pre.length + F.size - 1) = F := by
  have h := cat_ends F pre post hw
  cases F with
  | no => simp [Fo.count] at hc
  | tr op n s ks r =>
    simp only [Fo.count] at hc
    obtain rfl := Fo.count_zero (a := r) (by omega)
    simp only [Fo.ends, List.map_cons, List.map_nil, cat, Fo.app_no] at h
    simp only [Fo.size]
    rw [show pre.length + (ks.size + 1 + 0) - 1 = ((pre.length + ks.size : Nat) : Int).toNat by omega]
    exact h
def allK (e : List Nd) : List Int := e.flatMap kids
def argsOk (e : List Nd) (x : Nd) : Bool := argsB x.op ((kids x).map fun k => (e.getD k.toNat dft).op)
def depOf (ds : List Nat) (x : Nd) : Nat := ((kids x).foldl (fun (m : Nat) (k : Int) => if 0 ≤ k ∧ k < (ds.length : Int) then max m (ds.getD k.toNat 0) else m) 0) + 1
def deps (e : List Nd) : List Nat := e.foldl (fun ds x => ds ++ [depOf ds x]) []
def depL (e : List Nd) : Nat := (deps e).getLastD 0
def nodesB (e : List Nd) : Bool := (List.range e.length).all fun i => nodeB (e.getD i dft) && (kids (e.getD i dft)).all (fun k => decide (0 ≤ k) && decide (k < (i : Int))) && argsOk e (e.getD i dft)
def mayB (e : List Nd) : Bool :=
  decide (1 ≤ e.length) && decide (e.length ≤ 5000) && (e.getLastD dft).op != 28 && nodesB e && (List.range (e.length - 1)).all (fun i => (allK e).count (i : Int) == 1) && decide (depL e ≤ 40)
def NodeP (e : List Nd) : Prop := ∀ i x, e[i]? = some x → nodeB x = true ∧ inR x i ∧ argsOk e x = true
structure MayP (e : List Nd) : Prop where
  ne : 1 ≤ e.length
  len : e.length ≤ 5000
  last : (e.getLastD dft).op ≠ 28
  node : NodeP e
  used : ∀ i, i + 1 < e.length → (allK e).count (i : Int) = 1
  deep : depL e ≤ 40
theorem nodesB_iff (e : List Nd) : nodesB e = true ↔ NodeP e := by
  unfold nodesB NodeP
  rw [List.all_eq_true]
  constructor
  · intro h i x hx
    have hi := (List.getElem?_eq_some_iff.1 hx).1
    have := h i (List.mem_range.2 hi)
    rw [List.getD_eq_getElem?_getD, hx] at this
    simp only [Option.getD_some, Bool.and_eq_true, List.all_eq_true, decide_eq_true_eq] at this
    exact ⟨this.1.1, fun k hk => this.1.2 k hk, this.2⟩
  · intro h i hi
    have hi := List.mem_range.1 hi
    obtain ⟨a, b, c⟩ := h i _ (List.getElem?_eq_getElem hi)
    rw [List.getD_eq_getElem?_getD, List.getElem?_eq_getElem hi]
    simp only [Option.getD_some, Bool.and_eq_true, List.all_eq_true, decide_eq_true_eq]
    exact ⟨⟨a, fun k hk => b k hk⟩, c⟩
theorem mayB_iff (e : List Nd) : mayB e = true ↔ MayP e := by
  unfold mayB
  simp only [Bool.and_eq_true, decide_eq_true_eq, bne_iff_ne, List.all_eq_true, beq_iff_eq, nodesB_iff, List.mem_range]
  constructor
  · rintro ⟨⟨⟨⟨⟨h1, h2⟩, h3⟩, h4⟩, h5⟩, h6⟩
    exact ⟨h1, h2, h3, h4, fun i hi => h5 i (by omega), h6⟩
  · rintro ⟨h1, h2, h3, h4, h5, h6⟩
    exact ⟨⟨⟨⟨⟨h1, h2⟩, h3⟩, h4⟩, fun i hi => h5 i (by omega)⟩, h6⟩
theorem deps_snoc (e : List Nd) (x : Nd) : deps (e ++ [x]) = deps e ++ [depOf (deps e) x] := by simp [deps, List.foldl_append]
theorem deps_len (e : List Nd) : (deps e).length = e.length := by
  induction e using snoc_ind with
  | h0 => rfl
  | h1 e x ih => simp [deps_snoc, ih]
theorem deps_app (a b : List Nd) (i : Nat) (hi : i < a.length) : (deps (a ++ b))[i]? = (deps a)[i]? := by
  induction b using snoc_ind with
  | h0 => simp
  | h1 b x ih =>
    rw [← List.append_assoc, deps_snoc, List.getElem?_append_left (by rw [deps_len]; simp; omega), ih]
def sumF (L : List Int) (f : Nat → Nat) : Nat → Nat
  | 0 => 0
  | n + 1 => sumF L f n + if (n : Int) ∈ L then 0 else f n
theorem sumF_far (L : List Int) (k : Int) (f : Nat → Nat) : ∀ n : Nat, (n : Int) ≤ k → sumF (L ++ [k]) f n = sumF L f n
  | 0, _ => rfl
  | n + 1, h => by
    simp only [sumF, sumF_far L k f n (by omega), List.mem_append, List.mem_singleton]
    have : ¬ (n : Int) = k := by omega
    simp only [this, or_false]
theorem sumF_one (L : List Int) (k : Nat) (f : Nat → Nat) (hk : (k : Int) ∉ L) : ∀ n : Nat, k < n → sumF (L ++ [(k : Int)]) f n + f k = sumF L f n
  | 0, h => by omega
  | n + 1, h => by
    simp only [sumF, List.mem_append, List.mem_singleton]
    by_cases e : k = n
    · subst e
      rw [sumF_far L k f k (Int.le_refl _), if_pos (Or.inr rfl), if_neg hk]; omega
    · have h2 : ¬ (n : Int) = (k : Int) := by omega
      have := sumF_one L k f hk n (by omega)
      simp only [h2, or_false]; omega
theorem sumF_more (f : Nat → Nat) (n : Nat) : ∀ (l L : List Int), (∀ k ∈ l, 0 ≤ k ∧ k < (n : Int)) → (L ++ l).Nodup → sumF (L ++ l) f n + (l.map fun k => f k.toNat).sum = sumF L f n
  | [], L, _, _ => by simp
  | k :: l, L, h, hn => by
    have hk := h k (by simp)
    obtain ⟨j, rfl⟩ : ∃ j : Nat, k = (j : Int) := ⟨k.toNat, by omega⟩
    have e : L ++ (j : Int) :: l = (L ++ [(j : Int)]) ++ l := by simp
    rw [e] at hn ⊢
    have h1 := sumF_more f n l (L ++ [(j : Int)]) (fun k hk => h k (by simp [hk])) hn
    have hj : (j : Int) ∉ L := by
      intro hm
      rw [List.append_assoc, List.nodup_append] at hn
      exact hn.2.2 _ hm _ (by simp) rfl
    have h2 := sumF_one L j f hj n (by omega)
    simp only [List.map_cons, List.sum_cons, Int.toNat_natCast]; omega
theorem sumF_congr (L : List Int) (f g : Nat → Nat) : ∀ n : Nat, (∀ i : Nat, i < n → f i = g i) → sumF L f n = sumF L g n
  | 0, _ => rfl
  | n + 1, h => by rw [sumF, sumF, sumF_congr L f g n (fun i hi => h i (by omega)), h n (by omega)]
theorem sumF_term (L : List Int) (f : Nat → Nat) : ∀ n i : Nat, i < n → (i : Int) ∉ L → f i ≤ sumF L f n
  | 0, i, h, _ => by omega
  | n + 1, i, h, hi => by
    rw [sumF]
    by_cases e : i = n
    · subst e; rw [if_neg hi]; omega
    · have := sumF_term L f n i (by omega) hi; omega
theorem sumF_none (L : List Int) (f : Nat → Nat) : ∀ n : Nat, (∀ i : Nat, i < n → (i : Int) ∈ L) → sumF L f n = 0
  | 0, _ => rfl
  | n + 1, h => by rw [sumF, sumF_none L f n (fun i hi => h i (by omega)), if_pos (h n (by omega))]
theorem size_cat (l : List Fo) : (cat l).size = (l.map Fo.size).sum := by
  induction l with
  | nil => rfl
  | cons a l ih => simp [cat, Fo.size_app, ih]
theorem allK_snoc (e : List Nd) (x : Nd) : allK (e ++ [x]) = allK e ++ kids x := by simp [allK]
theorem allK_app (a b : List Nd) : allK (a ++ b) = allK a ++ allK b := by simp [allK]
def InR (e : List Nd) : Prop := ∀ i x, e[i]? = some x → inR x i
theorem InR.left {a b : List Nd} (h : InR (a ++ b)) : InR a := fun i x hx => h i x (by rw [List.getElem?_append_left (List.getElem?_eq_some_iff.1 hx).1]; exact hx)
theorem InR.lt {e : List Nd} (h : InR e) : ∀ k ∈ allK e, 0 ≤ k ∧ k + 1 < (e.length : Int) := by
  intro k hk
  unfold allK at hk
  obtain ⟨x, hx, hk⟩ := List.mem_flatMap.1 hk
  obtain ⟨i, hi⟩ := List.getElem?_of_mem hx
  have h1 := h i x hi k hk
  have h2 := (List.getElem?_eq_some_iff.1 hi).1
  omega
theorem sum_sizes (e : List Nd) : InR e → (allK e).Nodup → sumF (allK e) (fun i => (T e i).size) e.length = e.length := by
  induction e using snoc_ind with
  | h0 => intro _ _; rfl
  | h1 e x ih =>
    intro h hn
    have hL := h.left
    rw [allK_snoc] at hn ⊢
    have ih := ih hL (by rw [List.nodup_append] at hn; exact hn.1)
    have hx := h e.length x (by simp)
    have hlast : (e.length : Int) ∉ allK e ++ kids x := by
      intro hm
      rcases List.mem_append.1 hm with hm | hm
      · have := hL.lt _ hm; omega
      · have := hx _ hm; omega
    have e1 : (e ++ [x]).length = e.length + 1 := by simp
    rw [e1, sumF, if_neg hlast]
    rw [sumF_congr _ _ (fun i => (T e i).size) e.length (fun i hi => by rw [T_app e [x] i hi])]
    have h1 := sumF_more (fun i => (T e i).size) e.length (kids x) (allK e) (fun k hk => hx k hk) hn
    have h2 := T_at (e := e ++ [x]) (i := e.length) (x := x) (by simp) hx
    rw [h2]
    have h3 : ((kids x).map fun k => T (e ++ [x]) k.toNat) = (kids x).map fun k => T e k.toNat := by
      apply List.map_congr_left
      intro k hk
      exact T_app e [x] _ (by have := hx k hk; omega)
    rw [h3]
    simp only [Fo.size, size_cat, List.map_map]
    have h4 : ((kids x).map (Fo.size ∘ fun k => T e k.toNat)).sum = ((kids x).map fun k => (T e k.toNat).size).sum := rfl
    rw [h4]; omega
theorem MayP.inR {e : List Nd} (h : MayP e) : InR e := fun i x hx => (h.node i x hx).2.1
theorem MayP.nodup {e : List Nd} (h : MayP e) : (allK e).Nodup := by
  rw [List.nodup_iff_count]
  intro k
  by_cases hk : k ∈ allK e
  · have h1 := h.inR.lt k hk
    obtain ⟨j, rfl⟩ : ∃ j : Nat, k = (j : Int) := ⟨k.toNat, by omega⟩
    rw [h.used j (by omega)]; exact Nat.le_refl _
  · rw [List.count_eq_zero.2 hk]; omega
theorem take_snoc' {e : List Nd} {i : Nat} {x : Nd} (h : e[i]? = some x) : e.take (i + 1) = e.take i ++ [x] := by rw [List.take_add_one, h]; rfl
theorem T_size {e : List Nd} (hR : InR e) (hn : (allK e).Nodup) {i : Nat} (hi : i < e.length) : (T e i).size ≤ i + 1 := by
  have he : e = e.take (i + 1) ++ e.drop (i + 1) := (List.take_append_drop _ _).symm
  have hl : (e.take (i + 1)).length = i + 1 := by rw [List.length_take]; omega
  have h1 : T e i = T (e.take (i + 1)) i := by conv => lhs; rw [he]
                                               exact T_app _ _ _ (by omega)
  have hR' : InR (e.take (i + 1)) := by rw [he] at hR; exact hR.left
  have hn' : (allK (e.take (i + 1))).Nodup := by rw [he, allK_app, List.nodup_append] at hn; exact hn.1
  have h2 := sum_sizes _ hR' hn'
  rw [hl] at h2
  have h3 := sumF_term (allK (e.take (i + 1))) (fun j => (T (e.take (i + 1)) j).size) (i + 1) i (by omega) (fun hm => by have := hR'.lt _ hm; omega)
  rw [h1]
  exact Nat.le_trans h3 (Nat.le_of_eq h2)
theorem MayP.size {e : List Nd} (h : MayP e) : (T e (e.length - 1)).size = e.length := by
  have h1 := sum_sizes e h.inR h.nodup
  obtain ⟨n, hn⟩ : ∃ n, e.length = n + 1 := ⟨e.length - 1, by have := h.ne; omega⟩
  rw [hn] at h1 ⊢
  rw [sumF, sumF_none _ _ n (fun i hi => by
    have := h.used i (by omega)
    exact List.count_pos_iff.1 (by omega)), if_neg (fun hm => by have := h.inR.lt _ hm; omega)] at h1
  simpa using h1
theorem depth_cat (l : List Fo) : (cat l).depth = l.foldl (fun m t => max m t.depth) 0 := by
  have : ∀ (l : List Fo) (m : Nat), l.foldl (fun m t => max m t.depth) m = max m (cat l).depth := by
    intro l
    induction l with
    | nil => intro m; simp [cat, Fo.depth]
    | cons a l ih => intro m; simp only [List.foldl_cons, ih, cat, Fo.depth_app]; omega
  rw [this]; omega
theorem foldl_same {α β : Type} (f g : β → α → β) : ∀ (l : List α) (b : β), (∀ b, ∀ x ∈ l, f b x = g b x) → l.foldl f b = l.foldl g b
  | [], _, _ => rfl
  | x :: l, b, h => by
    simp only [List.foldl_cons, h b x (by simp)]
    exact foldl_same f g l _ (fun b y hy => h b y (by simp [hy]))
theorem deps_T (e : List Nd) : InR e → deps e = (List.range e.length).map fun i => (T e i).depth := by
  induction e using snoc_ind with
  | h0 => intro _; rfl
  | h1 e x ih =>
    intro h
    have hx := h e.length x (by simp)
    have e1 : (e ++ [x]).length = e.length + 1 := by simp
    rw [deps_snoc, e1, List.range_succ, List.map_append, ih h.left]
    congr 1
    · apply List.map_congr_left
      intro i hi
      rw [T_app e [x] i (List.mem_range.1 hi)]
    · have h2 := T_at (e := e ++ [x]) (i := e.length) (x := x) (by simp) hx
      simp only [List.map_cons, List.map_nil, List.cons.injEq, and_true]
      rw [h2]
      simp only [Fo.depth, depth_cat, List.foldl_map, Nat.max_zero, depOf]
      congr 1
      apply foldl_same
      intro m k hk
      have hk2 := hx k hk
      rw [if_pos ⟨hk2.1, by simpa using hk2.2⟩, List.getD_eq_getElem?_getD, List.getElem?_map, List.getElem?_range (by omega)]
      simp only [Option.map_some, Option.getD_some]
      rw [T_app e [x] _ (by omega)]
theorem depL_T {e : List Nd} (h : InR e) (hne : 1 ≤ e.length) : depL e = (T e (e.length - 1)).depth := by
  unfold depL
  rw [deps_T e h]
  obtain ⟨n, hn⟩ : ∃ n, e.length = n + 1 := ⟨e.length - 1, by omega⟩
  rw [hn, List.range_succ]; simp
theorem ops_cat (l : List Fo) : (cat l).ops = l.flatMap Fo.ops := by
  induction l with
  | nil => rfl
  | cons a l ih => simp [cat, Fo.ops_app, ih]
theorem wf_cat (l : List Fo) : (cat l).wf = l.all Fo.wf := by
  induction l with
  | nil => rfl
  | cons a l ih => simp [cat, Fo.wf_app, ih]
theorem T_ops {e : List Nd} (h : InR e) {i : Nat} {x : Nd} (hx : e[i]? = some x) : (T e i).ops = [x.op] ∧ (T e i).count = 1 := by
  rw [T_at hx (h i x hx)]; simp [Fo.ops, Fo.count]
theorem T_wf {e : List Nd} (h : NodeP e) : ∀ i, i < e.length → (T e i).wf = true := by
  intro i
  induction i using Nat.strongRecOn with
  | _ i ih =>
    intro hi
    have hR : InR e := fun i x hx => (h i x hx).2.1
    obtain ⟨x, hx⟩ : ∃ x, e[i]? = some x := ⟨_, List.getElem?_eq_getElem hi⟩
    obtain ⟨h1, h2, h3⟩ := h i x hx
    have hk : ∀ k ∈ kids x, ∃ y, e[k.toNat]? = some y := fun k hk => ⟨_, List.getElem?_eq_getElem (by have := h2 k hk; omega)⟩
    have hops : (cat ((kids x).map fun k => T e k.toNat)).ops = (kids x).map fun k => (e.getD k.toNat dft).op := by
      rw [ops_cat, List.flatMap_map]
      have : ∀ l : List Int, (∀ k ∈ l, k ∈ kids x) → l.flatMap (fun k => (T e k.toNat).ops) = l.map fun k => (e.getD k.toNat dft).op := by
        intro l
        induction l with
        | nil => intro _; rfl
        | cons k l ihl =>
          intro hl
          obtain ⟨y, hy⟩ := hk k (hl k (by simp))
          rw [List.flatMap_cons, List.map_cons, ihl (fun k hk => hl k (by simp [hk])), (T_ops hR hy).1, List.getD_eq_getElem?_getD, hy]; rfl
      exact this _ (fun _ h => h)
    rw [T_at hx h2]
    unfold nodeB at h1
    simp only [Bool.and_eq_true, decide_eq_true_eq] at h1
    simp only [Fo.wf, Bool.and_eq_true, decide_eq_true_eq, hops, wf_cat, List.all_map]
    refine ⟨⟨⟨⟨⟨⟨h1.1.1.1, h1.1.1.2⟩, ?_⟩, h1.2⟩, h3⟩, ?_⟩, trivial⟩
    · rw [← Fo.ops_len, hops, List.length_map]; exact kids_ar x
    · rw [List.all_eq_true]
      intro k hk2
      have := h2 k hk2
      exact ih k.toNat (by omega) (by omega)
theorem ends_ops (F : Fo) : ∀ (pre post : List Nd), ((F.ends pre.length).map fun k => ((pre ++ F.flat pre.length ++ post).getD k.toNat dft).op) = F.ops := by
  induction F with
  | no => intro _ _; rfl
  | tr op n s ks r _ ihr =>
    intro pre post
    have hr := ihr (pre ++ (ks.flat pre.length ++ [aim (leaf op n s) (ks.ends pre.length)])) post
    have hlen : (pre ++ (ks.flat pre.length ++ [aim (leaf op n s) (ks.ends pre.length)])).length = pre.length + ks.size + 1 := by simp [Fo.flat_len]; omega
    rw [hlen] at hr
    have e2 : pre ++ (ks.flat pre.length ++ [aim (leaf op n s) (ks.ends pre.length)]) ++ r.flat (pre.length + ks.size + 1) ++ post = pre ++ (Fo.tr op n s ks r).flat pre.length ++ post := by
      simp [Fo.flat]
    rw [e2] at hr
    simp only [Fo.ends, List.map_cons, Fo.ops, hr, List.cons.injEq, and_true]
    have h1 : (pre ++ (Fo.tr op n s ks r).flat pre.length ++ post)[((pre.length + ks.size : Nat) : Int).toNat]? = some (aim (leaf op n s) (ks.ends pre.length)) := by
      rw [← e2, show ((pre.length + ks.size : Nat) : Int).toNat = pre.length + ks.size by omega, List.append_assoc, List.append_assoc, List.getElem?_append_right (by omega), Nat.add_sub_cancel_left, List.append_assoc, List.getElem?_append_right (by simp [Fo.flat_len])]
      simp [Fo.flat_len]
    rw [List.getD_eq_getElem?_getD, h1]
    exact (aim_op _ _).1
theorem flat_node (F : Fo) : ∀ (pre post : List Nd), F.wf = true → ∀ i x, (F.flat pre.length)[i]? = some x → nodeB x = true ∧ inR x (pre.length + i) ∧ argsOk (pre ++ F.flat pre.length ++ post) x = true := by
  induction F with
  | no => intro _ _ _ i x h; simp [Fo.flat] at h
  | tr op n s ks r ihk ihr =>
    intro pre post hw i x hx
    simp only [Fo.wf, Bool.and_eq_true, decide_eq_true_eq] at hw
    obtain ⟨⟨⟨⟨⟨⟨h1, h2⟩, h3⟩, h4⟩, h5⟩, h6⟩, h7⟩ := hw
    have hlen : (pre ++ (ks.flat pre.length ++ [aim (leaf op n s) (ks.ends pre.length)])).length = pre.length + ks.size + 1 := by simp [Fo.flat_len]; omega
    have e1 : pre ++ ks.flat pre.length ++ aim (leaf op n s) (ks.ends pre.length) :: (r.flat (pre.length + ks.size + 1) ++ post) = pre ++ (Fo.tr op n s ks r).flat pre.length ++ post := by
      simp [Fo.flat]
    have e2 : pre ++ (ks.flat pre.length ++ [aim (leaf op n s) (ks.ends pre.length)]) ++ r.flat (pre.length + ks.size + 1) ++ post = pre ++ (Fo.tr op n s ks r).flat pre.length ++ post := by
      simp [Fo.flat]
    rw [Fo.flat] at hx
    rcases Nat.lt_trichotomy i ks.size with hi | hi | hi
    · rw [List.getElem?_append_left (by rw [Fo.flat_len]; exact hi)] at hx
      have := ihk pre (aim (leaf op n s) (ks.ends pre.length) :: (r.flat (pre.length + ks.size + 1) ++ post)) h6 i x hx
      rw [e1] at this; exact this
    · subst hi
      rw [List.getElem?_append_right (by rw [Fo.flat_len]; exact Nat.le_refl _), Fo.flat_len] at hx
      simp only [Nat.sub_self, List.getElem?_cons_zero, Option.some.injEq] at hx
      subst hx
      have har : arB op (ks.ends pre.length).length = true := by rw [Fo.ends_len]; exact h3
      have hk : kids (aim (leaf op n s) (ks.ends pre.length)) = ks.ends pre.length := kids_aim har (ends_ne ks _)
      have h8 := aim_op (leaf op n s) (ks.ends pre.length)
      refine ⟨?_, ?_, ?_⟩
      · unfold nodeB
        rw [h8.1, h8.2.1, h8.2.2, bare_aim har (ends_ne ks _)]
        have h9 : (leaf op n s).op = op := rfl
        have h10 : (leaf op n s).n = n := rfl
        have h11 : (leaf op n s).s = s := rfl
        rw [h9, h10, h11, h4, decide_eq_true h1, decide_eq_true h2]; rfl
      · intro k hk2
        rw [hk] at hk2
        have := ks.ends_range _ k hk2; omega
      · unfold argsOk
        rw [hk, h8.1]
        have := ends_ops ks pre (aim (leaf op n s) (ks.ends pre.length) :: (r.flat (pre.length + ks.size + 1) ++ post))
        rw [e1] at this
        rw [this]; exact h5
    · rw [List.getElem?_append_right (by rw [Fo.flat_len]; omega), Fo.flat_len] at hx
      obtain ⟨j, hj⟩ : ∃ j, i - ks.size = j + 1 := ⟨i - ks.size - 1, by omega⟩
      rw [hj, List.getElem?_cons_succ] at hx
      have := ihr (pre ++ (ks.flat pre.length ++ [aim (leaf op n s) (ks.ends pre.length)])) post h7 j x (by rw [hlen]; exact hx)
      rw [hlen, e2] at this
      rw [show pre.length + i = pre.length + ks.size + 1 + j by omega]; exact this
theorem flat_count (F : Fo) : ∀ (base : Nat) (j : Int), F.wf = true → (allK (F.flat base)).count j + (F.ends base).count j = if (base : Int) ≤ j ∧ j < base + F.size then 1 else 0 := by
  induction F with
  | no => intro base j _; rw [if_neg (by simp only [Fo.size]; omega)]; simp [Fo.flat, Fo.ends, allK]
  | tr op n s ks r ihk ihr =>
    intro base j hw
    simp only [Fo.wf, Bool.and_eq_true, decide_eq_true_eq] at hw
    obtain ⟨⟨⟨⟨⟨⟨h1, h2⟩, h3⟩, h4⟩, h5⟩, h6⟩, h7⟩ := hw
    have har : arB op (ks.ends base).length = true := by rw [Fo.ends_len]; exact h3
    have hk : kids (aim (leaf op n s) (ks.ends base)) = ks.ends base := kids_aim har (ends_ne ks _)
    have a := ihk base j h6
    have b := ihr (base + ks.size + 1) j h7
    have e : allK (Fo.flat base (Fo.tr op n s ks r)) = allK (ks.flat base) ++ (ks.ends base ++ allK (r.flat (base + ks.size + 1))) := by
      simp only [Fo.flat, allK, List.flatMap_append, List.flatMap_cons, hk]
    rw [e]
    have hsz : ((Fo.tr op n s ks r).size : Int) = ks.size + 1 + r.size := by simp only [Fo.size]; omega
    rw [hsz]
    simp only [List.count_append, Fo.ends, List.count_cons, beq_iff_eq]
    by_cases h9 : (base : Int) ≤ j ∧ j < base + ks.size
    · rw [if_pos h9] at a
      rw [if_neg (by omega)] at b
      rw [if_neg (by omega), if_pos (by omega)]; omega
    · rw [if_neg h9] at a
      by_cases h10 : ((base + ks.size : Nat) : Int) = j
      · rw [if_neg (by omega)] at b
        rw [if_pos h10, if_pos (by omega)]; omega
      · rw [if_neg h10]
        by_cases h11 : ((base + ks.size + 1 : Nat) : Int) ≤ j ∧ j < (base + ks.size + 1 : Nat) + r.size
        · rw [if_pos h11] at b
          rw [if_pos (by omega)]; omega
        · rw [if_neg h11] at b
          rw [if_neg (by omega)]; omega
theorem ends_one {F : Fo} (hc : F.count = 1) (base : Nat) : F.ends base = [((base + F.size - 1 : Nat) : Int)] := by
  cases F with
  | no => simp [Fo.count] at hc
  | tr op n s ks r =>
    simp only [Fo.count] at hc
    obtain rfl := Fo.count_zero (a := r) (by omega)
    simp only [Fo.ends, Fo.size]
    congr 1
theorem flat_last {F : Fo} (hc : F.count = 1) (base : Nat) : F.ops = [((F.flat base).getLastD dft).op] := by
  cases F with
  | no => simp [Fo.count] at hc
  | tr op n s ks r =>
    simp only [Fo.count] at hc
    obtain rfl := Fo.count_zero (a := r) (by omega)
    simp only [Fo.ops, Fo.flat, List.cons.injEq, and_true]
    rw [List.getLastD_eq_getLast?, List.getLast?_append]
    simp only [List.getLast?_singleton, Option.some_or, Option.getD_some]
    exact (aim_op (leaf op n s) (ks.ends base)).1.symm
theorem flat_NodeP {F : Fo} (hw : F.wf = true) : NodeP (F.flat 0) := fun i x hx => by
  have := flat_node F [] [] hw i x hx
  simpa using this
theorem T_flat0 {F : Fo} (hw : F.wf = true) (hc : F.count = 1) : T (F.flat 0) (F.size - 1) = F := by
  have := T_flat F [] [] hw hc
  simpa using this
theorem one_size {F : Fo} (hc : F.count = 1) : 1 ≤ F.size := by
  cases F with
  | no => simp [Fo.count] at hc
  | tr op n s ks r => simp [Fo.size]; omega
def okF (F : Fo) : Bool := decide (F.size ≤ 5000) && decide (F.depth ≤ 40) && decide (F.ops ≠ [28])
theorem may_flat {F : Fo} (hw : F.wf = true) (hc : F.count = 1) : mayB (F.flat 0) = okF F := by
  have hs := one_size hc
  have hN := flat_NodeP hw
  have hR : InR (F.flat 0) := fun i x hx => (hN i x hx).2.1
  have hd : depL (F.flat 0) = F.depth := by
    rw [depL_T hR (by rw [Fo.flat_len]; exact hs), Fo.flat_len, T_flat0 hw hc]
  have hl := flat_last hc 0
  rw [Bool.eq_iff_iff, mayB_iff]
  unfold okF
  simp only [Bool.and_eq_true, decide_eq_true_eq, hl]
  constructor
  · rintro ⟨h1, h2, h3, h4, h5, h6⟩
    exact ⟨⟨by rw [Fo.flat_len] at h2; exact h2, by rw [← hd]; exact h6⟩, by simpa using h3⟩
  · rintro ⟨⟨h1, h2⟩, h3⟩
    refine ⟨by rw [Fo.flat_len]; exact hs, by rw [Fo.flat_len]; exact h1, by simpa using h3, hN, fun i hi => ?_, by rw [hd]; exact h2⟩
    rw [Fo.flat_len] at hi
    have := flat_count F 0 (i : Int) hw
    rw [if_pos (by omega), ends_one hc, List.count_cons, List.count_nil, if_neg (by simp; omega)] at this
    omega
def norm (e : List Nd) : List Nd := (T e (e.length - 1)).flat 0
theorem MayP.tree {e : List Nd} (h : MayP e) : (T e (e.length - 1)).wf = true ∧ (T e (e.length - 1)).count = 1 ∧ okF (T e (e.length - 1)) = true := by
  have hn := h.ne
  have hi : e.length - 1 < e.length := by omega
  obtain ⟨x, hx⟩ : ∃ x, e[e.length - 1]? = some x := ⟨_, List.getElem?_eq_getElem hi⟩
  have h1 := T_ops h.inR hx
  refine ⟨T_wf h.node _ hi, h1.2, ?_⟩
  have h2 := h.last
  have h3 : e.getLastD dft = x := by rw [List.getLastD_eq_getLast?, List.getLast?_eq_getElem?, hx]; rfl
  rw [h3] at h2
  unfold okF
  simp only [Bool.and_eq_true, decide_eq_true_eq, h1.1]
  exact ⟨⟨by rw [h.size]; exact h.len, by rw [← depL_T h.inR hn]; exact h.deep⟩, by simpa using h2⟩
theorem norm_may {e : List Nd} (h : MayP e) : mayB (norm e) = true := by
  obtain ⟨a, b, c⟩ := h.tree
  unfold norm; rw [may_flat a b]; exact c
def mv (d : Nat) (x : Nd) : Nd := { x with a := if 0 ≤ x.a then x.a + d else x.a, b := if 0 ≤ x.b then x.b + d else x.b, c := if 0 ≤ x.c then x.c + d else x.c }
theorem mv_aim (d : Nat) (op n : Int) (s : ByteArray) (l : List Int) (hl : ∀ k ∈ l, 0 ≤ k) : mv d (aim (leaf op n s) l) = aim (leaf op n s) (l.map (· + (d : Int))) := by
  match l with
  | [] => simp [mv, aim, leaf]
  | [p] =>
    have := hl p (by simp)
    simp [mv, aim, leaf, this]
  | [p, q] =>
    have := hl p (by simp)
    have := hl q (by simp)
    by_cases h : op = 28 <;> simp [mv, aim, leaf, *]
  | p :: q :: r :: t =>
    have := hl p (by simp)
    have := hl q (by simp)
    have := hl r (by simp)
    simp [mv, aim, leaf, *]
theorem ends_mv (F : Fo) (d : Nat) : ∀ base, (F.ends base).map (· + (d : Int)) = F.ends (base + d) := by
  induction F with
  | no => intro _; rfl
  | tr op n s ks r _ ihr =>
    intro base
    simp only [Fo.ends, List.map_cons, ihr]
    rw [show base + d + ks.size + 1 = base + ks.size + 1 + d by omega]
    congr 1; omega
theorem flat_mv (F : Fo) (d : Nat) : ∀ base, (F.flat base).map (mv d) = F.flat (base + d) := by
  induction F with
  | no => intro _; rfl
  | tr op n s ks r ihk ihr =>
    intro base
    simp only [Fo.flat, List.map_append, List.map_cons, ihk, ihr]
    rw [mv_aim d op n s _ (fun k hk => by have := ks.ends_range _ k hk; omega), ends_mv, show base + d + ks.size + 1 = base + ks.size + 1 + d by omega]
def behind (out e : List Nd) : List Nd := out ++ e.map (mv out.length)
theorem behind_flat (A F : Fo) : behind (A.flat 0) (F.flat 0) = (A.app F).flat 0 := by
  unfold behind; rw [flat_mv, Fo.flat_app, Fo.flat_len]
def chain : Fo → List Fo → Fo
  | acc, [] => acc
  | acc, F :: r => chain (.tr 28 0 ByteArray.empty (acc.app F) .no) r
def joinF (op n : Int) (s : ByteArray) (l : List Fo) : Fo := .tr op n s (if op = 27 then chain .no l else cat l) .no
theorem chain_snoc (F : Fo) : ∀ (l : List Fo) (acc : Fo), chain acc (l ++ [F]) = .tr 28 0 ByteArray.empty ((chain acc l).app F) .no := by
  intro l
  induction l with
  | nil => intro _; rfl
  | cons a l ih => intro acc; exact ih _
theorem cat_snoc (F : Fo) (l : List Fo) : cat (l ++ [F]) = (cat l).app F := by rw [cat_append]; simp [cat, Fo.app_no]
theorem count_cat (l : List Fo) (h : ∀ F ∈ l, F.count = 1) : (cat l).count = l.length := by
  induction l with
  | nil => rfl
  | cons a l ih => simp [cat, Fo.count_app, ih (fun F hF => h F (by simp [hF])), h a (by simp)]; omega
theorem chain_count (l : List Fo) : (chain .no l).count = if l = [] then 0 else 1 := by
  induction l using snoc_ind with
  | h0 => rfl
  | h1 l F _ => rw [chain_snoc]; simp [Fo.count]
theorem kids_leaf (op n : Int) (s : ByteArray) : (kids (leaf op n s)).length = if op = 26 then 3 else if op = 28 then 1 else if op = 27 then 0 else if 6 ≤ op ∧ op ≤ 20 then 2 else if op = 4 ∨ op = 5 ∨ (21 ≤ op ∧ op ≤ 25) then 1 else 0 := by
  unfold kids leaf
  simp only []
  repeat' (split <;> try rfl)
  all_goals simp_all
def putF (f : ByteArray → Option Fo) : Fo → Fo
  | .no => .no
  | .tr op n s ks r => (match (if op = 3 then f s else none) with
      | some G => G
      | none => .tr op n s (putF f ks) .no).app (putF f r)
def putS (f : ByteArray → Option Fo) (st : List Nd × List Int) (x : Nd) : List Nd × List Int :=
  let out := match (if x.op = 3 then f x.s else none) with
    | some G => behind st.1 (G.flat 0)
    | none => st.1 ++ [aim x ((kids x).map fun k => st.2.getD k.toNat 0)]
  (out, st.2 ++ [(out.length : Int) - 1])
theorem count_put (f : ByteArray → Option Fo) (hf : ∀ s G, f s = some G → G.count = 1) (F : Fo) : (putF f F).count = F.count := by
  induction F with
  | no => rfl
  | tr op n s ks r ihk ihr =>
    simp only [putF, Fo.count_app, Fo.count, ihr]
    split
    · rename_i G h
      split at h
      · rw [hf s G h]; omega
      · cases h
    · simp [Fo.count]; omega
theorem put_flat (f : ByteArray → Option Fo) (hf : ∀ s G, f s = some G → G.count = 1) (F : Fo) : ∀ (H : Fo) (at_ : List Int), F.wf = true →
    (F.flat at_.length).foldl (putS f) (H.flat 0, at_) = ((H.app (putF f F)).flat 0, ((F.flat at_.length).foldl (putS f) (H.flat 0, at_)).2) ∧
    ((F.flat at_.length).foldl (putS f) (H.flat 0, at_)).2.length = at_.length + F.size ∧
    (∀ i, i < at_.length → ((F.flat at_.length).foldl (putS f) (H.flat 0, at_)).2.getD i 0 = at_.getD i 0) ∧
    (F.ends at_.length).map (fun k => ((F.flat at_.length).foldl (putS f) (H.flat 0, at_)).2.getD k.toNat 0) = (putF f F).ends H.size := by
  induction F with
  | no => intro H at_ _; simp [Fo.flat, Fo.ends, putF, Fo.app_no, Fo.size]
  | tr op n s ks r ihk ihr =>
    intro H at_ hw
    simp only [Fo.wf, Bool.and_eq_true, decide_eq_true_eq] at hw
    obtain ⟨⟨⟨⟨⟨⟨h1, h2⟩, h3⟩, h4⟩, h5⟩, h6⟩, h7⟩ := hw
    obtain ⟨k1, k2, k3, k4⟩ := ihk H at_ h6
    generalize hS : (ks.flat at_.length).foldl (putS f) (H.flat 0, at_) = S at k1 k2 k3 k4
    have har : arB op (ks.ends at_.length).length = true := by rw [Fo.ends_len]; exact h3
    have hk : kids (aim (leaf op n s) (ks.ends at_.length)) = ks.ends at_.length := kids_aim har (ends_ne ks _)
    have h8 := aim_op (leaf op n s) (ks.ends at_.length)
    -- the node itself
    obtain ⟨G, hG⟩ : ∃ G : Fo, G = (match (if op = 3 then f s else none) with | some G => G | none => .tr op n s (putF f ks) .no) := ⟨_, rfl⟩
    have hG1 : G.count = 1 := by
      rw [hG]; split
      · rename_i G' h
        split at h
        · exact hf s G' h
        · cases h
      · simp [Fo.count]
    have hks0 : op = 3 → ks = .no := fun h => by
      subst h
      apply Fo.count_zero
      simpa [arB] using h3
    have hnode : putS f S (aim (leaf op n s) (ks.ends at_.length)) = ((H.app G).flat 0, S.2 ++ [((H.app G).size : Int) - 1]) := by
      unfold putS
      rw [h8.1, h8.2.2, hk, k4]
      have e1 : (leaf op n s).op = op := rfl
      have e2 : (leaf op n s).s = s := rfl
      rw [e1, e2]
      cases hq : (if op = 3 then f s else none) with
      | some G' =>
        rw [hq] at hG
        have hop : op = 3 := by
          by_cases h : op = 3
          · exact h
          · rw [if_neg h] at hq; cases hq
        have hks := hks0 hop
        subst hks
        simp only [putF, Fo.app_no] at k1
        rw [k1]
        simp only [] at hG ⊢
        rw [behind_flat, hG, Fo.flat_len]
      | none =>
        rw [hq] at hG
        rw [k1]
        simp only [] at hG ⊢
        have e3 : aim (aim (leaf op n s) (ks.ends at_.length)) ((putF f ks).ends H.size) = aim (leaf op n s) ((putF f ks).ends H.size) := by
          have hb := bare_aim (n := n) (s := s) har (ends_ne ks at_.length)
          have := aim_bare hb ((putF f ks).ends H.size) (by rw [hk, Fo.ends_len, Fo.ends_len, count_put f hf])
          rw [this, h8.1, h8.2.1, h8.2.2]; rfl
        have e4 : (H.app (putF f ks)).flat 0 ++ [aim (leaf op n s) ((putF f ks).ends H.size)] = (H.app G).flat 0 := by
          rw [hG, Fo.flat_app, Fo.flat_app]; simp [Fo.flat]
        rw [e3, e4, Fo.flat_len]
    have hS2 : (S.2 ++ [((H.app G).size : Int) - 1]).length = at_.length + ks.size + 1 := by simp [k2]
    obtain ⟨r1, r2, r3, r4⟩ := ihr (H.app G) (S.2 ++ [((H.app G).size : Int) - 1]) h7
    rw [hS2] at r1 r2 r3 r4
    have hfold : ((Fo.tr op n s ks r).flat at_.length).foldl (putS f) (H.flat 0, at_) = (r.flat (at_.length + ks.size + 1)).foldl (putS f) ((H.app G).flat 0, S.2 ++ [((H.app G).size : Int) - 1]) := by
      rw [Fo.flat, List.foldl_append, List.foldl_cons, hS, hnode]
    rw [hfold]
    generalize (r.flat (at_.length + ks.size + 1)).foldl (putS f) ((H.app G).flat 0, S.2 ++ [((H.app G).size : Int) - 1]) = Z at r1 r2 r3 r4
    have hput : putF f (.tr op n s ks r) = G.app (putF f r) := by rw [putF, hG]
    refine ⟨?_, ?_, ?_, ?_⟩
    · rw [hput, ← Fo.app_assoc]; exact r1
    · rw [r2]; simp only [Fo.size]; omega
    · intro i hi
      rw [r3 i (by omega), List.getD_eq_getElem?_getD, List.getElem?_append_left (by omega), ← List.getD_eq_getElem?_getD]
      exact k3 i hi
    · rw [hput, Fo.ends_app, ends_one hG1]
      simp only [Fo.ends, List.map_cons, List.singleton_append, List.cons.injEq]
      refine ⟨?_, ?_⟩
      · rw [show ((at_.length + ks.size : Nat) : Int).toNat = at_.length + ks.size by omega, r3 _ (by omega), List.getD_eq_getElem?_getD, List.getElem?_append_right (by omega), k2]
        simp only [Nat.sub_self, List.getElem?_cons_zero, Option.getD_some]
        have := one_size hG1
        rw [Fo.size_app]; omega
      · rw [r4, Fo.size_app]
end Tx
end Go.Proofs.YtjnpkdpljmkpiaaGreatDoor
namespace Go.Proofs.YtjnpkdpljmkpiaaGreatDoor
open Go.RowKit Go.Shelf Tx
def ndL (x : Nd) : List Value := [.int .i64 x.op, .int .i64 x.a, .int .i64 x.b, .int .i64 x.c, .int .i64 x.n, .string x.s]
theorem ndL_len (x : Nd) : (ndL x).length = 6 := rfl
abbrev ndV (x : Nd) : Value := .agg #[.int .i64 x.op, .int .i64 x.a, .int .i64 x.b, .int .i64 x.c, .int .i64 x.n, .string x.s]
theorem rowNd : RowTy Tryz.prog 30 42 6 56 := RowTy.mk' (z := .agg #[.int .i64 0, .int .i64 0, .int .i64 0, .int .i64 0, .int .i64 0, .string ⟨#[]⟩]) Tryz.underlying30 (by kernel_rfl) rfl (by omega)
theorem rowI : RowTy Tryz.prog 102 3 1 8 := RowTy.mk' (z := .int .i64 0) Tryz.underlying102 (by kernel_rfl) rfl (by omega)
def IsE (w : World) (v : Value) (e : List Nd) : Prop := Sl ndL 6 w v e
def OwnE (base : Nat) (w : World) (v : Value) (e : List Nd) : Prop := w.ownsRow base 42 6 v e.length (e.flatMap ndL)
theorem OwnE.isE {base : Nat} {w : World} {v : Value} {e : List Nd} (h : OwnE base w v e) : IsE w v e := Sl.own ndL_len h rfl
theorem OwnE.nil_ (base : Nat) (w : World) : OwnE base w (.slice none 0 0) [] := World.ownsRow_nil _ _ _ _
theorem OwnE.below {base : Nat} {w w' : World} {v : Value} {e : List Nd} (h : OwnE base w v e) (hb : Below w.heap.size w w') : OwnE base w' v e := below_row hb h
theorem OwnE.mono {base b2 : Nat} {w : World} {v : Value} {e : List Nd} (h : OwnE base w v e) (hb : b2 ≤ base) : OwnE b2 w v e := World.ownsRow.mono h hb
theorem nd_cells {W : World} {b o : Nat} {x : Nd} (h : ∀ j u, (ndL x)[j]? = some u → W.cell? ⟨b, o + j, none⟩ = some u) :
    W.cell? ⟨b, o, none⟩ = some (.int .i64 x.op) ∧ W.cell? ⟨b, o + 1, none⟩ = some (.int .i64 x.a) ∧ W.cell? ⟨b, o + 2, none⟩ = some (.int .i64 x.b) ∧ W.cell? ⟨b, o + 3, none⟩ = some (.int .i64 x.c) ∧ W.cell? ⟨b, o + 4, none⟩ = some (.int .i64 x.n) ∧ W.cell? ⟨b, o + 5, none⟩ = some (.string x.s) :=
  ⟨h 0 _ rfl, h 1 _ rfl, h 2 _ rfl, h 3 _ rfl, h 4 _ rfl, h 5 _ rfl⟩
def RowI (base : Nat) (w : World) (v : Value) (l : List Int) : Prop :=
  (l = [] ∧ v = .slice none 0 0) ∨ ∃ g, v = .slice (some ⟨g, 0, none⟩) l.length l.length ∧ base ≤ g ∧ Blk w g (l.map (Value.int .i64)).toArray 3
theorem flat_ints (l : List Int) : l.flatMap intC = l.map (Value.int .i64) := by
  induction l with
  | nil => rfl
  | cons a l ih => rw [List.flatMap_cons, List.map_cons, ih]; rfl
theorem RowI.sl {base : Nat} {w : World} {v : Value} {l : List Int} (h : RowI base w v l) : Sl intC 1 w v l := by
  rcases h with ⟨rfl, rfl⟩ | ⟨g, rfl, _, hb⟩
  · exact Sl.nil_
  · refine Sl.lit intC_len (T := 3) (fr := (0, 0)) ?_ (Nat.le_refl _)
    rw [flat_ints]; exact hb
theorem RowI.below {base : Nat} {w w' : World} {v : Value} {l : List Int} (h : RowI base w v l) (hb : Below w.heap.size w w') : RowI base w' v l := by
  rcases h with h | ⟨g, h1, h2, h3⟩
  · exact Or.inl h
  · exact Or.inr ⟨g, h1, h2, h3.below hb⟩
theorem RowI.form {base : Nat} {w : World} {v : Value} {l : List Int} (h : RowI base w v l) : ∃ a c, v = .slice a l.length c ∧ l.length ≤ c := by
  rcases h with ⟨rfl, rfl⟩ | ⟨g, rfl, _⟩
  · exact ⟨none, 0, rfl, Nat.le_refl _⟩
  · exact ⟨_, _, rfl, Nat.le_refl _⟩
theorem RowI.at {base : Nat} {w : World} {a : Option Addr} {n c : Nat} {l : List Int} (h : RowI base w (.slice a n c) l) {t : Nat} {y : Int} (hy : l[t]? = some y) : ∃ g, a = some ⟨g, 0, none⟩ ∧ base ≤ g ∧ g < w.heap.size ∧ w.cell? ⟨g, t, none⟩ = some (.int .i64 y) ∧ w.frozen? ⟨g, t, none⟩ = false := by
  rcases h with ⟨rfl, _⟩ | ⟨g, h1, h2, h3⟩
  · simp at hy
  · cases h1
    refine ⟨g, rfl, h2, h3.lt, ?_, ?_⟩
    · unfold Blk at h3; simp [World.cell?, h3, hy]
    · unfold Blk at h3; simp [World.frozen?, h3]
theorem RowI.other {base : Nat} {w : World} {v : Value} {l : List Int} (h : RowI base w v l) {p : Nat} (hp : p < base) (i : Nat) (y : Value) : RowI base (w.setCell ⟨p, i, none⟩ y) v l := by
  rcases h with h | ⟨g, h1, h2, h3⟩
  · exact Or.inl h
  · exact Or.inr ⟨g, h1, h2, h3.other i (by omega) y⟩
theorem RowI.mono {base b2 : Nat} {w : World} {v : Value} {l : List Int} (h : RowI base w v l) (hb : b2 ≤ base) : RowI b2 w v l := by
  rcases h with h | ⟨g, h1, h2, h3⟩
  · exact Or.inl h
  · exact Or.inr ⟨g, h1, by omega, h3⟩
theorem RowI.drawn {base : Nat} {w : World} {v : Value} {l : List Int} (h : RowI base w v l) (k : Nat) : RowI base (w.drewN k) v l := h
def KidsPost (x : Nd) (w : World) (e : Ending) (w' : World) : Prop := ∃ v, e = .returned v ∧ RowI w.heap.size w' v (kids x) ∧ Below w.heap.size w w'
theorem kidsPost_nil {x : Nd} {w w' : World} (h : kids x = []) (hb : Below w.heap.size w w') : KidsPost x w (.returned (.slice none 0 0)) w' := ⟨_, rfl, Or.inl ⟨h, rfl⟩, hb⟩
theorem kidsPost_row {x : Nd} {w w' : World} {l : List Int} {g : Nat} {n : Nat} (h : kids x = l) (hn : l.length = n) (hg : w.heap.size ≤ g) (hk : Blk w' g (l.map (Value.int .i64)).toArray 3) (hb : Below w.heap.size w w') : KidsPost x w (.returned (.slice (some ⟨g, 0, none⟩) n n)) w' := by
  subst h hn; exact ⟨_, rfl, Or.inr ⟨g, rfl, hg, hk⟩, hb⟩
end Go.Proofs.YtjnpkdpljmkpiaaGreatDoor
namespace Go.Proofs.YtjnpkdpljmkpiaaGreatDoor
namespace Px
open Tx
def bs (l : List UInt8) : ByteArray := ⟨l.toArray⟩
def atP (L : List Tok) (i : Nat) : Int := match L[i]? with
  | some t => t.p
  | none => -1
def hereT (L : List Tok) (i : Nat) : Option ByteArray := match L[i]? with
  | some t => if t.k = 3 ∨ t.k = 4 then some t.t else none
  | none => none
def isT (L : List Tok) (i : Nat) (s : ByteArray) : Bool := decide (hereT L i = some s)
def opAt (n : Nat) (s : ByteArray) : Option (Int × Bool) :=
  match n with
  | 0 => if s = bs [45, 62] then some (19, false) else none
  | 1 => if s = bs [61, 62] then some (9, false) else none
  | 2 => if s = bs [115, 105, 110, 99, 101] then some (20, false) else none
  | 3 => if s = bs [111, 114] then some (7, false) else if s = bs [120, 111, 114] then some (8, false) else none
  | 4 => if s = bs [97, 110, 100] then some (6, false) else none
  | 5 => if s = bs [61] then some (10, false) else if s = bs [60, 62] then some (11, false) else if s = bs [60] then some (12, false) else if s = bs [60, 61] then some (13, false) else if s = bs [62] then some (12, true) else if s = bs [62, 61] then some (13, true) else none
  | 6 => if s = bs [43] then some (14, false) else if s = bs [45] then some (15, false) else none
  | 7 => if s = bs [42] then some (16, false) else if s = bs [100, 105, 118] then some (17, false) else if s = bs [109, 111, 100] then some (18, false) else none
  | _ => none
def preAt (s : ByteArray) : Option Int :=
  if s = bs [110, 111, 116] then some 4 else if s = bs [45] then some 5 else if s = bs [112, 114, 101] then some 21 else if s = bs [111, 110, 99, 101] then some 22
  else if s = bs [104, 105, 115, 116] then some 23 else if s = bs [112, 114, 101, 118] then some 24 else if s = bs [119, 105, 116, 104, 105, 110] then some 25 else none
inductive Tag where
  | bin (n : Nat)
  | loop (n : Nat) (a : Fo)
  | args (l : List Fo)
abbrev Res := Except (Int × Int) (List Fo × Nat)
abbrev Orc := Tag → Nat → Nat → Option Res
def thenE (r : Option Res) (f : Fo → Nat → Option Res) : Option Res := match r with
  | none => none
  | some (.error e) => some (.error e)
  | some (.ok ([a], i)) => f a i
  | some (.ok (_, _)) => none
def errAt (L : List Tok) (c : Int) (i : Nat) : Option Res := some (.error (c, atP L i))
def needT (L : List Tok) (s : ByteArray) (i : Nat) (f : Nat → Option Res) : Option Res := if isT L i s then f (i + 1) else errAt L 5 i
def tLpar := bs [40]
def tRpar := bs [41]
def tComma := bs [44]
def tIf := bs [105, 102]
def tThen := bs [116, 104, 101, 110]
def tElse := bs [101, 108, 115, 101]
def tTrue := bs [116, 114, 117, 101]
def tFalse := bs [102, 97, 108, 115, 101]
def node (op n : Int) (s : ByteArray) (ks : Fo) : Fo := .tr op n s ks .no
def noS : ByteArray := ByteArray.empty
def one (F : Fo) (i : Nat) : Option Res := some (.ok ([F], i))
def signS (p : Orc) (L : List Tok) (s : ByteArray) (I o : Nat) : Option Res :=
  match preAt s with
  | some op =>
    if op = 25 then
      match L[I + 1]? with
      | some u => if u.k = 2 ∧ Lx.val u.t.data.toList ≤ 1000 then thenE (p (.bin 8) (I + 2) (o + 1)) fun a i => one (node 25 (Lx.val u.t.data.toList) noS a) i else errAt L 5 (I + 1)
      | none => errAt L 5 (I + 1)
    else thenE (p (.bin 8) (I + 1) (o + 1)) fun a i => one (node op 0 noS a) i
  | none =>
    if s = tTrue then one (node 2 1 noS .no) (I + 1)
    else if s = tFalse then one (node 2 0 noS .no) (I + 1)
    else if s = tLpar then thenE (p (.bin 0) (I + 1) (o + 1)) fun a i => needT L tRpar i fun i => one a i
    else if s = tIf then
      thenE (p (.bin 0) (I + 1) (o + 1)) fun a i => needT L tThen i fun i => thenE (p (.bin 0) i (o + 1)) fun b i => needT L tElse i fun i => thenE (p (.bin 0) i (o + 1)) fun c i => one (node 26 0 noS (a.app (b.app c))) i
    else errAt L 5 I
def callS (name : ByteArray) (r : Option Res) : Option Res := match r with
  | none => none
  | some (.error e) => some (.error e)
  | some (.ok (l, i)) => one (joinF 27 0 name l) i
def operandS (p : Orc) (L : List Tok) (I o : Nat) : Option Res :=
  if 200 ≤ o then errAt L 6 I
  else match L[I]? with
    | none => errAt L 5 I
    | some t =>
      if t.k = 2 then one (node 1 (Lx.val t.t.data.toList) noS .no) (I + 1)
      else if t.k = 1 then
        if isT L (I + 1) tLpar then
          if isT L (I + 2) tRpar then one (joinF 27 0 t.t []) (I + 3)
          else callS t.t (p (.args []) (I + 2) (o + 1))
        else one (node 3 0 t.t .no) (I + 1)
      else if t.k = 3 ∨ t.k = 4 then signS p L t.t I o
      else errAt L 5 I
def stepP (L : List Tok) (p : Orc) : Orc
  | .bin n, I, o => if n < 8 then thenE (p (.bin (n + 1)) I o) fun a i => p (.loop n a) i o else operandS p L I o
  | .loop n a, I, o => match (hereT L I).bind (opAt n) with
    | none => one a I
    | some (op, sw) => thenE (p (.bin (if n ≤ 1 then n else n + 1)) (I + 1) o) fun b i =>
        if n ≤ 1 ∨ n = 5 then one (node op 0 noS (if sw then b.app a else a.app b)) i else p (.loop n (node op 0 noS (if sw then b.app a else a.app b))) i o
  | .args l, I, o => thenE (p (.bin 0) I o) fun a i => if isT L i tRpar then some (.ok (l ++ [a], i + 1)) else if isT L i tComma then p (.args (l ++ [a])) (i + 1) o else errAt L 5 i
def P (L : List Tok) : Nat → Orc
  | 0 => fun _ _ _ => none
  | f + 1 => stepP L (P L f)
def parse (L : List Tok) (f from_ : Nat) : Option (Except (Int × Int) (Fo × Nat)) := match P L f (.bin 0) from_ 0 with
  | some (.error e) => some (.error e)
  | some (.ok ([F], i)) => some (if 5000 < F.size then .error (7, atP L from_) else if 40 < F.depth then .error (6, atP L from_) else .ok (F, i))
  | _ => none
structure TokOk (t : Tok) : Prop where
  num : t.k = 2 → t.t.data.toList.all Lx.isDig = true ∧ Lx.val t.t.data.toList ≤ 2147483647 ∧ t.t.size ≤ 10 ∧ t.t.data.toList ≠ []
  name : t.k = 1 → t.t ≠ ByteArray.empty
structure Good (F : Fo) : Prop where
  wf : F.wf = true
  one : F.count = 1
  ops : F.ops.all (fun p => p != 28) = true
theorem hereT_lt {L : List Tok} {i : Nat} {s : ByteArray} (h : hereT L i = some s) : i < L.length := by
  unfold hereT at h
  split at h
  · rename_i t ht; exact (List.getElem?_eq_some_iff.1 ht).1
  · cases h
theorem isT_lt {L : List Tok} {i : Nat} {s : ByteArray} (h : isT L i s = true) : i < L.length := hereT_lt (by simpa [isT] using h)
def ResOk (L : List Tok) (I : Nat) (have_ : List Fo) (r : Res) : Prop := match r with
  | .error _ => True
  | .ok (l, i) => (∀ F ∈ l, Good F) ∧ I ≤ i ∧ i ≤ L.length ∧ (cat l).size + l.length ≤ (cat have_).size + have_.length + 3 * (i - I)
theorem opAt_is {n : Nat} {s : ByteArray} {op : Int} {sw : Bool} (h : opAt n s = some (op, sw)) : 6 ≤ op ∧ op ≤ 20 := by
  unfold opAt at h
  repeat' (split at h)
  all_goals first | (cases h; done) | (simp only [Option.some.injEq, Prod.mk.injEq] at h; omega)
theorem preAt_is {s : ByteArray} {op : Int} (h : preAt s = some op) : op = 4 ∨ op = 5 ∨ (21 ≤ op ∧ op ≤ 25) := by
  unfold preAt at h
  repeat' (split at h)
  all_goals first | (cases h; done) | (simp only [Option.some.injEq] at h; omega)
theorem good_two {op : Int} {a b : Fo} (ho : 6 ≤ op ∧ op ≤ 20) (ha : Good a) (hb : Good b) : Good (node op 0 noS (a.app b)) := by
  refine ⟨?_, rfl, ?_⟩
  · simp only [node, Fo.wf, Bool.and_eq_true, decide_eq_true_eq, Fo.count_app, ha.one, hb.one, Fo.wf_app, ha.wf, hb.wf, Fo.ops_app]
    refine ⟨⟨⟨⟨⟨⟨by omega, by omega⟩, ?_⟩, ?_⟩, ?_⟩, trivial, trivial⟩, trivial⟩
    · unfold arB; rw [if_neg (by omega), if_neg (by omega), if_neg (by omega), if_pos ho]; rfl
    · have h1 : (op == 3) = false := by rw [beq_eq_false_iff_ne]; omega
      have h2 : (op == 27) = false := by rw [beq_eq_false_iff_ne]; omega
      have h3 : ¬ op = 1 := by omega
      have h4 : ¬ op = 2 := by omega
      have h5 : ¬ op = 25 := by omega
      unfold plainB noS; rw [h1, h2, if_neg h3, if_neg h4, if_neg h5]; rfl
    · unfold argsB; rw [if_neg (by omega), if_neg (by omega), List.all_append, ha.ops, hb.ops]; rfl
  · simp [node, Fo.ops]; omega
theorem good_one {op n : Int} {a : Fo} (ho : op = 4 ∨ op = 5 ∨ (21 ≤ op ∧ op ≤ 25)) (hn : 0 ≤ n ∧ n ≤ if op = 25 then 1000 else 0) (ha : Good a) : Good (node op n noS a) := by
  refine ⟨?_, rfl, ?_⟩
  · simp only [node, Fo.wf, Bool.and_eq_true, decide_eq_true_eq, ha.one, ha.wf]
    refine ⟨⟨⟨⟨⟨⟨by omega, by omega⟩, ?_⟩, ?_⟩, ?_⟩, trivial⟩, trivial⟩
    · unfold arB; rw [if_neg (by omega), if_neg (by omega), if_neg (by omega), if_neg (by omega), if_pos ho]; rfl
    · have h1 : (op == 3) = false := by rw [beq_eq_false_iff_ne]; omega
      have h2 : (op == 27) = false := by rw [beq_eq_false_iff_ne]; omega
      have h3 : ¬ op = 1 := by omega
      have h4 : ¬ op = 2 := by omega
      unfold plainB noS; rw [h1, h2, if_neg h3, if_neg h4, decide_eq_true hn.1, decide_eq_true hn.2]; rfl
    · unfold argsB; rw [if_neg (by omega), if_neg (by omega)]; exact ha.ops
  · simp [node, Fo.ops]; omega
theorem good_three {a b c : Fo} (ha : Good a) (hb : Good b) (hc : Good c) : Good (node 26 0 noS (a.app (b.app c))) := by
  refine ⟨?_, rfl, rfl⟩
  simp only [node, Fo.wf, Bool.and_eq_true, decide_eq_true_eq, Fo.count_app, ha.one, hb.one, hc.one, Fo.wf_app, ha.wf, hb.wf, hc.wf, Fo.ops_app]
  refine ⟨⟨⟨⟨⟨⟨by omega, by omega⟩, rfl⟩, rfl⟩, ?_⟩, trivial, trivial, trivial⟩, trivial⟩
  unfold argsB; rw [if_neg (by omega), if_neg (by omega), List.all_append, List.all_append, ha.ops, hb.ops, hc.ops]; rfl
theorem chain_wf : ∀ (l : List Fo), (∀ F ∈ l, Good F) → (chain .no l).wf = true ∧ (chain .no l).ops.all (fun p => p == 28) = true := by
  intro l
  induction l using snoc_ind with
  | h0 => intro _; exact ⟨rfl, rfl⟩
  | h1 l F ih =>
    intro h
    obtain ⟨i1, i2⟩ := ih (fun G hG => h G (by simp [hG]))
    have hF := h F (by simp)
    have hc := chain_count l
    rw [chain_snoc]
    refine ⟨?_, rfl⟩
    simp only [Fo.wf, Bool.and_eq_true, decide_eq_true_eq, Fo.count_app, hF.one, Fo.wf_app, hF.wf, i1, Fo.ops_app, hc]
    have hops : ∃ p, F.ops = [p] ∧ p ≠ 28 := by
      have h1 := hF.ops
      have h2 := Fo.ops_len F
      rw [hF.one] at h2
      match hq : F.ops, h2 with
      | [p], _ => rw [hq] at h1; exact ⟨p, rfl, by simpa using h1⟩
    obtain ⟨p, hp, hp2⟩ := hops
    refine ⟨⟨⟨⟨⟨⟨by omega, by omega⟩, ?_⟩, rfl⟩, ?_⟩, trivial, trivial⟩, trivial⟩
    · split <;> rfl
    · rw [hp]
      by_cases hl : l = []
      · subst hl; simp [chain, Fo.ops, argsB, hp2]
      · rw [if_neg hl] at hc
        have h3 := Fo.ops_len (chain .no l)
        rw [hc] at h3
        match hq : (chain .no l).ops, h3 with
        | [q], _ =>
          rw [hq] at i2
          simp at i2; subst i2
          simp [argsB, hp2]
theorem chain_size (l : List Fo) : (chain .no l).size = (cat l).size + l.length := by
  induction l using snoc_ind with
  | h0 => rfl
  | h1 l F ih => rw [chain_snoc, cat_snoc]; simp [Fo.size, Fo.size_app, ih]; omega
theorem good_call {s : ByteArray} {l : List Fo} (hs : s ≠ ByteArray.empty) (h : ∀ F ∈ l, Good F) : Good (joinF 27 0 s l) := by
  obtain ⟨h1, h2⟩ := chain_wf l h
  refine ⟨?_, rfl, rfl⟩
  simp only [joinF, if_true, Fo.wf, Bool.and_eq_true, decide_eq_true_eq, h1, chain_count]
  refine ⟨⟨⟨⟨⟨⟨by omega, by omega⟩, ?_⟩, ?_⟩, ?_⟩, trivial⟩, trivial⟩
  · split <;> rfl
  · unfold plainB; simp [hs]
  · unfold argsB; rw [if_pos rfl]; exact h2
theorem good_leaf {op n : Int} {s : ByteArray} (h : (op = 1 ∧ 0 ≤ n ∧ n ≤ 2147483647 ∧ s = noS) ∨ (op = 2 ∧ 0 ≤ n ∧ n ≤ 1 ∧ s = noS) ∨ (op = 3 ∧ n = 0 ∧ s ≠ ByteArray.empty)) : Good (node op n s .no) := by
  rcases h with ⟨rfl, h1, h2, rfl⟩ | ⟨rfl, h1, h2, rfl⟩ | ⟨rfl, rfl, h1⟩
  · refine ⟨?_, rfl, rfl⟩
    simp [node, Fo.wf, arB, Fo.count, plainB, argsB, Fo.ops, noS, h1, h2]
  · refine ⟨?_, rfl, rfl⟩
    simp [node, Fo.wf, arB, Fo.count, plainB, argsB, Fo.ops, noS, h1, h2]
  · refine ⟨?_, rfl, rfl⟩
    simp [node, Fo.wf, arB, Fo.count, plainB, argsB, Fo.ops, h1]
def Tag.have_ : Tag → List Fo
  | .bin _ => []
  | .loop _ a => [a]
  | .args l => l
theorem thenE_some {r : Option Res} {f : Fo → Nat → Option Res} {q : Res} (h : thenE r f = some q) : (∃ e, r = some (.error e) ∧ q = .error e) ∨ ∃ a i, r = some (.ok ([a], i)) ∧ f a i = some q := by
  unfold thenE at h
  split at h
  · cases h
  · rename_i e
    exact Or.inl ⟨e, rfl, (Option.some.inj h).symm⟩
  · rename_i a i
    exact Or.inr ⟨a, i, rfl, h⟩
  · cases h
theorem needT_some {L : List Tok} {s : ByteArray} {i : Nat} {f : Nat → Option Res} {q : Res} (h : needT L s i f = some q) : q = .error (5, atP L i) ∨ (isT L i s = true ∧ f (i + 1) = some q) := by
  unfold needT errAt at h
  split at h
  · rename_i h1; exact Or.inr ⟨h1, h⟩
  · exact Or.inl (Option.some.inj h).symm
theorem ok_one {L : List Tok} {I i : Nat} {F : Fo} {H : List Fo} (hF : Good F) (h1 : I ≤ i) (h2 : i ≤ L.length) (h3 : F.size + 1 ≤ (cat H).size + H.length + 3 * (i - I)) : ResOk L I H (.ok ([F], i)) :=
  ⟨fun G hG => by rw [List.mem_singleton.1 hG]; exact hF, h1, h2, by simp [cat, Fo.app_no]; omega⟩
theorem one_some {F : Fo} {i : Nat} {q : Res} (h : one F i = some q) : q = .ok ([F], i) := (Option.some.inj h).symm
def OrcOk (L : List Tok) (p : Orc) : Prop := ∀ (g : Tag) (I o : Nat) (r : Res), I ≤ L.length → (∀ F ∈ g.have_, Good F) → p g I o = some r → ResOk L I g.have_ r
theorem OrcOk.bin {L : List Tok} {p : Orc} (h : OrcOk L p) {n I o i : Nat} {a : Fo} (hI : I ≤ L.length) (hp : p (.bin n) I o = some (.ok ([a], i))) : Good a ∧ I ≤ i ∧ i ≤ L.length ∧ a.size + 1 ≤ 3 * (i - I) := by
  obtain ⟨h1, h2, h3, h4⟩ := h (.bin n) I o _ hI (fun F hF => by simp [Tag.have_] at hF) hp
  refine ⟨h1 a (by simp), h2, h3, ?_⟩
  simpa [cat, Fo.app_no, Tag.have_, Fo.size] using h4
theorem sign_ok {L : List Tok} {p : Orc} (h : OrcOk L p) {s : ByteArray} {I o : Nat} {q : Res} (hI : I < L.length) (hq : signS p L s I o = some q) : ResOk L I [] q := by
  unfold signS at hq
  split at hq
  · rename_i op hop
    split at hq
    · split at hq
      · rename_i u hu
        have hu2 := (List.getElem?_eq_some_iff.1 hu).1
        split at hq
        · rename_i h25 hk
          rcases thenE_some hq with ⟨e, _, rfl⟩ | ⟨a, i, h1, h2⟩
          · trivial
          · obtain ⟨g1, g2, g3, g4⟩ := h.bin (by omega) h1
            rw [one_some h2]
            exact ok_one (good_one (Or.inr (Or.inr ⟨by omega, by omega⟩)) ⟨by omega, by simp; omega⟩ g1) (by omega) g3 (by simp [node, cat, Fo.size]; omega)
        · cases hq; trivial
      · cases hq; trivial
    · rename_i h25
      rcases thenE_some hq with ⟨e, _, rfl⟩ | ⟨a, i, h1, h2⟩
      · trivial
      · obtain ⟨g1, g2, g3, g4⟩ := h.bin (by omega) h1
        rw [one_some h2]
        exact ok_one (good_one (preAt_is hop) ⟨by omega, by rw [if_neg h25]; omega⟩ g1) (by omega) g3 (by simp [node, cat, Fo.size]; omega)
  · split at hq
    · rw [one_some hq]; exact ok_one (good_leaf (Or.inr (Or.inl ⟨rfl, by omega, by omega, rfl⟩))) (by omega) (by omega) (by simp [node, cat, Fo.size])
    split at hq
    · rw [one_some hq]; exact ok_one (good_leaf (Or.inr (Or.inl ⟨rfl, by omega, by omega, rfl⟩))) (by omega) (by omega) (by simp [node, cat, Fo.size])
    split at hq
    · rcases thenE_some hq with ⟨e, _, rfl⟩ | ⟨a, i, h1, h2⟩
      · trivial
      · obtain ⟨g1, g2, g3, g4⟩ := h.bin (by omega) h1
        rcases needT_some h2 with rfl | ⟨h3, h4⟩
        · trivial
        · have := isT_lt h3
          rw [one_some h4]; exact ok_one g1 (by omega) (by omega) (by simp [cat, Fo.size]; omega)
    split at hq
    · rcases thenE_some hq with ⟨e, _, rfl⟩ | ⟨a, i, h1, h2⟩
      · trivial
      obtain ⟨g1, g2, g3, g4⟩ := h.bin (by omega) h1
      rcases needT_some h2 with rfl | ⟨h3, h4⟩
      · trivial
      have hi := isT_lt h3
      rcases thenE_some h4 with ⟨e, _, rfl⟩ | ⟨b, j, k1, k2⟩
      · trivial
      obtain ⟨e1, e2, e3, e4⟩ := h.bin (by omega) k1
      rcases needT_some k2 with rfl | ⟨k3, k4⟩
      · trivial
      have hj := isT_lt k3
      rcases thenE_some k4 with ⟨e, _, rfl⟩ | ⟨c, m, l1, l2⟩
      · trivial
      obtain ⟨f1, f2, f3, f4⟩ := h.bin (by omega) l1
      rw [one_some l2]
      exact ok_one (good_three g1 e1 f1) (by omega) f3 (by simp [node, cat, Fo.size, Fo.size_app]; omega)
    · cases hq; trivial
theorem call_ok {L : List Tok} {s : ByteArray} {I : Nat} {r : Option Res} {q : Res} (hs : s ≠ ByteArray.empty) (hr : ∀ x, r = some x → ResOk L (I + 2) [] x) (hq : callS s r = some q) : ResOk L I [] q := by
  unfold callS at hq
  split at hq
  · cases hq
  · cases hq; trivial
  · rename_i l i
    obtain ⟨h1, h2, h3, h4⟩ := hr _ rfl
    rw [one_some hq]
    refine ok_one (good_call hs h1) (by omega) h3 ?_
    simp only [joinF, if_true, Fo.size, chain_size, cat, List.length_nil] at h4 ⊢
    omega
theorem operand_ok {L : List Tok} (hL : ∀ t ∈ L, TokOk t) {p : Orc} (h : OrcOk L p) {I o : Nat} {q : Res} (hq : operandS p L I o = some q) : ResOk L I [] q := by
  unfold operandS at hq
  split at hq
  · cases hq; trivial
  split at hq
  · cases hq; trivial
  rename_i t ht
  have hI := (List.getElem?_eq_some_iff.1 ht).1
  have hT := hL t (List.mem_of_getElem? ht)
  split at hq
  · rename_i hk
    rw [one_some hq]
    exact ok_one (good_leaf (Or.inl ⟨rfl, by omega, by have := (hT.num hk).2.1; omega, rfl⟩)) (by omega) (by omega) (by simp [node, cat, Fo.size])
  split at hq
  · rename_i hk
    have hn := hT.name hk
    split at hq
    · rename_i h1
      have h1 := isT_lt h1
      split at hq
      · rename_i h2
        have h2 := isT_lt h2
        rw [one_some hq]
        exact ok_one (good_call hn (fun F hF => by simp at hF)) (by omega) (by omega) (by simp [joinF, chain, cat, Fo.size])
      · exact call_ok hn (fun x hx => h (.args []) (I + 2) (o + 1) x (by omega) (fun F hF => by simp [Tag.have_] at hF) hx) hq
    · rw [one_some hq]
      exact ok_one (good_leaf (Or.inr (Or.inr ⟨rfl, rfl, hn⟩))) (by omega) (by omega) (by simp [node, cat, Fo.size])
  split at hq
  · exact sign_ok h hI hq
  · cases hq; trivial
theorem step_ok {L : List Tok} (hL : ∀ t ∈ L, TokOk t) {p : Orc} (h : OrcOk L p) : OrcOk L (stepP L p) := by
  intro g I o r hI hg hr
  cases g with
  | bin n =>
    simp only [stepP] at hr
    split at hr
    · rcases thenE_some hr with ⟨e, _, rfl⟩ | ⟨a, i, h1, h2⟩
      · trivial
      obtain ⟨g1, g2, g3, g4⟩ := h.bin hI h1
      have h5 := h (.loop n a) i o r g3 (fun F hF => by simp [Tag.have_] at hF; rw [hF]; exact g1) h2
      cases r with
      | error e => trivial
      | ok x =>
        obtain ⟨l, j⟩ := x
        obtain ⟨k1, k2, k3, k4⟩ := h5
        refine ⟨k1, by omega, k3, ?_⟩
        simp only [Tag.have_, cat, Fo.app_no, List.length_singleton, List.length_nil, Fo.size] at k4 ⊢
        omega
    · exact operand_ok hL h hr
  | loop n a =>
    have ha := hg a (by simp [Tag.have_])
    simp only [stepP] at hr
    split at hr
    · rw [one_some hr]; exact ok_one ha (Nat.le_refl _) hI (by simp [Tag.have_, cat, Fo.app_no])
    · rename_i op sw hop
      obtain ⟨s, hs, hop⟩ := Option.bind_eq_some_iff.1 hop
      have hlt := hereT_lt hs
      have ho := opAt_is hop
      rcases thenE_some hr with ⟨e, _, rfl⟩ | ⟨b, i, h1, h2⟩
      · trivial
      obtain ⟨g1, g2, g3, g4⟩ := h.bin (by omega) h1
      have hgood : Good (node op 0 noS (if sw then b.app a else a.app b)) := by
        cases sw
        · exact good_two ho ha g1
        · exact good_two ho g1 ha
      have hsz : (node op 0 noS (if sw then b.app a else a.app b)).size = a.size + b.size + 1 := by
        cases sw <;> simp [node, Fo.size, Fo.size_app] <;> omega
      split at h2
      · rw [one_some h2]; exact ok_one hgood (by omega) g3 (by rw [hsz]; simp [Tag.have_, cat, Fo.app_no]; omega)
      · have h5 := h _ i o r g3 (fun F hF => by simp only [Tag.have_, List.mem_singleton] at hF; rw [hF]; exact hgood) h2
        cases r with
        | error e => trivial
        | ok x =>
          obtain ⟨l, j⟩ := x
          obtain ⟨k1, k2, k3, k4⟩ := h5
          refine ⟨k1, by omega, k3, ?_⟩
          simp only [Tag.have_, cat, Fo.app_no, List.length_singleton, hsz] at k4 ⊢
          omega
  | args l =>
    simp only [Tag.have_] at hg
    simp only [stepP] at hr
    rcases thenE_some hr with ⟨e, _, rfl⟩ | ⟨a, i, h1, h2⟩
    · trivial
    obtain ⟨g1, g2, g3, g4⟩ := h.bin hI h1
    have hall : ∀ F ∈ l ++ [a], Good F := fun F hF => by
      rcases List.mem_append.1 hF with hF | hF
      · exact hg F hF
      · rw [List.mem_singleton.1 hF]; exact g1
    split at h2
    · rename_i h3
      have h3 := isT_lt h3
      cases h2
      refine ⟨hall, by omega, by omega, ?_⟩
      simp only [Tag.have_, cat_snoc, Fo.size_app, List.length_append, List.length_singleton]; omega
    split at h2
    · rename_i h3
      have h3 := isT_lt h3
      have h5 := h (.args (l ++ [a])) (i + 1) o r (by omega) hall h2
      cases r with
      | error e => trivial
      | ok x =>
        obtain ⟨m, j⟩ := x
        obtain ⟨k1, k2, k3, k4⟩ := h5
        refine ⟨k1, by omega, k3, ?_⟩
        simp only [Tag.have_, cat_snoc, Fo.size_app, List.length_append, List.length_singleton] at k4 ⊢
        omega
    · cases h2; trivial
theorem P_ok {L : List Tok} (hL : ∀ t ∈ L, TokOk t) : ∀ f, OrcOk L (P L f)
  | 0 => fun _ _ _ _ _ _ h => by cases h
  | f + 1 => step_ok hL (P_ok hL f)
def Le (p q : Orc) : Prop := ∀ g I o r, p g I o = some r → q g I o = some r
end Px
end Go.Proofs.YtjnpkdpljmkpiaaGreatDoor
namespace Go.Proofs.YtjnpkdpljmkpiaaGreatDoor
namespace Px
open Tx
theorem thenE_le {r r' : Option Res} {f f' : Fo → Nat → Option Res} (hr : ∀ x, r = some x → r' = some x) (hf : ∀ a i x, f a i = some x → f' a i = some x) : ∀ x, thenE r f = some x → thenE r' f' = some x := by
  intro x h
  rcases thenE_some h with ⟨e, h1, rfl⟩ | ⟨a, i, h1, h2⟩
  · rw [hr _ h1]; rfl
  · rw [hr _ h1]; exact hf _ _ _ h2
theorem needT_le {L : List Tok} {s : ByteArray} {i : Nat} {f f' : Nat → Option Res} (hf : ∀ i x, f i = some x → f' i = some x) : ∀ x, needT L s i f = some x → needT L s i f' = some x := by
  intro x h
  unfold needT at h ⊢
  split at h
  · rename_i h1; rw [if_pos h1]; exact hf _ _ h
  · rename_i h1; rw [if_neg h1]; exact h
theorem callS_le {s : ByteArray} {r r' : Option Res} (hr : ∀ x, r = some x → r' = some x) : ∀ x, callS s r = some x → callS s r' = some x := by
  intro x h
  cases hq : r with
  | none => rw [hq] at h; cases h
  | some y => rw [hr y hq]; rw [hq] at h; exact h
theorem sign_le {L : List Tok} {p q : Orc} (h : Le p q) (s : ByteArray) (I o : Nat) : ∀ x, signS p L s I o = some x → signS q L s I o = some x := by
  intro x hx
  unfold signS at hx ⊢
  split at hx
  · rename_i op hop
    split at hx
    · rename_i h25
      rw [if_pos h25]
      split at hx
      · rename_i u hu
        split at hx
        · rename_i h3; rw [if_pos h3]; exact thenE_le (h _ _ _) (fun _ _ _ h => h) _ hx
        · rename_i h3; rw [if_neg h3]; exact hx
      · exact hx
    · rename_i h25
      rw [if_neg h25]; exact thenE_le (h _ _ _) (fun _ _ _ h => h) _ hx
  · split at hx
    · rename_i h1; rw [if_pos h1]; exact hx
    rename_i h1; rw [if_neg h1]
    split at hx
    · rename_i h1; rw [if_pos h1]; exact hx
    rename_i h1; rw [if_neg h1]
    split at hx
    · rename_i h1; rw [if_pos h1]; exact thenE_le (h _ _ _) (fun _ _ _ h => h) _ hx
    rename_i h1; rw [if_neg h1]
    split at hx
    · rename_i h1; rw [if_pos h1]
      exact thenE_le (h _ _ _) (fun a i x => needT_le (fun i x => thenE_le (h _ _ _) (fun b i x => needT_le (fun i x => thenE_le (h _ _ _) (fun _ _ _ h => h) x) x) x) x) _ hx
    · rename_i h1; rw [if_neg h1]; exact hx
theorem step_le {L : List Tok} {p q : Orc} (h : Le p q) : Le (stepP L p) (stepP L q) := by
  intro g I o x hx
  cases g with
  | bin n =>
    simp only [stepP] at hx ⊢
    split at hx
    · rename_i h1; rw [if_pos h1]; exact thenE_le (h _ _ _) (fun a i x => h _ _ _ x) _ hx
    · rename_i h1; rw [if_neg h1]
      unfold operandS at hx ⊢
      split at hx
      · rename_i h2; rw [if_pos h2]; exact hx
      rename_i h2; rw [if_neg h2]
      split at hx
      · exact hx
      split at hx
      · rename_i h3; rw [if_pos h3]; exact hx
      rename_i h3; rw [if_neg h3]
      split at hx
      · rename_i h4; rw [if_pos h4]
        split at hx
        · rename_i h5; rw [if_pos h5]
          split at hx
          · rename_i h6; rw [if_pos h6]; exact hx
          · rename_i h6; rw [if_neg h6]; exact callS_le (h _ _ _) _ hx
        · rename_i h5; rw [if_neg h5]; exact hx
      rename_i h4; rw [if_neg h4]
      split at hx
      · rename_i h5; rw [if_pos h5]; exact sign_le h _ _ _ _ hx
      · rename_i h5; rw [if_neg h5]; exact hx
  | loop n a =>
    simp only [stepP] at hx ⊢
    split at hx
    · exact hx
    · refine thenE_le (h _ _ _) (fun b i x hx => ?_) _ hx
      split at hx
      · rename_i h1; rw [if_pos h1]; exact hx
      · rename_i h1; rw [if_neg h1]; exact h _ _ _ _ hx
  | args l =>
    simp only [stepP] at hx ⊢
    refine thenE_le (h _ _ _) (fun b i x hx => ?_) _ hx
    split at hx
    · rename_i h1; rw [if_pos h1]; exact hx
    rename_i h1; rw [if_neg h1]
    split at hx
    · rename_i h2; rw [if_pos h2]; exact h _ _ _ _ hx
    · rename_i h2; rw [if_neg h2]; exact hx
theorem P_succ (L : List Tok) : ∀ f, Le (P L f) (P L (f + 1))
  | 0 => fun _ _ _ _ h => by cases h
  | f + 1 => step_le (P_succ L f)
theorem P_more (L : List Tok) {f g : Nat} (h : f ≤ g) : Le (P L f) (P L g) := by
  induction g with
  | zero => obtain rfl : f = 0 := by omega
            exact fun _ _ _ _ h => h
  | succ g ih =>
    by_cases e : f = g + 1
    · subst e; exact fun _ _ _ _ h => h
    · exact fun t I o r hr => P_succ L g t I o r (ih (by omega) t I o r hr)
theorem P_one (L : List Tok) : ∀ (f : Nat) (g : Tag) (I o : Nat) (l : List Fo) (i : Nat), (∀ l', g ≠ .args l') → P L f g I o = some (.ok (l, i)) → ∃ a, l = [a] := by
  intro f
  induction f with
  | zero => intro g I o l i _ h; cases h
  | succ f ihf =>
    intro g I o l i hga h
    cases g with
    | args l' => exact absurd rfl (hga l')
    | loop n a =>
      simp only [P, stepP] at h
      split at h
      · cases h; exact ⟨_, rfl⟩
      · rcases thenE_some h with ⟨e, _, h1⟩ | ⟨a, i, h1, h2⟩
        · cases h1
        · split at h2
          · cases h2; exact ⟨_, rfl⟩
          · exact ihf _ _ _ _ _ (fun l' => by simp) h2
    | bin n =>
      simp only [P, stepP] at h
      split at h
      · rcases thenE_some h with ⟨e, _, h1⟩ | ⟨a, i, h1, h2⟩
        · cases h1
        · exact ihf _ _ _ _ _ (fun l' => by simp) h2
      · unfold operandS at h
        split at h
        · cases h
        split at h
        · cases h
        split at h
        · cases h; exact ⟨_, rfl⟩
        split at h
        · split at h
          · split at h
            · cases h; exact ⟨_, rfl⟩
            · unfold callS at h
              split at h
              · cases h
              · cases h
              · cases h; exact ⟨_, rfl⟩
          · cases h; exact ⟨_, rfl⟩
        split at h
        · unfold signS at h
          split at h
          · split at h
            · split at h
              · split at h
                · rcases thenE_some h with ⟨e, _, h1⟩ | ⟨a, i, h1, h2⟩
                  · cases h1
                  · cases h2; exact ⟨_, rfl⟩
                · cases h
              · cases h
            · rcases thenE_some h with ⟨e, _, h1⟩ | ⟨a, i, h1, h2⟩
              · cases h1
              · cases h2; exact ⟨_, rfl⟩
          · split at h
            · cases h; exact ⟨_, rfl⟩
            split at h
            · cases h; exact ⟨_, rfl⟩
            split at h
            · rcases thenE_some h with ⟨e, _, h1⟩ | ⟨a, i, h1, h2⟩
              · cases h1
              · rcases needT_some h2 with h3 | ⟨_, h3⟩
                · cases h3
                · cases h3; exact ⟨_, rfl⟩
            split at h
            · rcases thenE_some h with ⟨e, _, h1⟩ | ⟨a, i, h1, h2⟩
              · cases h1
              rcases needT_some h2 with h3 | ⟨_, h3⟩
              · cases h3
              rcases thenE_some h3 with ⟨e, _, h1⟩ | ⟨a, i, h1, h2⟩
              · cases h1
              rcases needT_some h2 with h3 | ⟨_, h3⟩
              · cases h3
              rcases thenE_some h3 with ⟨e, _, h1⟩ | ⟨a, i, h1, h2⟩
              · cases h1
              cases h2; exact ⟨_, rfl⟩
            · cases h
        · cases h
def Ans (L : List Tok) (g : Tag) (I o : Nat) : Prop := ∃ f r, P L f g I o = some r
def rank : Tag → Nat
  | .bin n => 10 - n
  | .loop _ _ => 15
  | .args _ => 16
theorem good_size {F : Fo} (h : Good F) : 1 ≤ F.size := one_size h.one
theorem ans_all {L : List Tok} (hL : ∀ t ∈ L, TokOk t) : ∀ (m : Nat) (g : Tag) (I o : Nat), 20 * (L.length - I) + rank g ≤ m → I ≤ L.length → (∀ n, g = .bin n → n ≤ 8) → (∀ F ∈ g.have_, Good F) → Ans L g I o := by
  intro m
  induction m with
  | zero =>
    intro g I o hm hI hg _
    cases g with
    | bin n => have := hg n rfl; simp [rank] at hm; omega
    | loop n a => simp [rank] at hm
    | args l => simp [rank] at hm
  | succ m ih =>
    intro g I o hm hI hg hG
    -- an expression's answer, and what follows
    have sub : ∀ (n I' o' : Nat), 20 * (L.length - I') + (10 - n) ≤ m → I' ≤ L.length → n ≤ 8 → ∃ f r, P L f (.bin n) I' o' = some r ∧ ∀ l i, r = .ok (l, i) → ∃ a, l = [a] ∧ Good a ∧ I' < i ∧ i ≤ L.length := by
      intro n I' o' h1 h2 h3
      obtain ⟨f, r, hr⟩ := ih (.bin n) I' o' h1 h2 (fun k hk => by cases hk; exact h3) (fun F hF => by simp [Tag.have_] at hF)
      refine ⟨f, r, hr, fun l i he => ?_⟩
      subst he
      have h5 := P_ok hL f (.bin n) I' o' _ h2 (fun F hF => by simp [Tag.have_] at hF) hr
      obtain ⟨k1, k2, k3, k4⟩ := h5
      have hl : ∃ a, l = [a] := P_one L f _ _ _ _ _ (fun l' => by simp) hr
      obtain ⟨a, rfl⟩ := hl
      have ha := k1 a (by simp)
      have hs := good_size ha
      simp only [Tag.have_, cat, Fo.app_no, List.length_singleton, List.length_nil, Fo.size] at k4
      exact ⟨a, rfl, ha, by omega, k3⟩
    have then_ : ∀ (n I' o' : Nat) (k : Orc → Fo → Nat → Option Res), (∀ p q, Le p q → ∀ a i x, k p a i = some x → k q a i = some x) → 20 * (L.length - I') + (10 - n) ≤ m → I' ≤ L.length → n ≤ 8 →
        (∀ a i, Good a → I' < i → i ≤ L.length → ∃ f x, k (P L f) a i = some x) → ∃ f x, thenE (P L f (.bin n) I' o') (k (P L f)) = some x := by
      intro n I' o' k hk h1 h2 h3 hc
      obtain ⟨f, r, hr, hl⟩ := sub n I' o' h1 h2 h3
      cases r with
      | error e => exact ⟨f, .error e, by rw [hr]; rfl⟩
      | ok y =>
        obtain ⟨l, i⟩ := y
        obtain ⟨a, rfl, ha, hi1, hi2⟩ := hl l i rfl
        obtain ⟨f2, x, hx⟩ := hc a i ha hi1 hi2
        refine ⟨max f f2, x, ?_⟩
        rw [P_more L (Nat.le_max_left f f2) _ _ _ _ hr]
        exact hk _ _ (P_more L (Nat.le_max_right f f2)) _ _ _ hx
    have kc : ∀ (k : Fo → Nat → Option Res), ∀ p q : Orc, Le p q → ∀ a i x, (fun (_ : Orc) => k) p a i = some x → (fun (_ : Orc) => k) q a i = some x := fun k p q _ a i x h => h
    suffices h : ∃ f r, stepP L (P L f) g I o = some r by
      obtain ⟨f, r, hr⟩ := h
      exact ⟨f + 1, r, hr⟩
    cases g with
    | bin n =>
      have hn := hg n rfl
      simp only [rank] at hm
      simp only [stepP]
      by_cases hn8 : n < 8
      · simp only [if_pos hn8]
        refine then_ (n + 1) I o (fun p a i => p (.loop n a) i o) (fun p q h a i x hx => h _ _ _ _ hx) (by omega) hI (by omega) (fun a i ha h1 h2 => ?_)
        exact ih (.loop n a) i o (by simp [rank]; omega) h2 (fun k hk => by cases hk) (fun F hF => by simp [Tag.have_] at hF; rw [hF]; exact ha)
      · simp only [if_neg hn8]
        unfold operandS
        split
        · exact ⟨0, _, rfl⟩
        split
        · exact ⟨0, _, rfl⟩
        rename_i t ht
        have hlt := (List.getElem?_eq_some_iff.1 ht).1
        split
        · exact ⟨0, _, rfl⟩
        split
        · split
          · rename_i h1
            have h1 := isT_lt h1
            split
            · exact ⟨0, _, rfl⟩
            · obtain ⟨f, r, hr⟩ := ih (.args []) (I + 2) (o + 1) (by simp [rank]; omega) (by omega) (fun k hk => by cases hk) (fun F hF => by simp [Tag.have_] at hF)
              refine ⟨f, ?_⟩
              rw [hr]
              cases r with
              | error e => exact ⟨_, rfl⟩
              | ok y => exact ⟨_, rfl⟩
          · exact ⟨0, _, rfl⟩
        split
        · unfold signS
          split
          · split
            · split
              · rename_i u hu
                have hlt2 := (List.getElem?_eq_some_iff.1 hu).1
                split
                · exact then_ 8 (I + 2) (o + 1) (fun _ a i => one (node 25 (Lx.val u.t.data.toList) noS a) i) (kc _) (by omega) (by omega) (by omega) (fun a i _ _ _ => ⟨0, _, rfl⟩)
                · exact ⟨0, _, rfl⟩
              · exact ⟨0, _, rfl⟩
            · rename_i op _ _
              exact then_ 8 (I + 1) (o + 1) (fun _ a i => one (node op 0 noS a) i) (kc _) (by omega) (by omega) (by omega) (fun a i _ _ _ => ⟨0, _, rfl⟩)
          · split
            · exact ⟨0, _, rfl⟩
            split
            · exact ⟨0, _, rfl⟩
            split
            · refine then_ 0 (I + 1) (o + 1) (fun _ a i => needT L tRpar i fun i => one a i) (kc _) (by omega) (by omega) (by omega) (fun a i _ _ _ => ⟨0, ?_⟩)
              unfold needT; split
              · exact ⟨_, rfl⟩
              · exact ⟨_, rfl⟩
            split
            · refine then_ 0 (I + 1) (o + 1) (fun p a i => needT L tThen i fun i => thenE (p (.bin 0) i (o + 1)) fun b i => needT L tElse i fun i => thenE (p (.bin 0) i (o + 1)) fun c i => one (node 26 0 noS (a.app (b.app c))) i)
                (fun p q h a i x => needT_le (fun i x => thenE_le (h _ _ _) (fun b i x => needT_le (fun i x => thenE_le (h _ _ _) (fun _ _ _ h => h) x) x) x) x) (by omega) (by omega) (by omega) (fun a i ha h1 h2 => ?_)
              unfold needT
              split
              · rename_i h3
                have h3 := isT_lt h3
                refine then_ 0 (i + 1) (o + 1) (fun p b i => if isT L i tElse = true then thenE (p (.bin 0) (i + 1) (o + 1)) (fun c i => one (node 26 0 noS (a.app (b.app c))) i) else errAt L 5 i)
                  (fun p q h b i x hx => ?_) (by omega) (by omega) (by omega) (fun b j hb h4 h5 => ?_)
                · revert hx; intro hx
                  split at hx
                  · rename_i h6; rw [if_pos h6]; exact thenE_le (h _ _ _) (fun _ _ _ h => h) _ hx
                  · rename_i h6; rw [if_neg h6]; exact hx
                · split
                  · rename_i h6
                    have h6 := isT_lt h6
                    exact then_ 0 (j + 1) (o + 1) (fun _ c i => one (node 26 0 noS (a.app (b.app c))) i) (kc _) (by omega) (by omega) (by omega) (fun c i _ _ _ => ⟨0, _, rfl⟩)
                  · exact ⟨0, _, rfl⟩
              · exact ⟨0, _, rfl⟩
            · exact ⟨0, _, rfl⟩
        · exact ⟨0, _, rfl⟩
    | loop n a =>
      simp only [rank] at hm
      have ha := hG a (by simp [Tag.have_])
      simp only [stepP]
      split
      · exact ⟨0, _, rfl⟩
      · rename_i op sw hop
        obtain ⟨s, hs, hop⟩ := Option.bind_eq_some_iff.1 hop
        have hlt := hereT_lt hs
        have ho := opAt_is hop
        have hn : n < 8 := by
          unfold opAt at hop
          split at hop <;> first | omega | cases hop
        refine then_ (if n ≤ 1 then n else n + 1) (I + 1) o (fun p b i => if n ≤ 1 ∨ n = 5 then one (node op 0 noS (if sw then b.app a else a.app b)) i else p (.loop n (node op 0 noS (if sw then b.app a else a.app b))) i o)
          (fun p q h b i x hx => ?_) (by split <;> omega) (by omega) (by split <;> omega) (fun b i hb h1 h2 => ?_)
        · revert hx; intro hx
          split at hx
          · rename_i h1; rw [if_pos h1]; exact hx
          · rename_i h1; rw [if_neg h1]; exact h _ _ _ _ hx
        · split
          · exact ⟨0, _, rfl⟩
          · refine ih _ i o (by simp [rank]; omega) h2 (fun k hk => by cases hk) (fun F hF => ?_)
            simp only [Tag.have_, List.mem_singleton] at hF
            rw [hF]
            cases sw
            · exact good_two ho ha hb
            · exact good_two ho hb ha
    | args l =>
      simp only [rank] at hm
      simp only [Tag.have_] at hG
      simp only [stepP]
      refine then_ 0 I o (fun p a i => if isT L i tRpar then some (.ok (l ++ [a], i + 1)) else if isT L i tComma then p (.args (l ++ [a])) (i + 1) o else errAt L 5 i)
        (fun p q h b i x hx => ?_) (by omega) hI (by omega) (fun a i ha h1 h2 => ?_)
      · revert hx; intro hx
        split at hx
        · rename_i h1; rw [if_pos h1]; exact hx
        rename_i h1; rw [if_neg h1]
        split at hx
        · rename_i h2; rw [if_pos h2]; exact h _ _ _ _ hx
        · rename_i h2; rw [if_neg h2]; exact hx
      · split
        · exact ⟨0, _, rfl⟩
        split
        · rename_i h3
          have h3 := isT_lt h3
          refine ih _ (i + 1) o (by simp [rank]; omega) (by omega) (fun k hk => by cases hk) (fun F hF => ?_)
          simp only [Tag.have_] at hF
          rcases List.mem_append.1 hF with hF | hF
          · exact hG F hF
          · rw [List.mem_singleton.1 hF]; exact ha
        · exact ⟨0, _, rfl⟩
end Px
end Go.Proofs.YtjnpkdpljmkpiaaGreatDoor
namespace Go.Proofs.YtjnpkdpljmkpiaaGreatDoor
namespace Px
open Tx
theorem ok_lt {L : List Tok} (hL : ∀ t ∈ L, TokOk t) {f n I o i : Nat} {a : Fo} (hI : I ≤ L.length) (h : P L f (.bin n) I o = some (.ok ([a], i))) : I < i ∧ i ≤ L.length ∧ Good a := by
  obtain ⟨g1, g2, g3, g4⟩ := (P_ok hL f).bin hI h
  have := good_size g1
  exact ⟨by omega, g3, g1⟩
structure Emb (L L' : List Tok) (d : Nat) : Prop where
  same : ∀ i t, L[i]? = some t → ∃ t', L'[d + i]? = some t' ∧ t'.k = t.k ∧ t'.t = t.t
  stop : ∀ n, (hereT L' (d + L.length)).bind (opAt n) = none
  par : hereT L' (d + L.length) ≠ some tLpar
theorem Emb.here {L L' : List Tok} {d : Nat} (h : Emb L L' d) {i : Nat} (hi : i < L.length) : hereT L' (d + i) = hereT L i := by
  obtain ⟨t', h1, h2, h3⟩ := h.same i _ (List.getElem?_eq_getElem hi)
  unfold hereT
  rw [h1, List.getElem?_eq_getElem hi]
  simp only [h2, h3]
theorem Emb.isT {L L' : List Tok} {d : Nat} (h : Emb L L' d) {i : Nat} (hi : i < L.length) (s : ByteArray) : isT L' (d + i) s = isT L i s := by
  unfold Px.isT; rw [h.here hi]
def EmbR (k d : Nat) (l : List Fo) (i : Nat) (r : Option Res) : Prop := r = some (.ok (l, d + i)) ∨ (0 < k ∧ ∃ a, r = some (.error (6, a)))
theorem EmbR.then_ {k d i j : Nat} {a : Fo} {l : List Fo} {r : Option Res} {f : Fo → Nat → Option Res} (h : EmbR k d [a] i r) (hf : EmbR k d l j (f a (d + i))) : EmbR k d l j (thenE r f) := by
  rcases h with rfl | ⟨hk, e, rfl⟩
  · exact hf
  · exact Or.inr ⟨hk, e, rfl⟩
theorem EmbR.one_ {k d i : Nat} (a : Fo) : EmbR k d [a] i (one a (d + i)) := Or.inl rfl
theorem Emb.need {L L' : List Tok} {d k : Nat} (h : Emb L L' d) {s : ByteArray} {i j : Nat} {l : List Fo} {f : Nat → Option Res} (hi : Px.isT L i s = true) (hf : EmbR k d l j (f (d + (i + 1)))) : EmbR k d l j (needT L' s (d + i) f) := by
  unfold needT
  rw [h.isT (isT_lt hi), hi, if_pos rfl]; exact hf
structure Pre (L L' : List Tok) (N : Nat) : Prop where
  len : L'.length = N
  same : ∀ i, i < N → L'[i]? = L[i]?
theorem Pre.here {L L' : List Tok} {N : Nat} (h : Pre L L' N) {i : Nat} (hi : i < N) : hereT L' i = hereT L i := by unfold hereT; rw [h.same i hi]
theorem Pre.isT {L L' : List Tok} {N : Nat} (h : Pre L L' N) {i : Nat} (hi : i < N) (s : ByteArray) : Px.isT L' i s = Px.isT L i s := by unfold Px.isT; rw [h.here hi]
theorem Pre.not {L L' : List Tok} {N : Nat} (h : Pre L L' N) {i : Nat} (hi : N ≤ i) (s : ByteArray) : Px.isT L' i s = false := by
  unfold Px.isT hereT; rw [List.getElem?_eq_none (by rw [h.len]; exact hi)]; simp
end Px
end Go.Proofs.YtjnpkdpljmkpiaaGreatDoor
namespace Go.Proofs.YtjnpkdpljmkpiaaGreatDoor
namespace Px
open Tx
def tokR (N : Nat) (x : Lx.R) : Tok := ⟨x.k, ⟨x.t.toArray⟩, N - x.m⟩
theorem mem_while {p : UInt8 → Bool} {c : UInt8} : ∀ {l : Lx.Bs}, c ∈ l.takeWhile p → p c = true
  | [], h => by simp at h
  | x :: l, h => by
    rw [List.takeWhile_cons] at h
    split at h
    · rename_i hx
      rcases List.mem_cons.1 h with rfl | h
      · exact hx
      · exact mem_while h
    · simp at h
theorem tok_ok {x : Lx.R} (h : Lx.Is x.k x.t) (N : Nat) : TokOk (tokR N x) := by
  refine ⟨fun hk => ?_, fun hk => ?_⟩
  · have hk : x.k = 2 := hk
    have h1 := h.self
    have e : (tokR N x).t.data.toList = x.t := by simp [tokR]
    have e2 : (tokR N x).t.size = x.t.length := by simp [tokR, ByteArray.size]
    rw [e, e2]
    rw [hk] at h1
    unfold Lx.first at h1
    simp only at h1
    split at h1
    · split at h1
      · cases h1
      · split at h1
        · cases h1
        · split at h1
          · split at h1
            · cases h1
            · cases h1
          · cases h1
    · rename_i hne
      split at h1
      · cases h1
      · rename_i hbig
        injection h1 with _ h2
        have hall : x.t.all Lx.isDig = true := by
          rw [← h2, List.all_eq_true]
          exact fun c hc => mem_while hc
        rw [h2] at hbig hne
        unfold Lx.tooBig at hbig
        simp only [Bool.or_eq_true, decide_eq_true_eq, not_or, Nat.not_lt] at hbig
        exact ⟨hall, hbig.1.2, hbig.1.1, by simpa using hne⟩
  · have e : x.t ≠ [] := h.ne
    intro h2
    have := congrArg (fun b : ByteArray => b.data.toList) h2
    simp [tokR] at this
    exact e this
theorem toks_ok (s : Lx.Bs) (N : Nat) : ∀ t ∈ (Lx.lexS s).1.map (tokR N), TokOk t := by
  intro t ht
  obtain ⟨x, hx, rfl⟩ := List.mem_map.1 ht
  exact tok_ok (Lx.lexS_is s x hx) N
def ErrIn (L : List Tok) (r : Option Res) : Prop := ∀ c p, r = some (.error (c, p)) → (c = 5 ∨ c = 6) ∧ ∃ i, p = atP L i
theorem ErrIn.at_ {L : List Tok} {c : Int} {i : Nat} (h : c = 5 ∨ c = 6) : ErrIn L (errAt L c i) := by
  intro c' p e
  unfold errAt at e
  cases e; exact ⟨h, i, rfl⟩
theorem ErrIn.one_ {L : List Tok} {F : Fo} {i : Nat} : ErrIn L (one F i) := by
  intro c p e; unfold one at e; cases e
theorem ErrIn.then_ {L : List Tok} {r : Option Res} {f : Fo → Nat → Option Res} (h : ErrIn L r) (hf : ∀ a i, ErrIn L (f a i)) : ErrIn L (thenE r f) := by
  intro c p e
  rcases thenE_some e with ⟨e', h1, h2⟩ | ⟨a, i, _, h2⟩
  · cases h2; exact h c p h1
  · exact hf a i c p h2
theorem ErrIn.need {L : List Tok} {s : ByteArray} {i : Nat} {f : Nat → Option Res} (hf : ∀ i, ErrIn L (f i)) : ErrIn L (needT L s i f) := by
  unfold needT
  split
  · exact hf _
  · exact ErrIn.at_ (Or.inl rfl)
theorem sign_err {L : List Tok} {p : Orc} (h : ∀ g I o, ErrIn L (p g I o)) (s : ByteArray) (I o : Nat) : ErrIn L (signS p L s I o) := by
  unfold signS
  split
  · split
    · split
      · split
        · exact (h _ _ _).then_ fun _ _ => ErrIn.one_
        · exact ErrIn.at_ (Or.inl rfl)
      · exact ErrIn.at_ (Or.inl rfl)
    · exact (h _ _ _).then_ fun _ _ => ErrIn.one_
  · split
    · exact ErrIn.one_
    split
    · exact ErrIn.one_
    split
    · exact (h _ _ _).then_ fun _ _ => ErrIn.need fun _ => ErrIn.one_
    split
    · exact (h _ _ _).then_ fun _ _ => ErrIn.need fun _ => (h _ _ _).then_ fun _ _ => ErrIn.need fun _ => (h _ _ _).then_ fun _ _ => ErrIn.one_
    · exact ErrIn.at_ (Or.inl rfl)
theorem call_err {L : List Tok} {s : ByteArray} {r : Option Res} (h : ErrIn L r) : ErrIn L (callS s r) := by
  intro c p e
  unfold callS at e
  split at e
  · cases e
  · cases e; exact h c p rfl
  · unfold one at e; cases e
theorem operand_err {L : List Tok} {p : Orc} (h : ∀ g I o, ErrIn L (p g I o)) (I o : Nat) : ErrIn L (operandS p L I o) := by
  unfold operandS
  split
  · exact ErrIn.at_ (Or.inr rfl)
  split
  · exact ErrIn.at_ (Or.inl rfl)
  split
  · exact ErrIn.one_
  split
  · split
    · split
      · exact ErrIn.one_
      · exact call_err (h _ _ _)
    · exact ErrIn.one_
  split
  · exact sign_err h _ _ _
  · exact ErrIn.at_ (Or.inl rfl)
theorem P_err (L : List Tok) : ∀ f g I o, ErrIn L (P L f g I o)
  | 0 => fun g I o c p h => by cases h
  | f + 1 => fun g I o => by
    have h := P_err L f
    show ErrIn L (stepP L (P L f) g I o)
    unfold stepP
    split
    · split
      · exact (h _ _ _).then_ fun _ _ => h _ _ _
      · exact operand_err h _ _
    · split
      · exact ErrIn.one_
      · refine (h _ _ _).then_ fun _ _ => ?_
        split
        · exact ErrIn.one_
        · exact h _ _ _
    · refine (h _ _ _).then_ fun _ _ => ?_
      split
      · intro c p e; cases e
      split
      · exact h _ _ _
      · exact ErrIn.at_ (Or.inl rfl)
def ParR (L : List Tok) (from_ : Nat) (r : Except (Int × Int) (Fo × Nat)) : Prop := ∃ f, parse L f from_ = some r
theorem parse_more {L : List Tok} {f g i : Nat} (h : f ≤ g) {r : Except (Int × Int) (Fo × Nat)} (hr : parse L f i = some r) : parse L g i = some r := by
  unfold parse at hr ⊢
  cases hq : P L f (.bin 0) i 0 with
  | none => rw [hq] at hr; cases hr
  | some x => rw [P_more L h _ _ _ _ hq]; rw [hq] at hr; exact hr
theorem ParR.one {L : List Tok} {i : Nat} {r r' : Except (Int × Int) (Fo × Nat)} (h : ParR L i r) (h' : ParR L i r') : r = r' := by
  obtain ⟨f, hf⟩ := h
  obtain ⟨g, hg⟩ := h'
  have h1 := parse_more (Nat.le_max_left f g) hf
  have h2 := parse_more (Nat.le_max_right f g) hg
  rw [h1] at h2; exact Option.some.inj h2
theorem ParR.all {L : List Tok} (hL : ∀ t ∈ L, TokOk t) {i : Nat} (hi : i ≤ L.length) : ∃ r, ParR L i r := by
  obtain ⟨f, r, hr⟩ := ans_all hL _ (.bin 0) i 0 (Nat.le_refl _) hi (fun n hn => by cases hn; omega) (fun F hF => by simp [Tag.have_] at hF)
  have hok := P_ok hL f (.bin 0) i 0 r hi (fun F hF => by simp [Tag.have_] at hF) hr
  cases r with
  | error e => exact ⟨.error e, f, by unfold parse; rw [hr]⟩
  | ok x =>
    obtain ⟨l, j⟩ := x
    -- one expression
    have : ∃ F, l = [F] := P_one L f _ _ _ _ _ (fun l' => by simp) hr
    obtain ⟨F, rfl⟩ := this
    exact ⟨_, f, by unfold parse; rw [hr]⟩
def RdR (L : List Tok) (r : Except (Int × Int) Fo) : Prop := ∃ x, ParR L 0 x ∧ r = match x with
  | .error e => .error e
  | .ok (F, i) => if i < L.length then .error (5, atP L i) else .ok F
theorem RdR.one {L : List Tok} {r r' : Except (Int × Int) Fo} (h : RdR L r) (h' : RdR L r') : r = r' := by
  obtain ⟨x, h1, rfl⟩ := h
  obtain ⟨y, h2, rfl⟩ := h'
  rw [h1.one h2]
theorem RdR.all {L : List Tok} (hL : ∀ t ∈ L, TokOk t) : ∃ r, RdR L r := by
  obtain ⟨x, hx⟩ := ParR.all hL (Nat.zero_le _)
  exact ⟨_, x, hx, rfl⟩
theorem parse_ok {L : List Tok} {f i j : Nat} {F : Fo} (h : parse L f i = some (.ok (F, j))) : P L f (.bin 0) i 0 = some (.ok ([F], j)) ∧ F.size ≤ 5000 ∧ F.depth ≤ 40 := by
  unfold parse at h
  split at h
  · cases h
  · rename_i G k hG
    split at h
    · cases h
    split at h
    · cases h
    · rename_i h1 h2
      cases h; exact ⟨hG, by omega, by omega⟩
  · cases h
theorem RdR.ok {L : List Tok} (hL : ∀ t ∈ L, TokOk t) {F : Fo} (h : RdR L (.ok F)) : ∃ f, P L f (.bin 0) 0 0 = some (.ok ([F], L.length)) ∧ F.size ≤ 5000 ∧ F.depth ≤ 40 ∧ Good F := by
  obtain ⟨x, ⟨f, hf⟩, h2⟩ := h
  match x, h2 with
  | .error e, h2 => simp at h2
  | .ok (G, i), h2 =>
    simp only at h2
    split at h2
    · cases h2
    · rename_i hi
      cases h2
      obtain ⟨h3, h4, h5⟩ := parse_ok hf
      obtain ⟨h6, h7, h8⟩ := ok_lt hL (Nat.zero_le _) h3
      have : i = L.length := by omega
      subst this
      exact ⟨f, h3, h4, h5, h8⟩
theorem fault_par {L : List Tok} {c p : Int} (h : RdR L (.error (c, p))) : c ≠ 0 ∧ (p = -1 ∨ ∃ t ∈ L, p = t.p) := by
  have hat : ∀ i, atP L i = -1 ∨ ∃ t ∈ L, atP L i = t.p := fun i => by
    unfold atP
    split
    · rename_i t ht; exact Or.inr ⟨t, List.mem_of_getElem? ht, rfl⟩
    · exact Or.inl rfl
  obtain ⟨x, ⟨f, hf⟩, h2⟩ := h
  match x, h2 with
  | .error e, h2 =>
    simp only at h2
    cases h2
    unfold parse at hf
    split at hf
    · rename_i e he
      cases hf
      obtain ⟨h3, i, h4⟩ := P_err L f _ _ _ c p he
      exact ⟨by omega, by rw [h4]; exact hat i⟩
    · simp only [Option.some.injEq] at hf
      split at hf
      · cases hf; exact ⟨by omega, hat _⟩
      split at hf
      · cases hf; exact ⟨by omega, hat _⟩
      · cases hf
    · cases hf
  | .ok (G, i), h2 =>
    simp only at h2
    split at h2
    · cases h2; exact ⟨by omega, hat i⟩
    · cases h2
end Px
end Go.Proofs.YtjnpkdpljmkpiaaGreatDoor
