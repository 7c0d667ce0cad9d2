/- Tokens: plain laws of the lexer. -/
import Derived.Test.YthnofhobhkcpfaaDoorKa
namespace Go.Proofs.YthnofhobhkcpfaaDoor.Lx

/-! ### a stop behind a text -/
/-- No token goes over c. -/
structure Stop (c : UInt8) : Prop where
  pt : isPt c = false
  dg : isDig c = false
  sg : ∀ t ∈ signs, c ∉ t
  cm : c ≠ 45
theorem stop_blank {c : UInt8} (h : isBl c = true) : Stop c := by
  simp only [isBl, Bool.or_eq_true, beq_iff_eq] at h
  rcases h with ((rfl | rfl) | rfl) | rfl <;> exact ⟨by decide, by decide, by decide, by decide⟩

theorem takeWhile_stop {p : UInt8 → Bool} {c : UInt8} (h : p c = false) (u b : Bs) : (u ++ c :: b).takeWhile p = u.takeWhile p := by
  induction u with
  | nil => simp [h]
  | cons x u ih => simp only [List.cons_append, List.takeWhile_cons, ih]
theorem prefix_stop {t : Bs} {c : UInt8} : ∀ {u b : Bs}, c ∉ t → t.isPrefixOf (u ++ c :: b) = t.isPrefixOf u := by
  induction t with
  | nil => intro u b _; simp
  | cons x t ih =>
    intro u b h
    cases u with
    | nil => simp [List.isPrefixOf]; intro e; simp [e] at h
    | cons y u =>
      simp only [List.cons_append, List.isPrefixOf]
      rw [ih (by simp at h; exact h.2)]

theorem first_stop {c : UInt8} (h : Stop c) (u b : Bs) : first (u ++ c :: b) = first u := by
  unfold first
  rw [takeWhile_stop h.dg, takeWhile_stop h.pt]
  have e : signs.find? (·.isPrefixOf (u ++ c :: b)) = signs.find? (·.isPrefixOf u) := by
    have : ∀ l : List Bs, (∀ t ∈ l, c ∉ t) → l.find? (·.isPrefixOf (u ++ c :: b)) = l.find? (·.isPrefixOf u) := by
      intro l
      induction l with
      | nil => intro _; rfl
      | cons t l ih =>
        intro hl
        simp only [List.find?_cons]
        rw [prefix_stop (hl t (by simp)), ih fun t ht => hl t (by simp [ht])]
    exact this _ h.sg
  rw [e]
theorem com_stop {c : UInt8} (h : Stop c) (u b : Bs) : isCom (u ++ c :: b) = isCom u := prefix_stop (by simp; exact h.cm)

/-- A token's text is a token by itself. -/
theorem first_self {u : Bs} {k : Nat} {t : Bs} (h : first u = .tok k t) : first t = .tok k t := by
  have hp := (first_tok h).1
  obtain ⟨v, rfl⟩ := hp
  have tw : ∀ (p : UInt8 → Bool) (l : Bs), (l.takeWhile p).takeWhile p = l.takeWhile p := by
    intro p l
    induction l with
    | nil => rfl
    | cons x l ih => by_cases hx : p x <;> simp [hx, ih]
  unfold first at h
  simp only at h
  split at h
  · rename_i hd
    have hd2 : (t.takeWhile isDig).isEmpty = true := by
      cases t with
      | nil => rfl
      | cons x t => simp only [List.cons_append, List.takeWhile_cons] at hd ⊢; split at hd <;> simp_all
    split at h
    · rename_i hw
      have e : List.takeWhile isPt (t ++ v) = t := by injection h
      have e2 : t.takeWhile isPt = t := by have := tw isPt (t ++ v); rwa [e] at this
      unfold first; simp only [hd2, if_true, e2]
      rw [e] at hw
      rw [if_pos hw]; injection h with a _; rw [a]
    · split at h
      · rename_i hw hn
        have e : List.takeWhile isPt (t ++ v) = t := by injection h
        have e2 : t.takeWhile isPt = t := by have := tw isPt (t ++ v); rwa [e] at this
        unfold first; simp only [hd2, if_true, e2]
        rw [e] at hw hn
        rw [if_neg hw, if_pos hn]; injection h with a _; rw [a]
      · split at h
        · rename_i hw hn he
          split at h
          · rename_i t' hf
            cases h
            have hm := List.mem_of_find?_eq_some hf
            obtain ⟨hne, _, hch⟩ := signs_ne _ hm
            have e2 : t.takeWhile isPt = [] := by
              cases t with
              | nil => rfl
              | cons x t => rw [List.takeWhile_cons, if_neg (by simp [(hch x (by simp)).2])]
            unfold first; simp only [hd2, if_true, e2]
            rw [if_neg (by decide), if_neg (by decide)]
            simp only [List.isEmpty_nil, if_true]
            have : ∀ l : List Bs, l.find? (·.isPrefixOf (t ++ v)) = some t → l.find? (·.isPrefixOf t) = some t := by
              intro l
              induction l with
              | nil => intro h; simp at h
              | cons x l ih =>
                intro h
                simp only [List.find?_cons] at h ⊢
                split at h
                · cases h
                  rw [List.isPrefixOf_iff_prefix.2 (List.prefix_refl t)]
                · rename_i hx
                  have hx2 : x.isPrefixOf t = false := by
                    by_cases q : x.isPrefixOf t = true
                    · have := List.isPrefixOf_iff_prefix.1 q
                      rw [List.isPrefixOf_iff_prefix.2 (this.trans (List.prefix_append t v))] at hx; cases hx
                    · exact Bool.eq_false_iff.2 q
                  rw [hx2]; exact ih h
            rw [this _ hf]
          · cases h
        · cases h
  · rename_i hd
    split at h
    · cases h
    · rename_i hb
      have e : List.takeWhile isDig (t ++ v) = t := by injection h
      have e2 : t.takeWhile isDig = t := by have := tw isDig (t ++ v); rwa [e] at this
      unfold first; simp only [e2]
      rw [e] at hd hb
      rw [if_neg hd, if_neg hb]; injection h with a _; rw [a]

/-- What is told of each token. -/
structure Is (k : Nat) (t : Bs) : Prop where
  self : first t = .tok k t
  ne : t ≠ []
  com : isCom t = false
  bl : t.dropWhile isBl = t

theorem is_of {u : Bs} {k : Nat} {t : Bs} (hn : u.dropWhile isBl = u) (hc : isCom u = false) (h : first u = .tok k t) (ht : t ≠ []) : Is k t := by
  obtain ⟨v, hv⟩ := (first_tok h).1
  refine ⟨first_self h, ht, ?_, ?_⟩
  · by_cases q : isCom t = true
    · have := List.isPrefixOf_iff_prefix.1 q
      have h2 : isCom u = true := List.isPrefixOf_iff_prefix.2 (this.trans ⟨v, hv⟩)
      rw [hc] at h2; cases h2
    · simpa using q
  · cases t with
    | nil => exact absurd rfl ht
    | cons c t =>
      have := drop_fix hn (c := c) (q := t ++ v) (by rw [← hv]; rfl)
      rw [List.dropWhile_cons, if_neg (by simp [this])]

theorem lexS_is (s : Bs) : ∀ x ∈ (lexS s).1, Is x.k x.t := by
  refine lex_ind (P := fun r => ∀ x ∈ (lexS r).1, Is x.k x.t) ?_ ?_ ?_ ?_ ?_ s
  · intro x hx; rw [lexS_nil] at hx; simp at hx
  · intro c r hb ih; rw [lexS_blank hb]; exact ih
  · intro u hn hu hc ih; rw [lexS_com hn hu hc]; exact ih
  · intro u e hn hu hc he x hx; rw [lexS_err hn hu hc he] at hx; simp at hx
  · intro u k t hn hu hc ht _ hne ih x hx
    rw [lexS_tok hn hu hc ht] at hx
    simp only [List.mem_cons] at hx
    rcases hx with rfl | hx
    · exact is_of hn hc ht hne
    · exact ih x hx

/-! ### joined tokens -/
def join : List Bs → Bs
  | [] => []
  | [t] => t
  | t :: l => t ++ 32 :: join l

def alike (a b : R) : Prop := a.k = b.k ∧ a.t = b.t

theorem lexS_join : ∀ (l : List R), (∀ x ∈ l, Is x.k x.t) → (lexS (join (l.map (·.t)))).2 = none ∧ (lexS (join (l.map (·.t)))).1.map (fun x => (x.k, x.t)) = l.map (fun x => (x.k, x.t))
  | [], _ => ⟨rfl, rfl⟩
  | [x], h => by
    have i := h x (by simp)
    simp only [List.map_cons, List.map_nil, join]
    rw [lexS_tok i.bl i.ne i.com i.self, List.drop_length, lexS_nil]
    exact ⟨rfl, rfl⟩
  | x :: y :: l, h => by
    have i := h x (by simp)
    obtain ⟨h1, h2⟩ := lexS_join (y :: l) fun z hz => h z (by simp only [List.mem_cons] at hz ⊢; exact Or.inr hz)
    have S := stop_blank (c := 32) (by decide)
    have e : join ((x :: y :: l).map (·.t)) = x.t ++ 32 :: join ((y :: l).map (·.t)) := rfl
    rw [e]
    have hbl : (x.t ++ 32 :: join ((y :: l).map (·.t))).dropWhile isBl = x.t ++ 32 :: join ((y :: l).map (·.t)) := by
      cases ht : x.t with
      | nil => exact absurd ht i.ne
      | cons c t => rw [List.cons_append, List.dropWhile_cons, if_neg (by simp [drop_fix i.bl ht])]
    rw [lexS_tok (k := x.k) (t := x.t) hbl (by simp) (by rw [com_stop S]; exact i.com) (by rw [first_stop S]; exact i.self)]
    rw [List.drop_left, lexS_blank (by decide)]
    exact ⟨h1, by rw [List.map_cons, h2]; rfl⟩

theorem join_length (l : List Bs) : (join l).length ≤ (l.map (fun t => t.length + 1)).sum := by
  induction l with
  | nil => simp [join]
  | cons t l ih =>
    cases l with
    | nil => simp [join]
    | cons y l => simp only [join, List.length_append, List.length_cons, List.map_cons, List.sum_cons] at ih ⊢; omega

/-! ### where tokens stand -/
def Chain (s : Bs) : Nat → List R → Prop
  | _, [] => True
  | e, x :: l => e ≤ s.length - x.m ∧ x.m ≤ s.length ∧ x.t ≠ [] ∧ x.t <+: s.drop (s.length - x.m) ∧ Chain s (s.length - x.m + x.t.length) l

theorem suffix_drop {r s : Bs} (h : r <:+ s) : s.drop (s.length - r.length) = r := by
  obtain ⟨p, rfl⟩ := h
  simp
theorem after_suffix (u : Bs) : afterLine u <:+ u := (List.drop_suffix _ _).trans (List.dropWhile_suffix _)

theorem Chain.mono {s : Bs} {e e' : Nat} (h : e' ≤ e) : ∀ {l : List R}, Chain s e l → Chain s e' l
  | [], _ => trivial
  | _ :: _, ⟨a, b⟩ => ⟨Nat.le_trans h a, b⟩

theorem lexS_chain (s : Bs) : ∀ r, r <:+ s → Chain s (s.length - r.length) (lexS r).1 ∧ ∀ e m, (lexS r).2 = some (e, m) → 0 < m ∧ m ≤ r.length := by
  refine lex_ind (P := fun r => r <:+ s → Chain s (s.length - r.length) (lexS r).1 ∧ ∀ e m, (lexS r).2 = some (e, m) → 0 < m ∧ m ≤ r.length) ?_ ?_ ?_ ?_ ?_
  · intro _; rw [lexS_nil]; exact ⟨trivial, fun e m h => by cases h⟩
  · intro c r hb ih h
    rw [lexS_blank hb]
    have h2 : r <:+ s := (List.suffix_cons c r).trans h
    obtain ⟨a, b⟩ := ih h2
    exact ⟨a.mono (by simp; omega), fun e m q => by have := b e m q; simp; omega⟩
  · intro u hn hu hc ih h
    rw [lexS_com hn hu hc]
    have h2 := (after_suffix u).trans h
    have h3 := (after_suffix u).length_le
    obtain ⟨a, b⟩ := ih h2
    exact ⟨a.mono (by omega), fun e m q => by have := b e m q; omega⟩
  · intro u e hn hu hc he _
    rw [lexS_err hn hu hc he]
    exact ⟨trivial, fun e m h => by cases h; exact ⟨List.length_pos_iff.2 hu, Nat.le_refl _⟩⟩
  · intro u k t hn hu hc ht hp hne ih h
    rw [lexS_tok hn hu hc ht]
    obtain ⟨a, b⟩ := ih ((List.drop_suffix _ _).trans h)
    have hl := h.length_le
    have hpl := hp.length_le
    refine ⟨⟨Nat.le_refl _, hl, hne, ?_, a.mono (by simp; omega)⟩, fun e m q => by have := b e m q; simp at this; omega⟩
    show t <+: s.drop (s.length - u.length)
    rw [suffix_drop h]; exact hp

/-! ### two texts, a line's end between them -/
def sh (n : Nat) (x : R) : R := ⟨x.k, x.t, x.m + n⟩
def glue (n : Nat) (a b : List R × Option (Nat × Nat)) : List R × Option (Nat × Nat) :=
  match a.2 with
  | none => (a.1.map (sh n) ++ b.1, b.2)
  | some (e, m) => (a.1.map (sh n), some (e, m + n))

theorem glue_cons (n : Nat) (x : R) (l : List R) (o : Option (Nat × Nat)) (b : List R × Option (Nat × Nat)) : glue n (x :: l, o) b = (sh n x :: (glue n (l, o) b).1, (glue n (l, o) b).2) := by
  cases o <;> rfl

theorem after_mem {u : Bs} (h : (10 : UInt8) ∈ u) (v : Bs) : afterLine (u ++ v) = afterLine u ++ v := by
  unfold afterLine
  induction u with
  | nil => simp at h
  | cons c u ih =>
    by_cases hc : c = 10
    · subst hc; simp
    · have : (c != 10) = true := by simpa using hc
      simp only [List.cons_append, List.dropWhile_cons, this, if_true]
      exact ih (by simpa [Ne.symm hc] using h)
theorem after_not {u : Bs} (h : (10 : UInt8) ∉ u) (v : Bs) : afterLine (u ++ 10 :: v) = v ∧ afterLine u = [] := by
  unfold afterLine
  induction u with
  | nil => simp
  | cons c u ih =>
    have hc : c ≠ 10 := by rintro rfl; simp at h
    have : (c != 10) = true := by simpa using hc
    simp only [List.cons_append, List.dropWhile_cons, this, if_true]
    exact ih (by simp at h; exact h.2)

theorem lexS_line (b : Bs) : ∀ r, lexS (r ++ 10 :: b) = glue (b.length + 1) (lexS r) (lexS b) := by
  have S := stop_blank (c := 10) (by decide)
  have hbl : ∀ u : Bs, u.dropWhile isBl = u → u ≠ [] → (u ++ 10 :: b).dropWhile isBl = u ++ 10 :: b := fun u hn hu => by
    cases u with
    | nil => exact absurd rfl hu
    | cons c t => rw [List.cons_append, List.dropWhile_cons, if_neg (by simp [drop_fix hn rfl])]
  refine lex_ind ?_ ?_ ?_ ?_ ?_
  · show lexS (10 :: b) = _
    rw [lexS_blank (by decide), lexS_nil]; rfl
  · intro c r hb ih
    rw [List.cons_append, lexS_blank hb, lexS_blank hb]; exact ih
  · intro u hn hu hc ih
    rw [lexS_com (hbl u hn hu) (by simp) (by rw [com_stop S]; exact hc), lexS_com hn hu hc]
    by_cases h : (10 : UInt8) ∈ u
    · rw [after_mem h]; exact ih
    · obtain ⟨h1, h2⟩ := after_not h b
      rw [h1, h2, lexS_nil]; rfl
  · intro u e hn hu hc he
    rw [lexS_err (hbl u hn hu) (by simp) (by rw [com_stop S]; exact hc) (by rw [first_stop S]; exact he), lexS_err hn hu hc he]
    simp [glue]
  · intro u k t hn hu hc ht hp hne ih
    rw [lexS_tok (hbl u hn hu) (by simp) (by rw [com_stop S]; exact hc) (by rw [first_stop S]; exact ht), lexS_tok hn hu hc ht]
    rw [glue_cons, ← ih, List.drop_append_of_le_length hp.length_le]
    simp [sh]

theorem lexS_blanks : ∀ (b r : Bs), (∀ c ∈ b, isBl c = true) → lexS (b ++ r) = lexS r
  | [], _, _ => rfl
  | c :: b, r, h => by rw [List.cons_append, lexS_blank (h c (by simp))]; exact lexS_blanks b r fun c hc => h c (by simp [hc])

theorem lexS_around (b s : Bs) (h : ∀ c ∈ b, isBl c = true) : lexS (b ++ s ++ 10 :: b) = ((lexS s).1.map (sh (b.length + 1)), (lexS s).2.map fun p => (p.1, p.2 + (b.length + 1))) := by
  rw [List.append_assoc, lexS_blanks _ _ h, lexS_line]
  have : lexS b = ([], none) := by have := lexS_blanks b [] h; rwa [List.append_nil] at this
  rw [this]
  unfold glue
  cases (lexS s).2 with
  | none => simp
  | some p => rfl

/-! ### names and words -/
theorem name_not_word {s : Bs} (h : isName s = true) : isWord s = false := by
  simp only [isName, Bool.and_eq_true, Bool.not_eq_true'] at h; exact h.2

theorem takeWhile_all {p : UInt8 → Bool} : ∀ {l : Bs}, l.all p = true → l.takeWhile p = l
  | [], _ => rfl
  | c :: l, h => by
    simp only [List.all_cons, Bool.and_eq_true] at h
    rw [List.takeWhile_cons, if_pos h.1, takeWhile_all h.2]

theorem pt_head {s : Bs} (h : s.all isPt = true) (hn : s ≠ []) (hd : isDig (s.headD 0) = false) : s.dropWhile isBl = s ∧ isCom s = false ∧ s.takeWhile isDig = [] := by
  cases s with
  | nil => exact absurd rfl hn
  | cons c s =>
    simp only [List.all_cons, Bool.and_eq_true] at h
    have hc := h.1
    have hb : isBl c = false := by
      by_cases q : isBl c = true
      · rw [(stop_blank q).pt] at hc; cases hc
      · simpa using q
    refine ⟨by rw [List.dropWhile_cons, if_neg (by simp [hb])], ?_, ?_⟩
    · unfold isCom
      have : c ≠ 45 := by rintro rfl; exact absurd hc (by decide)
      simp only [List.isPrefixOf]
      rw [show ((45 : UInt8) == c) = false from by simpa using Ne.symm this]; rfl
    · simp at hd; rw [List.takeWhile_cons, if_neg (by simp [hd])]

theorem words_pt : ∀ t ∈ words, t ≠ [] ∧ t.length ≤ 9 ∧ t.all isPt = true ∧ isDig (t.headD 0) = false := by decide

theorem lexS_one {s : Bs} {k : Nat} (hs : s.all isPt = true) (hn : s ≠ []) (hd : isDig (s.headD 0) = false) (h : (k = 3 ∧ isWord s = true) ∨ (k = 1 ∧ isName s = true)) : lexS s = ([⟨k, s, s.length⟩], none) := by
  obtain ⟨h1, h2, h3⟩ := pt_head hs hn hd
  have hf : first s = .tok k s := by
    unfold first
    simp only [h3, takeWhile_all hs]
    rcases h with ⟨rfl, h⟩ | ⟨rfl, h⟩
    · simp [h]
    · simp [h, name_not_word h]
  rw [lexS_tok h1 hn h2 hf, List.drop_length, lexS_nil]
theorem lexS_word {s : Bs} (h : isWord s = true) : lexS s = ([⟨3, s, s.length⟩], none) := by
  obtain ⟨h1, _, h2, h3⟩ := words_pt s (by simpa [isWord] using h)
  exact lexS_one h2 h1 h3 (Or.inl ⟨rfl, h⟩)
theorem lexS_name {s : Bs} (h : isName s = true) : lexS s = ([⟨1, s, s.length⟩], none) := by
  have h' := h
  simp only [isName, Bool.and_eq_true, Bool.not_eq_true'] at h
  obtain ⟨⟨⟨⟨h1, _⟩, h2⟩, h3⟩, _⟩ := h
  exact lexS_one h2 (by rintro rfl; simp at h1) h3 (Or.inr ⟨rfl, h'⟩)

theorem is_kind {k : Nat} {t : Bs} (h : Is k t) : (k = 2 ∨ k = 4) ∨ (k = 3 ∧ isWord t = true) ∨ (k = 1 ∧ isName t = true) := by
  have := h.self
  unfold first at this
  simp only at this
  split at this
  · split at this
    · rename_i hw
      injection this with a b; rw [b] at hw
      exact Or.inr (Or.inl ⟨a.symm, hw⟩)
    · split at this
      · rename_i hw
        injection this with a b; rw [b] at hw
        exact Or.inr (Or.inr ⟨a.symm, hw⟩)
      · split at this
        · split at this
          · injection this with a b; exact Or.inl (Or.inr a.symm)
          · cases this
        · cases this
  · split at this
    · cases this
    · injection this with a b; exact Or.inl (Or.inl a.symm)
end Go.Proofs.YthnofhobhkcpfaaDoor.Lx
