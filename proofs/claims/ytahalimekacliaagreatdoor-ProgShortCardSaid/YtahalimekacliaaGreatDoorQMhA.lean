/- What the law of MhA needs of its own. -/
import Derived.WalkKit
import Derived.WalkSpells
import Derived.Deep.Onto
import Derived.Deep.AppendLies
import Derived.Deep.Draws
import Derived.OwnWalk
import Derived.Test.YtahalimekacliaaGreatDoorProg
import Derived.Shelf.Abstract
import Derived.Lib.Strings
import Derived.WalkLawsBesides
import Derived.Outline
import Derived.Laws.EntriesVeiled
import Derived.Deep.RegionHeld3
import Derived.Deep.QuietTactic
import Derived.BigQuiet
import Derived.StillTailTactics
import Derived.RegionTactic
import Derived.Lib.Hide
import Derived.Deep.DeepCutAuto
import Derived.Deep.CutBlock
import Derived.Laws.MakeOwn
import Derived.Laws.OwnMore
import Derived.OneCell
import Derived.Maps.Own
import Derived.Lib.AtoiAll
import Derived.Lib.AtoiAllCases
import Derived.Shelf.Spec.SearchS
import Derived.Shelf.GgClosure.StringsIndexFunc
import Derived.Lib.SlBy
import Derived.Lib.SlTrimSet
import Derived.Lib.CutLaws
import Derived.Lib.IndexLaws
import Derived.Lib.IndexBytes
import Derived.Shelf.Strings.SlTrimAscii
import Derived.Shelf.Small.Utf8
import Derived.Shelf.Small.Strs
import Derived.Shelf.Strconv.Atoi
import Derived.Shelf.Strconv.Itoa0
import Derived.Shelf.Strconv.Itoa1
import Derived.Shelf.LaysM
import Derived.Shelf.Strconv.Itoa2
import Derived.Shelf.Strconv.Itoa3
import Derived.Shelf.Strconv.AtoiErrFast
import Derived.Shelf.Strconv.ParseIntEmpty
import Derived.Shelf.Strconv.AtoiFail
import Derived.Shelf.Strconv.Clone
import Derived.Shelf.Strconv.SyntaxError
import Derived.Shelf.LaysC
import Derived.Shelf.Strconv.ToError
import Derived.Shelf.Strconv.AtoiErr
import Derived.Shelf.Strconv.ErrVar
import Derived.Shelf.Strconv.Lower
import Derived.Shelf.Strconv.ParseUint10
import Derived.Shelf.Strconv.ParseUint10Empty
import Derived.Shelf.Strconv.ParseUint10Any
import Derived.Shelf.Strconv.ParseInt10
import Derived.Shelf.Strconv.AtoiLong
import Derived.Shelf.Strconv.AtoiInnerAll
import Derived.Shelf.Strconv.RangeError
import Derived.Shelf.Strconv.ToErrorRange
import Derived.Shelf.Strconv.AtoiAll
import Derived.Shelf.Strconv.ErrVarAll
import Derived.Shelf.Strconv.ParseUintEmpty
import Derived.Shelf.Strconv.ParseUint10b64
import Derived.Shelf.Strconv.ParseUint10b32
import Derived.Shelf.Strconv.ParseUint10b16
import Derived.Shelf.Strings.Search1
import Derived.Shelf.Strings.Search2
import Derived.Shelf.Strings.Cut
import Derived.Shelf.Strings.Shaped
import Derived.Ground.GgwProg
import Derived.Shelf.GgClosure.StringsIndexFuncTop
import Derived.Shelf.Strings.Prefix
import Derived.Shelf.Strings.Runes
import Derived.Shelf.Strings.AsciiSet
import Derived.Shelf.Unicode.DecodeSlow
import Derived.Ground.SlgfProg
import Derived.Shelf.SlicesE.IndexFunc
import Derived.Defers
import Derived.Test.YtahalimekacliaaGreatDoorRows
import Derived.Test.YtahalimekacliaaGreatDoorTie
import Derived.Lib.LaidU8
import Derived.SliceStrings
import Derived.HandedShaped
import Derived.ProofKit
import Derived.OpenShut
import Derived.Lay
import Derived.SevenTiedAt
import Derived.Deep.Slices
import Derived.Test.YtahalimekacliaaGreatDoorJ1
import Derived.Test.YtahalimekacliaaGreatDoorJ2
import Derived.Test.YtahalimekacliaaGreatDoorJ3
import Derived.Test.YtahalimekacliaaGreatDoorJ4
import Derived.Test.YtahalimekacliaaGreatDoorJ5
import Derived.Test.YtahalimekacliaaGreatDoorJ6
import Derived.Test.YtahalimekacliaaGreatDoorJ7
import Derived.Test.YtahalimekacliaaGreatDoorJ8
import Derived.Test.YtahalimekacliaaGreatDoorJ9
import Derived.Test.YtahalimekacliaaGreatDoorJ10
import Derived.Test.YtahalimekacliaaGreatDoorJ11
import Derived.Test.YtahalimekacliaaGreatDoorJ12
import Derived.Test.YtahalimekacliaaGreatDoorJ13
import Derived.Test.YtahalimekacliaaGreatDoorJ14
import Derived.Test.YtahalimekacliaaGreatDoorJ15
import Derived.Test.YtahalimekacliaaGreatDoorJ16
import Derived.Test.YtahalimekacliaaGreatDoorJ17
import Derived.Test.YtahalimekacliaaGreatDoorJ18
import Derived.Test.YtahalimekacliaaGreatDoorJ19
import Derived.Test.YtahalimekacliaaGreatDoorJ20
import Derived.Test.YtahalimekacliaaGreatDoorJ21
import Derived.Test.YtahalimekacliaaGreatDoorJ22
import Derived.Test.YtahalimekacliaaGreatDoorJ23
import Derived.Test.YtahalimekacliaaGreatDoorJ24
import Derived.Test.YtahalimekacliaaGreatDoorJ25
import Derived.Test.YtahalimekacliaaGreatDoorJ26
import Derived.Test.YtahalimekacliaaGreatDoorJ27
import Derived.Test.YtahalimekacliaaGreatDoorJ28
import Derived.Test.YtahalimekacliaaGreatDoorJ29
import Derived.Test.YtahalimekacliaaGreatDoorJ30
import Derived.Test.YtahalimekacliaaGreatDoorJ31
import Derived.Test.YtahalimekacliaaGreatDoorJ32
import Derived.Test.YtahalimekacliaaGreatDoorJ33
import Derived.Test.YtahalimekacliaaGreatDoorJ34
import Derived.Test.YtahalimekacliaaGreatDoorJ35
import Derived.Test.YtahalimekacliaaGreatDoorJ36
import Derived.Test.YtahalimekacliaaGreatDoorJ37
import Derived.Test.YtahalimekacliaaGreatDoorJ38
import Derived.Test.YtahalimekacliaaGreatDoorJ39
import Derived.Test.YtahalimekacliaaGreatDoorJ40
import Derived.Test.YtahalimekacliaaGreatDoorJ41
import Derived.Test.YtahalimekacliaaGreatDoorJ42
import Derived.Test.YtahalimekacliaaGreatDoorJ43
import Derived.Test.YtahalimekacliaaGreatDoorJ44
import Derived.Test.YtahalimekacliaaGreatDoorJ45
import Derived.Test.YtahalimekacliaaGreatDoorJ46
set_option linter.unusedVariables false
set_option linter.unusedSimpArgs false
namespace Go.Proofs.YtahalimekacliaaGreatDoor.Lx
structure Stop (c : UInt8) : Prop where
  pt : isPt c = false
  dg : isDig c = false
  sg : ∀ t ∈ signs, c ∉ t
  cm : c ≠ 45
theorem stop_blank {c : UInt8} (h : isBl c = true) : Stop c := by
  simp only [isBl, Bool.or_eq_true, beq_iff_eq] at h
  rcases h with ((rfl | rfl) | rfl) | rfl <;> exact ⟨by decide, by decide, by decide, by decide⟩
theorem takeWhile_stop {p : UInt8 → Bool} {c : UInt8} (h : p c = false) (u b : Bs) : (u ++ c :: b).takeWhile p = u.takeWhile p := by
  induction u with
  | nil => simp [h]
  | cons x u ih => simp only [List.cons_append, List.takeWhile_cons, ih]
theorem prefix_stop {t : Bs} {c : UInt8} : ∀ {u b : Bs}, c ∉ t → t.isPrefixOf (u ++ c :: b) = t.isPrefixOf u := by
  induction t with
  | nil => intro u b _; simp
  | cons x t ih =>
    intro u b h
    cases u with
    | nil => simp [List.isPrefixOf]; intro e; simp [e] at h
    | cons y u =>
      simp only [List.cons_append, List.isPrefixOf]
      rw [ih (by simp at h; exact h.2)]
theorem first_stop {c : UInt8} (h : Stop c) (u b : Bs) : first (u ++ c :: b) = first u := by
  unfold first
  rw [takeWhile_stop h.dg, takeWhile_stop h.pt]
  have e : signs.find? (·.isPrefixOf (u ++ c :: b)) = signs.find? (·.isPrefixOf u) := by
    have : ∀ l : List Bs, (∀ t ∈ l, c ∉ t) → l.find? (·.isPrefixOf (u ++ c :: b)) = l.find? (·.isPrefixOf u) := by
      intro l
      induction l with
      | nil => intro _; rfl
      | cons t l ih =>
        intro hl
        simp only [List.find?_cons]
        rw [prefix_stop (hl t (by simp)), ih fun t ht => hl t (by simp [ht])]
    exact this _ h.sg
  rw [e]
theorem com_stop {c : UInt8} (h : Stop c) (u b : Bs) : isCom (u ++ c :: b) = isCom u := prefix_stop (by simp; exact h.cm)
def join : List Bs → Bs
  | [] => []
  | [t] => t
  | t :: l => t ++ 32 :: join l
theorem lexS_join : ∀ (l : List R), (∀ x ∈ l, Is x.k x.t) → (lexS (join (l.map (·.t)))).2 = none ∧ (lexS (join (l.map (·.t)))).1.map (fun x => (x.k, x.t)) = l.map (fun x => (x.k, x.t))
  | [], _ => ⟨rfl, rfl⟩
  | [x], h => by
    have i := h x (by simp)
    simp only [List.map_cons, List.map_nil, join]
    rw [lexS_tok i.bl i.ne i.com i.self, List.drop_length, lexS_nil]
    exact ⟨rfl, rfl⟩
  | x :: y :: l, h => by
    have i := h x (by simp)
    obtain ⟨h1, h2⟩ := lexS_join (y :: l) fun z hz => h z (by simp only [List.mem_cons] at hz ⊢; exact Or.inr hz)
    have S := stop_blank (c := 32) (by decide)
    have e : join ((x :: y :: l).map (·.t)) = x.t ++ 32 :: join ((y :: l).map (·.t)) := rfl
    rw [e]
    have hbl : (x.t ++ 32 :: join ((y :: l).map (·.t))).dropWhile isBl = x.t ++ 32 :: join ((y :: l).map (·.t)) := by
      cases ht : x.t with
      | nil => exact absurd ht i.ne
      | cons c t => rw [List.cons_append, List.dropWhile_cons, if_neg (by simp [drop_fix i.bl ht])]
    rw [lexS_tok (k := x.k) (t := x.t) hbl (by simp) (by rw [com_stop S]; exact i.com) (by rw [first_stop S]; exact i.self)]
    rw [List.drop_left, lexS_blank (by decide)]
    exact ⟨h1, by rw [List.map_cons, h2]; rfl⟩
theorem join_length (l : List Bs) : (join l).length ≤ (l.map (fun t => t.length + 1)).sum := by
  induction l with
  | nil => simp [join]
  | cons t l ih =>
    cases l with
    | nil => simp [join]
    | cons y l => simp only [join, List.length_append, List.length_cons, List.map_cons, List.sum_cons] at ih ⊢; omega
def sh (n : Nat) (x : R) : R := ⟨x.k, x.t, x.m + n⟩
def glue (n : Nat) (a b : List R × Option (Nat × Nat)) : List R × Option (Nat × Nat) :=
  match a.2 with
  | none => (a.1.map (sh n) ++ b.1, b.2)
  | some (e, m) => (a.1.map (sh n), some (e, m + n))
theorem glue_cons (n : Nat) (x : R) (l : List R) (o : Option (Nat × Nat)) (b : List R × Option (Nat × Nat)) : glue n (x :: l, o) b = (sh n x :: (glue n (l, o) b).1, (glue n (l, o) b).2) := by
  cases o <;> rfl
theorem after_mem {u : Bs} (h : (10 : UInt8) ∈ u) (v : Bs) : afterLine (u ++ v) = afterLine u ++ v := by
  unfold afterLine
  induction u with
  | nil => simp at h
  | cons c u ih =>
    by_cases hc : c = 10
    · subst hc; simp
    · have : (c != 10) = true := by simpa using hc
      simp only [List.cons_append, List.dropWhile_cons, this, if_true]
      exact ih (by simpa [Ne.symm hc] using h)
theorem after_not {u : Bs} (h : (10 : UInt8) ∉ u) (v : Bs) : afterLine (u ++ 10 :: v) = v ∧ afterLine u = [] := by
  unfold afterLine
  induction u with
  | nil => simp
  | cons c u ih =>
    have hc : c ≠ 10 := by rintro rfl; simp at h
    have : (c != 10) = true := by simpa using hc
    simp only [List.cons_append, List.dropWhile_cons, this, if_true]
    exact ih (by simp at h; exact h.2)
theorem lexS_line (b : Bs) : ∀ r, lexS (r ++ 10 :: b) = glue (b.length + 1) (lexS r) (lexS b) := by
  have S := stop_blank (c := 10) (by decide)
  have hbl : ∀ u : Bs, u.dropWhile isBl = u → u ≠ [] → (u ++ 10 :: b).dropWhile isBl = u ++ 10 :: b := fun u hn hu => by
    cases u with
    | nil => exact absurd rfl hu
    | cons c t => rw [List.cons_append, List.dropWhile_cons, if_neg (by simp [drop_fix hn rfl])]
  refine lex_ind ?_ ?_ ?_ ?_ ?_
  · show lexS (10 :: b) = _
    rw [lexS_blank (by decide), lexS_nil]; rfl
  · intro c r hb ih
    rw [List.cons_append, lexS_blank hb, lexS_blank hb]; exact ih
  · intro u hn hu hc ih
    rw [lexS_com (hbl u hn hu) (by simp) (by rw [com_stop S]; exact hc), lexS_com hn hu hc]
    by_cases h : (10 : UInt8) ∈ u
    · rw [after_mem h]; exact ih
    · obtain ⟨h1, h2⟩ := after_not h b
      rw [h1, h2, lexS_nil]; rfl
  · intro u e hn hu hc he
    rw [lexS_err (hbl u hn hu) (by simp) (by rw [com_stop S]; exact hc) (by rw [first_stop S]; exact he), lexS_err hn hu hc he]
    simp [glue]
  · intro u k t hn hu hc ht hp hne ih
    rw [lexS_tok (hbl u hn hu) (by simp) (by rw [com_stop S]; exact hc) (by rw [first_stop S]; exact ht), lexS_tok hn hu hc ht]
    rw [glue_cons, ← ih, List.drop_append_of_le_length hp.length_le]
    simp [sh]
theorem name_not_word {s : Bs} (h : isName s = true) : isWord s = false := by
  simp only [isName, Bool.and_eq_true, Bool.not_eq_true'] at h; exact h.2
end Go.Proofs.YtahalimekacliaaGreatDoor.Lx
namespace Go.Proofs.YtahalimekacliaaGreatDoor
end Go.Proofs.YtahalimekacliaaGreatDoor
namespace Go.Proofs.YtahalimekacliaaGreatDoor
namespace Px
open Tx
theorem then_ok {r : Option Res} {f : Fo → Nat → Option Res} {l : List Fo} {j : Nat} (h : thenE r f = some (.ok (l, j))) : ∃ a i, r = some (.ok ([a], i)) ∧ f a i = some (.ok (l, j)) := by
  rcases thenE_some h with ⟨e, _, h1⟩ | h
  · cases h1
  · exact h
theorem need_ok {L : List Tok} {s : ByteArray} {i : Nat} {f : Nat → Option Res} {l : List Fo} {j : Nat} (h : needT L s i f = some (.ok (l, j))) : isT L i s = true ∧ f (i + 1) = some (.ok (l, j)) := by
  rcases needT_some h with h1 | h1
  · cases h1
  · exact h1
theorem one_ok {a : Fo} {i : Nat} {l : List Fo} {j : Nat} (h : one a i = some (.ok (l, j))) : l = [a] ∧ j = i := by
  cases h; exact ⟨rfl, rfl⟩
def LbO (p : Orc) : Prop := ∀ g I o l i, p g I o = some (.ok (l, i)) → I ≤ i ∧ (cat g.have_).size + g.have_.length ≤ (cat l).size + l.length
theorem need_i {L : List Tok} {s : ByteArray} {i : Nat} {f : Nat → Option Res} {l : List Fo} {j : Nat} (h : needT L s i f = some (.ok (l, j))) : f (i + 1) = some (.ok (l, j)) := (need_ok h).2
theorem step_lb {L : List Tok} {p : Orc} (h : LbO p) : LbO (stepP L p) := by
  intro g I o l i hq
  cases g with
  | bin n =>
    simp only [Tag.have_, cat, Fo.size, List.length_nil]
    refine ⟨?_, by omega⟩
    simp only [stepP] at hq
    split at hq
    · obtain ⟨a, j, e1, e2⟩ := then_ok hq
      have := (h _ _ _ _ _ e1).1
      have := (h _ _ _ _ _ e2).1
      omega
    · unfold operandS at hq
      split at hq
      · cases hq
      split at hq
      · cases hq
      split at hq
      · obtain ⟨rfl, rfl⟩ := one_ok hq; omega
      split at hq
      · split at hq
        · split at hq
          · obtain ⟨rfl, rfl⟩ := one_ok hq; omega
          · unfold callS at hq
            split at hq
            · cases hq
            · cases hq
            · rename_i m j hr
              have := (h _ _ _ _ _ hr).1
              obtain ⟨rfl, rfl⟩ := one_ok hq; omega
        · obtain ⟨rfl, rfl⟩ := one_ok hq; omega
      split at hq
      · unfold signS at hq
        split at hq
        · split at hq
          · split at hq
            · split at hq
              · obtain ⟨a, j, e1, e2⟩ := then_ok hq
                have := (h _ _ _ _ _ e1).1
                obtain ⟨rfl, rfl⟩ := one_ok e2; omega
              · cases hq
            · cases hq
          · obtain ⟨a, j, e1, e2⟩ := then_ok hq
            have := (h _ _ _ _ _ e1).1
            obtain ⟨rfl, rfl⟩ := one_ok e2; omega
        · split at hq
          · obtain ⟨rfl, rfl⟩ := one_ok hq; omega
          split at hq
          · obtain ⟨rfl, rfl⟩ := one_ok hq; omega
          split at hq
          · obtain ⟨a, j, e1, e2⟩ := then_ok hq
            have := (h _ _ _ _ _ e1).1
            obtain ⟨rfl, rfl⟩ := one_ok (need_i e2); omega
          split at hq
          · obtain ⟨a, j, e1, e2⟩ := then_ok hq
            obtain ⟨b, j2, e3, e4⟩ := then_ok (need_i e2)
            obtain ⟨c, j3, e5, e6⟩ := then_ok (need_i e4)
            have := (h _ _ _ _ _ e1).1
            have := (h _ _ _ _ _ e3).1
            have := (h _ _ _ _ _ e5).1
            obtain ⟨rfl, rfl⟩ := one_ok e6; omega
          · cases hq
      · cases hq
  | loop n a =>
    simp only [stepP] at hq
    split at hq
    · obtain ⟨rfl, rfl⟩ := one_ok hq; exact ⟨Nat.le_refl _, Nat.le_refl _⟩
    · rename_i op sw _
      obtain ⟨b, j, e1, e2⟩ := then_ok hq
      have h1 := (h _ _ _ _ _ e1).1
      have hs : a.size ≤ (node op 0 noS (if sw then b.app a else a.app b)).size := by cases sw <;> simp [node, Fo.size, Fo.size_app] <;> omega
      split at e2
      · obtain ⟨rfl, rfl⟩ := one_ok e2
        refine ⟨by omega, ?_⟩
        simp only [Tag.have_, cat, Fo.app_no, List.length_singleton]; omega
      · obtain ⟨h2, h3⟩ := h _ _ _ _ _ e2
        refine ⟨by omega, ?_⟩
        simp only [Tag.have_, cat, Fo.app_no, List.length_singleton] at h3 ⊢; omega
  | args l0 =>
    simp only [stepP] at hq
    obtain ⟨a, j, e1, e2⟩ := then_ok hq
    have h1 := (h _ _ _ _ _ e1).1
    split at e2
    · cases e2
      refine ⟨by omega, ?_⟩
      simp only [Tag.have_, cat_snoc, Fo.size_app, List.length_append, List.length_singleton]; omega
    split at e2
    · obtain ⟨h2, h3⟩ := h _ _ _ _ _ e2
      refine ⟨by omega, ?_⟩
      simp only [Tag.have_, cat_snoc, Fo.size_app, List.length_append, List.length_singleton] at h3 ⊢; omega
    · cases e2
theorem P_lb (L : List Tok) : ∀ f, LbO (P L f)
  | 0 => fun _ _ _ _ _ h => by cases h
  | f + 1 => step_lb (P_lb L f)
end Px
end Go.Proofs.YtahalimekacliaaGreatDoor
namespace Go.Proofs.YtahalimekacliaaGreatDoor
namespace Px
open Tx
theorem parse_of {L : List Tok} {f i j : Nat} {F : Fo} (h : P L f (.bin 0) i 0 = some (.ok ([F], j))) (h1 : F.size ≤ 5000) (h2 : F.depth ≤ 40) : parse L f i = some (.ok (F, j)) := by
  unfold parse; rw [h]; simp only
  rw [if_neg (by omega), if_neg (by omega)]
end Px
end Go.Proofs.YtahalimekacliaaGreatDoor
namespace Go.Proofs.YtahalimekacliaaGreatDoor
namespace Px
open Tx
def LocO (L L' : List Tok) (d : Nat) (p p' : Orc) : Prop := ∀ g I o l j, p g I o = some (.ok (l, j)) → LocT L L' d I j → p' g (d + I) o = some (.ok (l, d + j))
theorem then_of {r : Option Res} {f : Fo → Nat → Option Res} {a : Fo} {i : Nat} (h : r = some (.ok ([a], i))) : thenE r f = f a i := by rw [h]; rfl
theorem sign_loc {L L' : List Tok} {d : Nat} {p p' : Orc} (hp : LocO L L' d p p') (hlb : LbO p) {s : ByteArray} {I o j : Nat} {l : List Fo} (hq : signS p L s I o = some (.ok (l, j))) (h : LocT L L' d I j) : signS p' L' s (d + I) o = some (.ok (l, d + j)) := by
  have hd : ∀ m, d + I + m = d + (I + m) := fun m => by omega
  unfold signS at hq ⊢
  split at hq
  · rename_i op hop
    split at hq
    · rename_i h25
      rw [if_pos h25]
      split at hq
      · rename_i u hu
        split at hq
        · rename_i h4
          obtain ⟨a, k, e1, e2⟩ := then_ok hq
          obtain ⟨rfl, rfl⟩ := one_ok e2
          have hb := (hlb _ _ _ _ _ e1).1
          obtain ⟨u', h1, h2, h3⟩ := kt_some (h (I + 1) (by omega) (by omega)) hu
          rw [hd 1, h1]
          simp only [h2, h3]
          rw [if_pos h4, hd 2, then_of (hp _ _ _ _ _ e1 (h.mono (by omega) (Nat.le_refl _)))]
          rfl
        · cases hq
      · cases hq
    · rename_i h25
      rw [if_neg h25]
      obtain ⟨a, k, e1, e2⟩ := then_ok hq
      obtain ⟨rfl, rfl⟩ := one_ok e2
      rw [hd 1, then_of (hp _ _ _ _ _ e1 (h.mono (by omega) (Nat.le_refl _)))]
      rfl
  · split at hq
    · rename_i h1; rw [if_pos h1]; obtain ⟨rfl, rfl⟩ := one_ok hq; rfl
    rename_i h1; rw [if_neg h1]
    split at hq
    · rename_i h1; rw [if_pos h1]; obtain ⟨rfl, rfl⟩ := one_ok hq; rfl
    rename_i h1; rw [if_neg h1]
    split at hq
    · rename_i h1; rw [if_pos h1]
      obtain ⟨a, k, e1, e2⟩ := then_ok hq
      obtain ⟨e3, e4⟩ := need_ok e2
      obtain ⟨rfl, rfl⟩ := one_ok e4
      have hb := (hlb _ _ _ _ _ e1).1
      rw [hd 1, then_of (hp _ _ _ _ _ e1 (h.mono (by omega) (by omega)))]
      exact h.need (by omega) (by omega) e3 rfl
    rename_i h1; rw [if_neg h1]
    split at hq
    · rename_i h1; rw [if_pos h1]
      obtain ⟨a, k, e1, e2⟩ := then_ok hq
      obtain ⟨e3, e4⟩ := need_ok e2
      obtain ⟨b, k2, e5, e6⟩ := then_ok e4
      obtain ⟨e7, e8⟩ := need_ok e6
      obtain ⟨c, k3, e9, e10⟩ := then_ok e8
      obtain ⟨rfl, rfl⟩ := one_ok e10
      have b1 := (hlb _ _ _ _ _ e1).1
      have b2 := (hlb _ _ _ _ _ e5).1
      have b3 := (hlb _ _ _ _ _ e9).1
      rw [hd 1, then_of (hp _ _ _ _ _ e1 (h.mono (by omega) (by omega)))]
      refine h.need (by omega) (by omega) e3 ?_
      rw [then_of (hp _ _ _ _ _ e5 (h.mono (by omega) (by omega)))]
      refine h.need (by omega) (by omega) e7 ?_
      rw [then_of (hp _ _ _ _ _ e9 (h.mono (by omega) (by omega)))]
      rfl
    · cases hq
theorem operand_loc {L L' : List Tok} {d : Nat} {p p' : Orc} (hp : LocO L L' d p p') (hlb : LbO p) {I o j : Nat} {l : List Fo} (hq : operandS p L I o = some (.ok (l, j))) (h : LocT L L' d I j) : operandS p' L' (d + I) o = some (.ok (l, d + j)) := by
  have hd : ∀ m, d + I + m = d + (I + m) := fun m => by omega
  unfold operandS at hq ⊢
  split at hq
  · cases hq
  rename_i h200
  rw [if_neg h200]
  split at hq
  · cases hq
  rename_i t ht
  have hIj : I ≤ j := by
    split at hq
    · obtain ⟨rfl, rfl⟩ := one_ok hq; omega
    split at hq
    · split at hq
      · split at hq
        · obtain ⟨rfl, rfl⟩ := one_ok hq; omega
        · unfold callS at hq
          split at hq
          · cases hq
          · cases hq
          · rename_i m k hr
            have := (hlb _ _ _ _ _ hr).1
            obtain ⟨rfl, rfl⟩ := one_ok hq; omega
      · obtain ⟨rfl, rfl⟩ := one_ok hq; omega
    split at hq
    · unfold signS at hq
      split at hq
      · split at hq
        · split at hq
          · split at hq
            · obtain ⟨a, k, e1, e2⟩ := then_ok hq
              have := (hlb _ _ _ _ _ e1).1
              obtain ⟨rfl, rfl⟩ := one_ok e2; omega
            · cases hq
          · cases hq
        · obtain ⟨a, k, e1, e2⟩ := then_ok hq
          have := (hlb _ _ _ _ _ e1).1
          obtain ⟨rfl, rfl⟩ := one_ok e2; omega
      · split at hq
        · obtain ⟨rfl, rfl⟩ := one_ok hq; omega
        split at hq
        · obtain ⟨rfl, rfl⟩ := one_ok hq; omega
        split at hq
        · obtain ⟨a, k, e1, e2⟩ := then_ok hq
          have := (hlb _ _ _ _ _ e1).1
          obtain ⟨rfl, rfl⟩ := one_ok (need_i e2); omega
        split at hq
        · obtain ⟨a, k, e1, e2⟩ := then_ok hq
          have := (hlb _ _ _ _ _ e1).1
          obtain ⟨b, k2, e5, e6⟩ := then_ok (need_i e2)
          have := (hlb _ _ _ _ _ e5).1
          obtain ⟨c, k3, e9, e10⟩ := then_ok (need_i e6)
          have := (hlb _ _ _ _ _ e9).1
          obtain ⟨rfl, rfl⟩ := one_ok e10; omega
        · cases hq
    · cases hq
  obtain ⟨t', h1, h2, h3⟩ := kt_some (h I (Nat.le_refl _) hIj) ht
  rw [h1]
  simp only [h2, h3]
  split at hq
  · rename_i h4; rw [if_pos h4]; obtain ⟨rfl, rfl⟩ := one_ok hq; rfl
  rename_i h4; rw [if_neg h4]
  split at hq
  · rename_i h5; rw [if_pos h5]
    split at hq
    · rename_i h6
      split at hq
      · rename_i h7
        obtain ⟨rfl, rfl⟩ := one_ok hq
        rw [hd 1, h.isT (by omega) (by omega), if_pos h6, hd 2, h.isT (by omega) (by omega), if_pos h7]
        rfl
      · rename_i h7
        have hq0 := hq
        unfold callS at hq
        split at hq
        · cases hq
        · cases hq
        · rename_i m k hr
          have hb := (hlb _ _ _ _ _ hr).1
          obtain ⟨rfl, rfl⟩ := one_ok hq
          rw [hd 1, h.isT (by omega) (by omega), if_pos h6, hd 2, h.isT (by omega) (by omega), if_neg h7, hp _ _ _ _ _ hr (h.mono (by omega) (Nat.le_refl _))]
          rfl
    · rename_i h6
      obtain ⟨rfl, rfl⟩ := one_ok hq
      rw [hd 1, h.isT (by omega) (by omega), if_neg h6]
      rfl
  rename_i h5; rw [if_neg h5]
  split at hq
  · rename_i h6; rw [if_pos h6]; exact sign_loc hp hlb hq h
  · cases hq
theorem step_loc {L L' : List Tok} {d : Nat} {p p' : Orc} (hp : LocO L L' d p p') (hlb : LbO p) : LocO L L' d (stepP L p) (stepP L' p') := by
  intro g I o l j hq h
  cases g with
  | bin n =>
    simp only [stepP] at hq ⊢
    split at hq
    · rename_i hn
      rw [if_pos hn]
      obtain ⟨a, k, e1, e2⟩ := then_ok hq
      have b1 := (hlb _ _ _ _ _ e1).1
      have b2 := (hlb _ _ _ _ _ e2).1
      rw [then_of (hp _ _ _ _ _ e1 (h.mono (Nat.le_refl _) b2))]
      exact hp _ _ _ _ _ e2 (h.mono b1 (Nat.le_refl _))
    · rename_i hn
      rw [if_neg hn]
      exact operand_loc hp hlb hq h
  | loop n a =>
    simp only [stepP] at hq ⊢
    split at hq
    · rename_i h1
      obtain ⟨rfl, rfl⟩ := one_ok hq
      rw [h.here (Nat.le_refl _) (Nat.le_refl _), h1]
      rfl
    · rename_i op sw hop
      obtain ⟨b, k, e1, e2⟩ := then_ok hq
      have b1 := (hlb _ _ _ _ _ e1).1
      have b2 : k ≤ j := by
        split at e2
        · obtain ⟨-, rfl⟩ := one_ok e2; omega
        · exact (hlb _ _ _ _ _ e2).1
      rw [h.here (Nat.le_refl _) (by omega), hop]
      simp only
      rw [show d + I + 1 = d + (I + 1) by omega, then_of (hp _ _ _ _ _ e1 (h.mono (by omega) b2))]
      split at e2
      · rename_i h1
        obtain ⟨rfl, rfl⟩ := one_ok e2
        rw [if_pos h1]; rfl
      · rename_i h1
        rw [if_neg h1]
        exact hp _ _ _ _ _ e2 (h.mono (by omega) (Nat.le_refl _))
  | args l0 =>
    simp only [stepP] at hq ⊢
    obtain ⟨a, k, e1, e2⟩ := then_ok hq
    have b1 := (hlb _ _ _ _ _ e1).1
    have b2 : k ≤ j := by
      split at e2
      · cases e2; omega
      split at e2
      · have := (hlb _ _ _ _ _ e2).1; omega
      · cases e2
    rw [then_of (hp _ _ _ _ _ e1 (h.mono (Nat.le_refl _) b2)), h.isT b1 b2, h.isT b1 b2]
    split at e2
    · rename_i h1
      rw [if_pos h1]
      cases e2
      simp only [Nat.add_assoc]
    rename_i h1
    rw [if_neg h1]
    split at e2
    · rename_i h2
      rw [if_pos h2, Nat.add_assoc]
      exact hp _ _ _ _ _ e2 (h.mono (by omega) (Nat.le_refl _))
    · cases e2
theorem P_loc (L L' : List Tok) (d : Nat) : ∀ f, LocO L L' d (P L f) (P L' f)
  | 0 => fun _ _ _ _ _ h _ => by cases h
  | f + 1 => step_loc (P_loc L L' d f) (P_lb L f)
theorem ParR.loc {L L' : List Tok} {d i j : Nat} {F : Fo} (h : ParR L i (.ok (F, j))) (hl : LocT L L' d i j) : ParR L' (d + i) (.ok (F, d + j)) := by
  obtain ⟨f, hf⟩ := h
  obtain ⟨h1, h2, h3⟩ := parse_ok hf
  exact ⟨f, parse_of (P_loc L L' d f _ _ _ _ _ h1 hl) h2 h3⟩
section
variable {L L' : List Tok}
end
end Px
end Go.Proofs.YtahalimekacliaaGreatDoor
namespace Go.Proofs.YtahalimekacliaaGreatDoor
namespace Gx
open Tx Px
section
variable {L L' : List Tok} {d : Nat} {α β : Type}
theorem loc_lox {i j : Nat} (h : LocT L L' d i j) : Lox L L' d i j := fun m h1 h2 => h m h1 (by omega)
theorem PX.weak {s t : Nat} {f f' : Nat → Rz α} (h : PX L L' d s f f') (hs : t ≤ s) : PX L L' d t f f' := fun i a j e => ⟨by have := (h i a j e).1; omega, (h i a j e).2⟩
theorem PX.pi {s : Nat} {f f' : Nat → Rz α} (h : PX L L' d s f f') : PI L L' d f f' := fun i a j e => ⟨by have := (h i a j e).1; omega, fun hl => (h i a j e).2 (loc_lox hl)⟩
theorem PI.bdX {t : Nat} {f f' : Nat → Rz α} {g g' : α → Nat → Rz β} (h : PI L L' d f f') (ht : 1 ≤ t) (hg : ∀ a, PX L L' d t (g a) (g' a)) : PX L L' d t (fun i => bd (f i) (g · ·)) (fun i => bd (f' i) (g' · ·)) := by
  intro i b j e
  obtain ⟨a, k, e1, e2⟩ := bd_ok e
  obtain ⟨h1, h2⟩ := h i a k e1
  obtain ⟨h3, h4⟩ := hg a k b j e2
  exact ⟨by omega, fun hl => by
    dsimp only
    rw [bd_of (h2 fun m a b => hl m a (by omega))]
    exact h4 fun m a b => hl m (by omega) b⟩
theorem PI.bdI {f f' : Nat → Rz α} {g g' : α → Nat → Rz β} (h : PI L L' d f f') (hg : ∀ a, PI L L' d (g a) (g' a)) : PI L L' d (fun i => bd (f i) (g · ·)) (fun i => bd (f' i) (g' · ·)) := by
  intro i b j e
  obtain ⟨a, k, e1, e2⟩ := bd_ok e
  obtain ⟨h1, h2⟩ := h i a k e1
  obtain ⟨h3, h4⟩ := hg a k b j e2
  exact ⟨by omega, fun hl => by
    dsimp only
    rw [bd_of (h2 fun m a b => hl m a (by omega))]
    exact h4 fun m a b => hl m (by omega) b⟩
theorem ret_x (a : α) : PX L L' d 0 (fun i => rt a i) (fun i => rt a i) := fun i b j e => by
  obtain ⟨rfl, rfl⟩ := rt_ok e; exact ⟨by omega, fun _ => rfl⟩
theorem if_x {c c' : Nat → Bool} (hc : ∀ m m', (L[m]?).map kt = (L'[m']?).map kt → c' m' = c m) {s : Nat} (hs : 1 ≤ s) {f f' g g' : Nat → Rz α} (hf : PX L L' d s f f') (hg : PX L L' d s g g') :
    PX L L' d s (fun i => if c i = true then f i else g i) (fun i => if c' i = true then f' i else g' i) := by
  intro i b j e
  dsimp only at e ⊢
  split at e
  · rename_i h1
    obtain ⟨h2, h3⟩ := hf i b j e
    exact ⟨h2, fun hl => by rw [hc _ _ (hl i (Nat.le_refl _) (by omega)), if_pos h1]; exact h3 hl⟩
  · rename_i h1
    obtain ⟨h2, h3⟩ := hg i b j e
    exact ⟨h2, fun hl => by rw [hc _ _ (hl i (Nat.le_refl _) (by omega)), if_neg h1]; exact h3 hl⟩
theorem if_i {c c' : Nat → Bool} (hc : ∀ m m', (L[m]?).map kt = (L'[m']?).map kt → c' m' = c m) {f f' g g' : Nat → Rz α} (hf : PI L L' d f f') (hg : PI L L' d g g') :
    PI L L' d (fun i => if c i = true then f i else g i) (fun i => if c' i = true then f' i else g' i) := by
  intro i b j e
  dsimp only at e ⊢
  split at e
  · rename_i h1
    obtain ⟨h2, h3⟩ := hf i b j e
    exact ⟨h2, fun hl => by rw [hc _ _ (hl i (Nat.le_refl _) (by omega)), if_pos h1]; exact h3 hl⟩
  · rename_i h1
    obtain ⟨h2, h3⟩ := hg i b j e
    exact ⟨h2, fun hl => by rw [hc _ _ (hl i (Nat.le_refl _) (by omega)), if_neg h1]; exact h3 hl⟩
theorem er_x (c : Int) (s : Nat) (g' : Nat → Rz α) : PX L L' d s (fun i => er L c i) g' := fun i b j e => (er_ok e).elim
theorem nd_x (s : ByteArray) : PX L L' d 1 (nd L s) (nd L' s) :=
  if_x (fun m m' h => kt_isT h s) (Nat.le_refl _) ((ret_x PUnit.unit).next) (er_x 5 1 _)
theorem name_x : PX L L' d 1 (nameS L) (nameS L') := by
  intro i b j e
  unfold nameS at e
  cases h1 : L[i]? with
  | none => rw [h1] at e; cases e
  | some t =>
    rw [h1] at e
    simp only at e
    split at e
    · rename_i hk
      obtain ⟨rfl, rfl⟩ := rt_ok e
      refine ⟨Nat.le_refl _, fun hl => ?_⟩
      obtain ⟨t', h2, h3, h4⟩ := kt_some (hl i (Nat.le_refl _) (by omega)) h1
      unfold nameS
      rw [h2]
      simp only [h3, h4, hk, if_true]
      rfl
    · cases e
theorem ty_x : PX L L' d 1 (tyS L) (tyS L') :=
  if_x (fun m m' h => kt_isT h _) (Nat.le_refl _) ((ret_x (1 : Int)).next) (if_x (fun m m' h => kt_isT h _) (Nat.le_refl _) ((ret_x (2 : Int)).next) (er_x 5 1 _))
theorem param_x : PX L L' d 1 (paramS L) (paramS L') :=
  PX.weak (name_x.bd_ fun n => (nd_x tColon).bd_ fun _ => ty_x.bd_ fun t => ret_x (⟨n, t⟩ : Pm)) (by omega)
theorem loop_i {one one' : Nat → Rz (α × Bool)} (h : PI L L' d one one') : ∀ k acc, PI L L' d (loopS L one k acc) (loopS L' one' k acc)
  | 0, _ => (er_x 7 0 _).pi
  | k + 1, acc => h.bdI fun x i b j e => by
    split at e
    · rename_i hx
      rw [if_pos hx]; exact loop_i h k _ i b j e
    · rename_i hx
      rw [if_neg hx]; obtain ⟨rfl, rfl⟩ := rt_ok e; exact ⟨Nat.le_refl _, fun _ => rfl⟩
theorem loop_x {one one' : Nat → Rz (α × Bool)} (h : PX L L' d 1 one one') : ∀ k acc, PX L L' d 1 (loopS L one k acc) (loopS L' one' k acc)
  | 0, _ => er_x 7 1 _
  | k + 1, acc => PX.weak (h.bd_ (t := 0) fun x i b j e => by
    split at e
    · rename_i hx
      rw [if_pos hx]; exact (loop_x h k _).weak (Nat.zero_le _) i b j e
    · rename_i hx
      rw [if_neg hx]; obtain ⟨rfl, rfl⟩ := rt_ok e; exact ⟨by omega, fun _ => rfl⟩) (by omega)
theorem sep_x {one one' : Nat → Rz α} (h : PI L L' d one one') (s : ByteArray) : PX L L' d 1 (sepS L one s) (sepS L' one' s) :=
  h.bdX (Nat.le_refl _) fun x => if_x (fun m m' h => kt_isT h _) (Nat.le_refl _) ((ret_x (x, false)).next) (PX.weak ((nd_x s).bd_ fun _ => ret_x (x, true)) (by omega))
theorem between_x {one one' : Nat → Rz α} (h : PI L L' d one one') (s : ByteArray) : PX L L' d 1 (betweenS L one s) (betweenS L' one' s) :=
  PX.weak ((nd_x tLpar).bd_ fun _ => if_x (fun m m' h => kt_isT h _) (Nat.le_refl _) ((ret_x ([] : List α)).next) (loop_x (sep_x h s) 200 [])) (by omega)
theorem on_i {one one' : Nat → Rz α} {on on' : Nat → Bool} (h : PI L L' d one one') (hc : ∀ m m', (L[m]?).map kt = (L'[m']?).map kt → on' m' = on m) : PI L L' d (onS one on) (onS one' on') :=
  h.bdI fun x i b j e => by
    obtain ⟨rfl, rfl⟩ := rt_ok e
    exact ⟨Nat.le_refl _, fun hl => by rw [hc _ _ (hl j (Nat.le_refl _) (Nat.le_refl _))]; rfl⟩
theorem many_i {one one' : Nat → Rz α} {on on' : Nat → Bool} (h : PI L L' d one one') (hc : ∀ m m', (L[m]?).map kt = (L'[m']?).map kt → on' m' = on m) : PI L L' d (manyS L one on) (manyS L' one' on') :=
  if_i hc (loop_i (on_i h hc) 200 []) (ret_x ([] : List α)).pi
variable {X X' : XO}
theorem par_mono {i j : Nat} {F : Fo} (h : ParR L i (.ok (F, j))) : i ≤ j := by
  obtain ⟨f, hf⟩ := h
  exact (P_lb L f _ _ _ _ _ (parse_ok hf).1).1
theorem expr_i (hX : XAll L X) (hX' : XAll L' X') : PI L L' d (exprS X) (exprS X') := by
  intro i b j e
  unfold exprS at e
  split at e
  · cases e
  · rename_i F k hk
    obtain ⟨rfl, rfl⟩ := rt_ok e
    have h1 := hX i
    rw [hk] at h1
    refine ⟨par_mono h1, fun hl => ?_⟩
    unfold exprS
    rw [ParR.one (hX' (d + i)) (h1.loc hl)]
    rfl
theorem semi_x (a : α) : PX L L' d 1 (fun i => bd (nd L tSemi i) fun _ i => rt a i) (fun i => bd (nd L' tSemi i) fun _ i => rt a i) := (nd_x tSemi).bd_ fun _ => ret_x a
theorem item_x (hX : XAll L X) (hX' : XAll L' X') : PX L L' d 1 (itemS L X) (itemS L' X') := by
  have hE := expr_i (d := d) hX hX'
  refine if_x (fun m m' h => kt_isT h _) (Nat.le_refl _) ?_ (if_x (fun m m' h => kt_isT h _) (Nat.le_refl _) ?_ (if_x (fun m m' h => kt_isT h _) (Nat.le_refl _) ?_ (if_x (fun m m' h => kt_isT h _) (Nat.le_refl _) ?_ ?_)))
  · exact PX.weak (PX.next (hE.bdX (Nat.le_refl _) fun e => semi_x (⟨1, noS, 0, e, [], []⟩ : Im))) (by omega)
  · exact PX.weak (PX.next (hE.bdX (Nat.le_refl _) fun e => semi_x (⟨2, noS, 0, e, [], []⟩ : Im))) (by omega)
  · exact PX.weak (PX.next (param_x.bd_ fun p => (nd_x tEq).bd_ fun _ => hE.bdX (Nat.le_refl _) fun e => semi_x (⟨3, p.name, p.ty, e, [], []⟩ : Im))) (by omega)
  · exact PX.weak (PX.next (name_x.bd_ fun n => (nd_x tRequire).bd_ fun _ => hE.bdX (by omega) fun e => (nd_x tEnsure).bd_ fun _ => hE.bdX (Nat.le_refl _) fun f => semi_x (⟨4, n, 0, e, f, []⟩ : Im))) (by omega)
  · exact PX.weak (PX.next (name_x.bd_ fun n => (between_x hE tComma).bd_ fun l => semi_x (⟨5, n, 0, [], [], l⟩ : Im))) (by omega)
theorem items_x (hX : XAll L X) (hX' : XAll L' X') : PX L L' d 1 (itemsS L X) (itemsS L' X') :=
  (many_i (item_x hX hX').pi (fun m m' h => isItem_kt h)).bdX (Nat.le_refl _) fun l => PX.weak ((nd_x tEnd).bd_ fun _ => ret_x l) (by omega)
theorem eq_x (hX : XAll L X) (hX' : XAll L' X') : PX L L' d 1 (eqS L X) (eqS L' X') :=
  PX.weak (name_x.bd_ fun n => (nd_x tEq).bd_ fun _ => (expr_i hX hX').bdX (Nat.le_refl _) fun e => semi_x (⟨n, e⟩ : Eqn)) (by omega)
theorem var_i : PI L L' d (varS L) (varS L') :=
  param_x.pi.bdI fun p => (nd_x tSemi).pi.bdI fun _ i b j e => by
    obtain ⟨rfl, rfl⟩ := rt_ok e
    exact ⟨Nat.le_refl _, fun hl => by rw [named_kt (hl j (Nat.le_refl _) (Nat.le_refl _))]; rfl⟩
theorem vars_i : PI L L' d (varsS L) (varsS L') := loop_i var_i 200 []
theorem opt_i {f f' : Nat → Rz (List α)} (h : PI L L' d f f') (s : ByteArray) : PI L L' d (optS L s f) (optS L' s f') :=
  if_i (fun m m' h => kt_isT h _) h.next (ret_x ([] : List α)).pi
theorem eqs_x (hX : XAll L X) (hX' : XAll L' X') : PX L L' d 1 (eqsS L X) (eqsS L' X') :=
  (many_i (eq_x hX hX').pi (fun m m' h => named_kt h)).bdX (Nat.le_refl _) fun l => PX.weak ((nd_x tTel).bd_ fun _ => ret_x l) (by omega)
theorem head_x : PX L L' d 1 (headS L) (headS L') :=
  PX.weak (name_x.bd_ fun n => (between_x param_x.pi tSemi).bd_ fun l => (nd_x tReturns).bd_ fun _ => (nd_x tLpar).bd_ fun _ => param_x.bd_ fun o => (nd_x tRpar).bd_ fun _ => ret_x (n, l, o)) (by omega)
theorem con_x (hX : XAll L X) (hX' : XAll L' X') : PX L L' d 1 (conS L X) (conS L' X') :=
  PX.weak (name_x.bd_ fun n => (between_x param_x.pi tSemi).bd_ fun l => (items_x hX hX').bd_ fun x => ret_x (⟨true, n, l, ⟨noS, 0⟩, [], [], x⟩ : Un)) (by omega)
theorem node_x (hX : XAll L X) (hX' : XAll L' X') : PX L L' d 1 (nodeS L X) (nodeS L' X') :=
  PX.weak (head_x.bd_ (t := 1) fun h => (opt_i (items_x hX hX').pi tContract).bdX (Nat.le_refl _) fun x => (opt_i vars_i tVar).bdX (Nat.le_refl _) fun v => PX.weak ((nd_x tLet).bd_ fun _ => (eqs_x hX hX').bd_ fun q => ret_x (⟨false, h.1, h.2.1, h.2.2, v, q, x⟩ : Un)) (by omega)) (by omega)
theorem unit_x (hX : XAll L X) (hX' : XAll L' X') : PX L L' d 1 (unitS L X) (unitS L' X') :=
  if_x (fun m m' h => kt_isT h _) (Nat.le_refl _) (PX.weak (con_x hX hX').next (by omega)) (PX.weak ((nd_x tNode).bd_ fun _ => node_x hX hX') (by omega))
theorem nd_yes {s : ByteArray} {i : Nat} (h : isT L i s = true) : nd L s i = .ok (⟨⟩, i + 1) := by unfold nd; rw [if_pos h]; rfl
theorem nd_no {s : ByteArray} {i : Nat} (h : isT L i s = false) : nd L s i = .error (5, atP L i) := by unfold nd; rw [h]; rfl
theorem name_of {i : Nat} {t : Tok} (h : L[i]? = some t) (hk : t.k = 1) : nameS L i = .ok (t.t, i + 1) := by unfold nameS; rw [h]; simp only [hk, if_true]; rfl
theorem isT_at_no {i : Nat} {t : Tok} {s : ByteArray} (h : L[i]? = some t) (ht : t.t ≠ s) : isT L i s = false := by
  unfold isT hereT; rw [h]; simp only [decide_eq_false_iff_not]; split
  · simpa using ht
  · simp
theorem isT_out {i : Nat} {s : ByteArray} (h : L.length ≤ i) : isT L i s = false := by
  unfold isT hereT; rw [List.getElem?_eq_none h]; simp
theorem atP_out {i : Nat} (h : L.length ≤ i) : atP L i = -1 := by unfold atP; rw [List.getElem?_eq_none h]
theorem prog_short {p : Pg} (hX : XAll L X) (hX' : XAll (L.take (L.length - 1)) X') (h : progS L X = .ok p) : progS (L.take (L.length - 1)) X' = .error (5, -1) := by
  obtain ⟨k, h1, ht⟩ := prog_ok h
  have hk := tail_lt ht
  have hloc : ∀ m, m < L.length - 1 → (L[m]?).map kt = ((L.take (L.length - 1))[m]?).map kt := fun m hm => by rw [List.getElem?_take, if_pos hm]
  have h2 := (many_i (d := 0) (unit_x hX hX').pi (fun m m' h => isUnit_kt h) 0 _ k h1).2 (fun m _ hm => by rw [Nat.zero_add]; exact hloc m (by omega))
  simp only [Nat.zero_add] at h2
  have hlen : (L.take (L.length - 1)).length = L.length - 1 := by rw [List.length_take]; omega
  generalize hL' : L.take (L.length - 1) = L' at *
  have ha : tailS L' k = .error (5, -1) := by
    obtain ⟨t, g1, g2, g3⟩ := ht.name
    obtain ⟨t', g4, g5, g6⟩ := kt_some (hloc (k + 1) (by omega)) g1
    unfold tailS
    rw [bd_of (nd_yes (by rw [kt_isT (hloc k (by omega))]; exact ht.main)), bd_of (name_of g4 (by omega))]
    rcases ht.back with ⟨e1, _⟩ | ⟨e1, ⟨t2, e2, e3, e4⟩, e5, e6⟩
    · rw [nd_no (isT_out (by omega)), atP_out (by omega)]; rfl
    · obtain ⟨t3, g7, g8, g9⟩ := kt_some (hloc (k + 4) (by omega)) e2
      rw [bd_of (nd_yes (by rw [show k + 1 + 1 = k + 2 by omega, kt_isT (hloc (k + 2) (by omega))]; exact ht.semi))]
      have h4 : backS L' (k + 1 + 1 + 1) = .error (5, -1) := by
        unfold backS
        rw [show k + 1 + 1 + 1 = k + 3 by omega, kt_isT (hloc (k + 3) (by omega)), if_pos e1, show k + 3 + 1 = k + 4 by omega, bd_of (name_of g7 (by omega)), nd_no (isT_out (by omega)), atP_out (by omega)]; rfl
      rw [h4]; rfl
  unfold progS progZ
  rw [bd_of h2, ha]; rfl
theorem get_app {A B : List Tok} {m : Nat} (h : m < A.length) : (A ++ B)[m]? = A[m]? := List.getElem?_append_left h
theorem prog_long {p : Pg} {t : Tok} (ht : t.t = tSemi) (hX : XAll L X) (hX' : XAll (L ++ [t]) X') (h : progS L X = .ok p) : progS (L ++ [t]) X' = .error (5, t.p) := by
  obtain ⟨k, h1, hT⟩ := prog_ok h
  have hk := tail_lt hT
  have hloc : ∀ m, m < L.length → (L[m]?).map kt = ((L ++ [t])[m]?).map kt := fun m hm => by rw [get_app hm]
  have hend : (L ++ [t])[L.length]? = some t := by simp
  have hlen : (L ++ [t]).length = L.length + 1 := by simp
  have h2 := (many_i (d := 0) (unit_x hX hX').pi (fun m m' h => isUnit_kt h) 0 _ k h1).2 (fun m _ hm => by rw [Nat.zero_add]; exact hloc m (by omega))
  simp only [Nat.zero_add] at h2
  generalize hL' : L ++ [t] = L' at *
  have hat : atP L' L.length = t.p := by unfold atP; rw [hend]
  have ha : tailS L' k = .error (5, t.p) := by
    obtain ⟨t1, g1, g2, g3⟩ := hT.name
    obtain ⟨t', g4, g5, g6⟩ := kt_some (hloc (k + 1) (by omega)) g1
    unfold tailS
    rw [bd_of (nd_yes (by rw [kt_isT (hloc k (by omega))]; exact hT.main)), bd_of (name_of g4 (by omega)), bd_of (nd_yes (by rw [show k + 1 + 1 = k + 2 by omega, kt_isT (hloc (k + 2) (by omega))]; exact hT.semi))]
    rcases hT.back with ⟨e1, _⟩ | ⟨e1, ⟨t2, e2, e3, e4⟩, e5, e6⟩
    · have h4 : backS L' (k + 1 + 1 + 1) = .ok (noS, k + 3) := by
        unfold backS
        rw [show k + 1 + 1 + 1 = k + 3 by omega, isT_at_no (t := t) (by rw [← e1]; exact hend) (by rw [ht]; decide)]; rfl
      rw [bd_of h4, if_pos (by omega), ← e1]
      unfold er; rw [hat]
    · obtain ⟨t3, g7, g8, g9⟩ := kt_some (hloc (k + 4) (by omega)) e2
      have h4 : backS L' (k + 1 + 1 + 1) = .ok (t3.t, k + 6) := by
        unfold backS
        rw [show k + 1 + 1 + 1 = k + 3 by omega, kt_isT (hloc (k + 3) (by omega)), if_pos e1, show k + 3 + 1 = k + 4 by omega, bd_of (name_of g7 (by omega)), bd_of (nd_yes (by rw [show k + 4 + 1 = k + 5 by omega, kt_isT (hloc (k + 5) (by omega))]; exact e5))]; rfl
      rw [bd_of h4, if_pos (by omega), ← e6]
      unfold er; rw [hat]
  unfold progS progZ
  rw [bd_of h2, ha]; rfl
end
end Gx
end Go.Proofs.YtahalimekacliaaGreatDoor
namespace Go.Proofs.YtahalimekacliaaGreatDoor
open Go.RowKit Go.Shelf
namespace Lx
end Lx
theorem ret_string {a b : ByteArray} (h : a = b) : Ending.returned (.string a) = .returned (.string b) := by rw [h]
end Go.Proofs.YtahalimekacliaaGreatDoor
namespace Go.Proofs.YtahalimekacliaaGreatDoor.Fx
def joinW : List Bs → Bs
  | [] => []
  | [w] => w
  | w :: l => w ++ 32 :: joinW l
theorem join_snoc (l : List Bs) (w : Bs) : joinW (l ++ [w]) = if l = [] then w else joinW l ++ 32 :: w := by
  induction l with
  | nil => rfl
  | cons a l ih =>
    cases l with
    | nil => simp [joinW]
    | cons b l =>
      have e2 : ∀ m : List Bs, m ≠ [] → joinW (a :: m) = a ++ 32 :: joinW m := by
        intro m hm
        cases m with
        | nil => exact absurd rfl hm
        | cons _ _ => rfl
      show joinW (a :: ((b :: l) ++ [w])) = _
      rw [e2 _ (by simp), ih, if_neg (by simp), if_neg (by simp), e2 (b :: l) (by simp)]
      simp
theorem val_snoc (l : Bs) (c : UInt8) : val (l ++ [c]) = 10 * val l + (c.toNat - 48) := by simp [val, List.foldl_append]
end Go.Proofs.YtahalimekacliaaGreatDoor.Fx
namespace Go.Proofs.YtahalimekacliaaGreatDoor
open Go.RowKit Go.Shelf
def wordC (l : Lx.Bs) : Value := .string ⟨l.toArray⟩
theorem Words_any (w : World) : Calls Tryz.prog 72 #[] w fun e w' => ∃ b c, e = .returned (.slice (some ⟨b, 0, none⟩) 35 c) ∧ Below w.heap.size w w' ∧ ∀ j x, Lx.words[j]? = some x → w'.cell? ⟨b, j, none⟩ = some (wordC x) := by
  have hc : ∀ j x, Lx.words[j]? = some x → (w.alloc (.cells (Lx.words.map wordC).toArray 9)).cell? ⟨w.heap.size, j, none⟩ = some (wordC x) := by
    intro j x h
    rw [cell_of_row _ _ j _ _ _ (heap_alloc_new w _)]
    simp [h]
  go_enter Tryz.func72, Tryz.ntmps72
  go_wp2_with fail
  go_ret
  exact ⟨_, _, rfl, (Below.refl _ _).alloc (Nat.le_refl _) _, hc⟩
theorem Signs_any (w : World) : Calls Tryz.prog 48 #[] w fun e w' => ∃ b c, e = .returned (.slice (some ⟨b, 0, none⟩) 16 c) ∧ Below w.heap.size w w' ∧ ∀ j x, Lx.signs[j]? = some x → w'.cell? ⟨b, j, none⟩ = some (wordC x) := by
  have hc : ∀ j x, Lx.signs[j]? = some x → (w.alloc (.cells (Lx.signs.map wordC).toArray 9)).cell? ⟨w.heap.size, j, none⟩ = some (wordC x) := by
    intro j x h
    rw [cell_of_row _ _ j _ _ _ (heap_alloc_new w _)]
    simp [h]
  go_enter Tryz.func48, Tryz.ntmps48
  go_wp2_with fail
  go_ret
  exact ⟨_, _, rfl, (Below.refl _ _).alloc (Nat.le_refl _) _, hc⟩
theorem contains_take (l : List Lx.Bs) (k : Nat) (x s : Lx.Bs) (h : l[k]? = some x) : (l.take (k + 1)).contains s = ((l.take k).contains s || x == s) := by
  rw [List.take_add_one, h]
  simp only [Option.toList_some]
  rw [Bool.eq_iff_iff]
  simp only [List.contains_iff_mem, List.mem_append, List.mem_singleton, Bool.or_eq_true, beq_iff_eq]
  constructor
  · rintro (h | h)
    · exact Or.inl h
    · exact Or.inr h.symm
  · rintro (h | h)
    · exact Or.inl h
    · exact Or.inr h.symm
set_option maxHeartbeats 400000 in
theorem rIsWord_any (s : ByteArray) (w : World) :
    Calls Tryz.prog 46 #[.string s] w fun e w' => e = .returned (.bool (Lx.isWord s.data.toList)) ∧ Below w.heap.size w w' := by
  go_enter Tryz.func46, Tryz.ntmps46
  go_wp2_with fail
  refine (Words_any w).mono ?_
  rintro e w1 ⟨b, c, rfl, hb1, hc1⟩
  go_wp2_with fail
  go_loopw [4] (fun i wr => ∃ k : Nat, k ≤ 35 ∧ i = .int .i64 k ∧ (Lx.words.take k).contains s.data.toList = false ∧ wr = w1) (fun i _ => 35 - (intOf i).toNat)
  case atStart => exact ⟨0, Nat.zero_le _, rfl, rfl, rfl⟩
  case round =>
    obtain ⟨k, hk, rfl, hno, hB⟩ := hrel
    subst hB
    by_cases hlt : k < 35
    · obtain ⟨x, hx⟩ : ∃ x, Lx.words[k]? = some x := ⟨_, List.getElem?_eq_getElem hlt⟩
      have hc := hc1 k x hx
      unfold wordC at hc
      obtain ⟨y, hy⟩ : ∃ y : ByteArray, y = ⟨x.toArray⟩ := ⟨_, rfl⟩
      rw [← hy] at hc
      have hyl : y.data.toList = x := by rw [hy]
      have HT := contains_take Lx.words k x s.data.toList hx
      rw [hno, Bool.false_or] at HT
      have HW : Hid (x ∈ Lx.words) := List.mem_of_getElem? hx
      have hk2 : (k : Int) < 35 := by omega
      by_cases heq : y.toList = s.toList
      · have HF : Hid (Lx.isWord s.data.toList = true) := by
          show _ = _
          unfold Lx.isWord
          rw [List.contains_iff_mem, ← Lib.toList_data, ← heq, Lib.toList_data, hyl]; exact HW.out
        clear hc1 hx hy hyl HT hno
        go_wp2_with fail
        go_ret
        exact ⟨ret_bool HF.out.symm, hb1⟩
      · have HF : Hid ((Lx.words.take (k + 1)).contains s.data.toList = false) := by
          show _ = _
          rw [HT, beq_eq_false_iff_ne, ← hyl, ← Lib.toList_data, ← Lib.toList_data]; exact heq
        have hne : (y.toList == s.toList) = false := by simp [heq]
        clear hc1 hx hy hyl HT hno
        go_wp2_with fail
        go_roundw
        case rel => exact ⟨k + 1, by omega, by go_num, HF.out, by trivial⟩
        case measure => simp [intOf]; omega
    · have hke : k = 35 := by omega
      subst hke
      have HF : Hid (Lx.isWord s.data.toList = false) := hno
      clear hno hc1
      go_wp2_with fail
      go_ret
      exact ⟨ret_bool HF.out.symm, hb1⟩
theorem rdigit_any (c : UInt8) (w : World) :
    Calls Tryz.prog 27 #[.int .u8 c.toNat] w fun e w' => e = .returned (.bool (Lx.isDig c)) ∧ w' = w := by
  have h := digN_byte c
  unfold digN at h
  go_enter Tryz.func27, Tryz.ntmps27
  go_wp2_with fail
  all_goals
    go_ret
    exact ⟨ret_bool (by rw [← digN_byte, Bool.eq_iff_iff]; simp [digN]; omega), rfl⟩
theorem rletter_any (c : UInt8) (w : World) :
    Calls Tryz.prog 29 #[.int .u8 c.toNat] w fun e w' => e = .returned (.bool (Lx.isLet c)) ∧ w' = w := by
  by_cases h1 : (97 : Int) ≤ (c.toNat : Int)
  · by_cases h2 : (c.toNat : Int) ≤ 122
    · go_enter Tryz.func29, Tryz.ntmps29
      go_wp2_with fail
      all_goals
        go_ret
        exact ⟨ret_bool (by rw [← letN_byte, Bool.eq_iff_iff]; simp [letN]; omega), rfl⟩
    · go_enter Tryz.func29, Tryz.ntmps29
      go_wp2_with fail
      all_goals
        go_ret
        exact ⟨ret_bool (by rw [← letN_byte, Bool.eq_iff_iff]; simp [letN]; omega), rfl⟩
  · go_enter Tryz.func29, Tryz.ntmps29
    go_wp2_with fail
    all_goals
      go_ret
      exact ⟨ret_bool (by rw [← letN_byte, Bool.eq_iff_iff]; simp [letN]; omega), rfl⟩
end Go.Proofs.YtahalimekacliaaGreatDoor
namespace Go.Proofs.YtahalimekacliaaGreatDoor
open Go.RowKit Go.Shelf
namespace Lx
theorem let_not_dig {c : UInt8} (h : isLet c = true) : isDig c = false := by
  simp only [isLet, isDig, Bool.or_eq_true, Bool.and_eq_true, decide_eq_true_eq, beq_iff_eq, UInt8.le_iff_toNat_le] at h ⊢
  rw [Bool.eq_false_iff]
  simp only [ne_eq, Bool.and_eq_true, decide_eq_true_eq]
  rcases h with h | rfl
  · have h2 : (97 : UInt8).toNat = 97 := rfl
    have h3 : (57 : UInt8).toNat = 57 := rfl
    omega
  · decide
theorem name_ref {t : Bs} (h1 : t ≠ []) (h2 : t.length ≤ 40) (h3 : isLet (t.headD 0) = true) (h4 : isWord t = false) : isName t = t.all isPt := by
  unfold isName
  have e1 : t.isEmpty = false := by cases t with | nil => exact absurd rfl h1 | cons _ _ => rfl
  simp only [e1, decide_eq_true h2, let_not_dig h3, h4, Bool.not_false, Bool.true_and, Bool.and_true]
theorem name_ref_no {t : Bs} (h1 : t ≠ []) (h3 : isLet (t.headD 0) = false) : isName t = false := by
  cases t with
  | nil => exact absurd rfl h1
  | cons c r =>
    simp only [List.headD_cons] at h3
    unfold isName
    cases hd : isDig c <;> simp [isPt, h3, hd]
theorem all_take {p : UInt8 → Bool} (l : Bs) (k : Nat) (c : UInt8) (h : l[k]? = some c) : (l.take (k + 1)).all p = ((l.take k).all p && p c) := by
  rw [List.take_add_one, h]; simp [List.all_append]
theorem all_no {p : UInt8 → Bool} (l : Bs) (k : Nat) (c : UInt8) (h : l[k]? = some c) (hp : p c = false) : l.all p = false := by
  rw [Bool.eq_false_iff]; intro q
  have := List.all_eq_true.1 q c (List.mem_of_getElem? h)
  rw [hp] at this; cases this
theorem val_snoc (l : Bs) (c : UInt8) : val (l ++ [c]) = 10 * val l + (c.toNat - 48) := by simp [val, List.foldl_append]
theorem val_take (l : Bs) (k : Nat) (c : UInt8) (h : l[k]? = some c) : val (l.take (k + 1)) = 10 * val (l.take k) + (c.toNat - 48) := by
  rw [List.take_add_one, h]; exact val_snoc _ _
theorem fold_ge : ∀ (b : Bs) (n : Nat), n * 10 ^ b.length ≤ b.foldl (fun n c => 10 * n + (c.toNat - 48)) n
  | [], n => by simp
  | c :: b, n => by
    have := fold_ge b (10 * n + (c.toNat - 48))
    rw [List.foldl_cons, List.length_cons, Nat.pow_succ]
    refine Nat.le_trans ?_ this
    rw [Nat.mul_comm (10 ^ _), ← Nat.mul_assoc]
    exact Nat.mul_le_mul_right _ (by omega)
theorem val_mono (a b : Bs) : val a ≤ val (a ++ b) := by
  unfold val
  rw [List.foldl_append]
  refine Nat.le_trans ?_ (fold_ge b _)
  exact Nat.le_mul_of_pos_right _ (Nat.pow_pos (by omega))
theorem val_take_le (l : Bs) (k : Nat) : val (l.take k) ≤ val l := by
  have := val_mono (l.take k) (l.drop k)
  rwa [List.take_append_drop] at this
theorem val_big (c : UInt8) (r : Bs) (h : 49 ≤ c.toNat) : 10 ^ r.length ≤ val (c :: r) := by
  unfold val
  rw [List.foldl_cons]
  refine Nat.le_trans ?_ (fold_ge r _)
  exact Nat.le_mul_of_pos_left _ (by omega)
theorem tooBig_ref (d : Bs) (hd : d.all isDig = true) (hn : d ≠ []) : tooBig d = true ↔ (1 < d.length ∧ d.headD 0 = 48) ∨ 2147483647 < val d := by
  unfold tooBig
  simp only [Bool.or_eq_true, decide_eq_true_eq, Bool.and_eq_true, beq_iff_eq]
  constructor
  · rintro ((h | h) | h)
    · cases d with
      | nil => exact absurd rfl hn
      | cons c r =>
        by_cases h48 : c = 48
        · exact Or.inl ⟨by omega, by simpa using h48⟩
        · refine Or.inr ?_
          simp only [List.all_cons, Bool.and_eq_true] at hd
          have hc := dig_nat hd.1
          have h2 : c.toNat ≠ 48 := fun q => h48 (by rw [← UInt8.toNat_inj]; exact q)
          have h3 := val_big c r (by omega)
          have h4 : 10 ^ 10 ≤ 10 ^ r.length := Nat.pow_le_pow_right (by omega) (by simp at h; omega)
          omega
    · exact Or.inr h
    · exact Or.inl h
  · rintro (h | h)
    · exact Or.inr h
    · exact Or.inl (Or.inr h)
end Lx
theorem byte_at (s : ByteArray) (k : Nat) (h : k < s.size) : s.data.toList[k]? = some s[k] := by
  rw [List.getElem?_eq_getElem (by rw [size_toList]; exact h)]; rfl
set_option maxHeartbeats 1000000 in
theorem rIsName_any (s : ByteArray) (w : World) :
    Calls Tryz.prog 47 #[.string s] w fun e w' => e = .returned (.bool (Lx.isName s.data.toList)) ∧ Below w.heap.size w w' := by
  by_cases he : s.toList = []
  · have HF : Hid (Lx.isName s.data.toList = false) := by
      show _ = _
      rw [← Lib.toList_data, he]; rfl
    have he2 : s.toList.isEmpty = true := by simp [he]
    go_enter Tryz.func47, Tryz.ntmps47
    go_wp2_with fail
    go_ret
    exact ⟨ret_bool HF.out.symm, Below.refl _ _⟩
  have he2 : s.toList.isEmpty = false := by simp [he]
  have HE : Hid (s.data.toList ≠ []) := by rw [Lib.toList_data] at he; exact he
  have hpos : 0 < s.size := by rw [← size_toList]; exact List.length_pos_iff.2 HE.out
  by_cases hl : 40 < s.size
  · have HF : Hid (Lx.isName s.data.toList = false) := by
      show _ = _
      unfold Lx.isName
      rw [size_toList]
      have : decide (s.size ≤ 40) = false := by simp; omega
      rw [this]; simp
    go_enter Tryz.func47, Tryz.ntmps47
    go_wp2_with fail
    go_ret
    exact ⟨ret_bool HF.out.symm, Below.refl _ _⟩
  have hl2 : s.size ≤ 40 := by omega
  have hb0 := headD_byte s hpos
  obtain ⟨b1, hb1⟩ : ∃ b, b = Lx.isLet (s.data.toList.headD 0) := ⟨_, rfl⟩
  have c1 := rletter_any s[0] w
  rw [← hb0, ← hb1] at c1
  have H1 : Hid (Lx.isLet (s.data.toList.headD 0) = b1) := hb1.symm
  rw [hb0] at c1
  clear hb0 hb1 hl
  go_enter Tryz.func47, Tryz.ntmps47
  go_wp2_with fail
  refine c1.mono ?_
  rintro e w1 ⟨rfl, hW⟩
  subst hW
  clear c1
  cases b1
  · go_wp2_with fail
    go_ret
    exact ⟨ret_bool (Lx.name_ref_no HE.out H1.out).symm, Below.refl _ _⟩
  · go_wp2_with fail
    refine (rIsWord_any s w1).mono ?_
    rintro e w2 ⟨rfl, hb2⟩
    obtain ⟨b2, hb2'⟩ : ∃ b, b = Lx.isWord s.data.toList := ⟨_, rfl⟩
    rw [← hb2']
    have H2 : Hid (Lx.isWord s.data.toList = b2) := hb2'.symm
    clear hb2'
    cases b2
    · have HN : Hid (Lx.isName s.data.toList = s.data.toList.all Lx.isPt) := Lx.name_ref HE.out (by rw [size_toList]; omega) H1.out H2.out
      go_wp2_with fail
      go_loopw [3] (fun i wr => ∃ k : Nat, k ≤ s.size ∧ i = .int .i64 k ∧ (s.data.toList.take k).all Lx.isPt = true ∧ wr = w2) (fun i _ => s.size - (intOf i).toNat)
      case atStart => exact ⟨0, Nat.zero_le _, rfl, rfl, rfl⟩
      case round =>
        obtain ⟨k, hk, rfl, hall, hB⟩ := hrel
        subst hB
        by_cases hlt : k < s.size
        · have HA : Hid ((s.data.toList.take k).all Lx.isPt = true) := hall
          have HK : Hid (s.data.toList[k]? = some s[k]) := byte_at s k hlt
          have hk2 : (k : Int) < (s.size : Int) := by omega
          have c3 := rletter_any s[k] wr
          have c4 := rdigit_any s[k] wr
          obtain ⟨b3, hb3⟩ : ∃ b, b = Lx.isLet s[k] := ⟨_, rfl⟩
          obtain ⟨b4, hb4⟩ : ∃ b, b = Lx.isDig s[k] := ⟨_, rfl⟩
          rw [← hb3] at c3
          rw [← hb4] at c4
          have HP : Hid (Lx.isPt s[k] = (b3 || b4)) := by show _ = _; unfold Lx.isPt; rw [hb3, hb4]
          clear hb3 hb4 hall
          cases b3
          · go_wp2_with fail
            refine c3.mono ?_
            rintro e w5 ⟨rfl, hW⟩
            subst hW
            go_wp2_with fail
            refine c4.mono ?_
            rintro e w5 ⟨rfl, hW⟩
            subst hW
            clear c3 c4
            cases b4
            · go_wp2_with fail
              go_ret
              exact ⟨ret_bool (by rw [HN.out, Lx.all_no _ k _ HK.out (by rw [HP.out]; rfl)]), hb2⟩
            · have HF : Hid ((s.data.toList.take (k + 1)).all Lx.isPt = true) := by show _ = _; rw [Lx.all_take _ k _ HK.out, HA.out, HP.out]; rfl
              go_wp2_with fail
              go_roundw
              case rel => exact ⟨k + 1, by omega, by go_num, HF.out, by trivial⟩
              case measure => simp [intOf]; omega
          · have HF : Hid ((s.data.toList.take (k + 1)).all Lx.isPt = true) := by show _ = _; rw [Lx.all_take _ k _ HK.out, HA.out, HP.out]; rfl
            go_wp2_with fail
            refine c3.mono ?_
            rintro e w5 ⟨rfl, hW⟩
            subst hW
            clear c3 c4
            go_wp2_with fail
            go_roundw
            case rel => exact ⟨k + 1, by omega, by go_num, HF.out, by trivial⟩
            case measure => simp [intOf]; omega
        · have hke : k = s.size := by omega
          have HF : Hid (Lx.isName s.data.toList = true) := by
            show _ = _
            rw [HN.out, ← hall, hke, List.take_of_length_le (by rw [size_toList]; omega)]
          clear hall
          subst hke
          go_wp2_with fail
          go_ret
          exact ⟨ret_bool HF.out.symm, hb2⟩
    · have HF : Hid (Lx.isName s.data.toList = false) := by
        show _ = _
        cases h : Lx.isName s.data.toList with
        | false => rfl
        | true => have := Lx.name_not_word h; rw [H2.out] at this; cases this
      go_wp2_with fail
      go_ret
      exact ⟨ret_bool HF.out.symm, hb2⟩
def ValPost (d : ByteArray) (w : World) (e : Ending) (w' : World) : Prop := ∃ n : Nat, e = .returned (.int .i64 n) ∧ (2147483647 < n ↔ 2147483647 < Lx.val d.data.toList) ∧ (n ≤ 2147483647 → n = Lx.val d.data.toList) ∧ w' = w
set_option maxHeartbeats 1000000 in
theorem rValue_any (s : ByteArray) (hd : s.data.toList.all Lx.isDig = true) (hs : s.size ≤ 100000) (w : World) :
    Calls Tryz.prog 28 #[.string s] w (ValPost s w) := by
  have HD : Hid (s.data.toList.all Lx.isDig = true) := hd
  clear hd
  go_enter Tryz.func28, Tryz.ntmps28
  go_wp2_with fail
  go_loopw [3, 4] (fun n i wr => ∃ k : Nat, k ≤ s.size ∧ i = .int .i64 k ∧ n = .int .i64 (Lx.val (s.data.toList.take k) : Nat) ∧ Lx.val (s.data.toList.take k) ≤ 21474836479 ∧ wr = w) (fun _ i _ => s.size - (intOf i).toNat)
  case atStart => exact ⟨0, Nat.zero_le _, rfl, rfl, by simp [Lx.val], rfl⟩
  case round =>
    obtain ⟨k, hk, rfl, rfl, hle, hB⟩ := hrel
    subst hB
    have hmono := Lx.val_take_le s.data.toList k
    obtain ⟨n, hn⟩ : ∃ n, n = Lx.val (s.data.toList.take k) := ⟨_, rfl⟩
    rw [← hn] at hle hmono ⊢
    have HNN : Hid (n = Lx.val (s.data.toList.take k)) := hn
    have HM : Hid (n ≤ Lx.val s.data.toList) := hmono
    clear hn hmono
    by_cases hlt : k < s.size
    · by_cases hbig : n ≤ 2147483647
      · have HK : Hid (s.data.toList[k]? = some s[k]) := byte_at s k hlt
        have hdk := Lx.dig_nat (List.all_eq_true.1 HD.out s[k] (List.mem_of_getElem? HK.out))
        have hk2 : (k : Int) < (s.size : Int) := by omega
        have hn2 : (n : Int) ≤ 2147483647 := by omega
        have HV : Hid (Lx.val (s.data.toList.take (k + 1)) = 10 * n + (s[k].toNat - 48)) := by show _ = _; rw [Lx.val_take _ k _ HK.out, ← HNN.out]
        obtain ⟨q, hq⟩ : ∃ q, s[k].toNat = q + 48 := ⟨s[k].toNat - 48, by omega⟩
        have hq9 : q ≤ 9 := by omega
        have HQ : Hid (s[k].toNat = q + 48) := hq
        go_wp2_with fail
        go_roundw
        case rel =>
          have e : Lx.val (s.data.toList.take (k + 1)) = 10 * n + q := by rw [HV.out, HQ.out]; omega
          exact ⟨k + 1, by omega, by go_num, by rw [e]; go_num, by omega, by trivial⟩
        case measure => simp [intOf]; omega
      · have hn2 : (2147483647 : Int) < (n : Int) := by omega
        have hk2 : (k : Int) < (s.size : Int) := by omega
        go_wp2_with fail
        go_ret
        exact ⟨n, rfl, ⟨fun _ => by have := HM.out; omega, fun _ => by omega⟩, fun h => by omega, rfl⟩
    · have hke : k = s.size := by omega
      have HF : Hid (n = Lx.val s.data.toList) := by
        show _ = _
        rw [HNN.out, hke, List.take_of_length_le (by rw [size_toList]; omega)]
      subst hke
      go_wp2_with fail
      go_ret
      exact ⟨n, rfl, by rw [HF.out], fun _ => HF.out, rfl⟩
end Go.Proofs.YtahalimekacliaaGreatDoor
namespace Go.Proofs.YtahalimekacliaaGreatDoor
open Go.RowKit Go.Shelf
namespace Lx
def signOf (r : Bs) : Bs := match signs.find? (·.isPrefixOf r) with
  | some t => t
  | none => []
theorem find_take (l : List Bs) (p : Bs → Bool) (k : Nat) (x : Bs) (h : l[k]? = some x) (hno : (l.take k).find? p = none) : (p x = true → l.find? p = some x) ∧ (p x = false → (l.take (k + 1)).find? p = none) := by
  have hk := (List.getElem?_eq_some_iff.1 h).1
  constructor
  · intro hp
    have e : l = l.take k ++ x :: l.drop (k + 1) := by
      conv => lhs; rw [← List.take_append_drop k l]
      rw [List.drop_eq_getElem_cons hk]
      congr 2
      rw [List.getElem?_eq_getElem hk] at h
      exact Option.some.inj h
    rw [e, List.find?_append, hno]
    simp [hp]
  · intro hp
    rw [List.take_add_one, h, List.find?_append, hno]
    simp [hp]
end Lx
theorem pre_iff (s y : ByteArray) (_h : y.size ≤ s.size) : ((s.extract 0 y.size).toList = y.toList) ↔ y.data.toList.isPrefixOf s.data.toList = true := by
  rw [Lib.toList_data, Lib.toList_data, extract_take, List.isPrefixOf_iff_prefix, List.prefix_iff_eq_take, size_toList]
  exact ⟨fun h => h.symm, fun h => h.symm⟩
set_option maxHeartbeats 1000000 in
theorem rsign_any (s : ByteArray) (_hs : s.size ≤ 100000) (w : World) :
    Calls Tryz.prog 31 #[.string s] w fun e w' => e = .returned (.string ⟨(Lx.signOf s.data.toList).toArray⟩) ∧ Below w.heap.size w w' := by
  go_enter Tryz.func31, Tryz.ntmps31
  go_wp2_with fail
  refine (Signs_any w).mono ?_
  rintro e w1 ⟨b, c, rfl, hb1, hc1⟩
  go_wp2_with fail
  go_loopw [4] (fun i wr => ∃ k : Nat, k ≤ 16 ∧ i = .int .i64 k ∧ (Lx.signs.take k).find? (·.isPrefixOf s.data.toList) = none ∧ ∃ q, wr = w1.drewN q) (fun i _ => 16 - (intOf i).toNat)
  case atStart => exact ⟨0, Nat.zero_le _, rfl, rfl, 0, rfl⟩
  case round =>
    obtain ⟨k, hk, rfl, hno, q, rfl⟩ := hrel
    by_cases hlt : k < 16
    · obtain ⟨x, hx⟩ : ∃ x, Lx.signs[k]? = some x := ⟨_, List.getElem?_eq_getElem hlt⟩
      have hc := hc1 k x hx
      unfold wordC at hc
      obtain ⟨y, hy⟩ : ∃ y : ByteArray, y = ⟨x.toArray⟩ := ⟨_, rfl⟩
      rw [← hy] at hc
      have hyl : y.data.toList = x := by rw [hy]
      have HT : Hid _ := Lx.find_take Lx.signs (·.isPrefixOf s.data.toList) k x hx hno
      have hxl := (Lx.signs_ne x (List.mem_of_getElem? hx)).2.1
      have hysz : y.size ≤ 2 := by rw [← size_toList, hyl]; exact hxl
      have hk0 : (0 : Int) ≤ (k : Int) := by omega
      have hk2 : (k : Int) < 16 := by omega
      by_cases hsz : y.size ≤ s.size
      · have hs1 : decide ((y.size : Int) ≤ (s.size : Int)) = true := by simp; omega
        have hs2 : (y.size : Int) ≤ (s.size : Int) := by omega
        have HP : Hid _ := pre_iff s y hsz
        by_cases heq : (s.extract 0 y.size).toList = y.toList
        · have HF : Hid (Lx.signOf s.data.toList = y.data.toList) := by
            show _ = _
            have := HT.out.1 (by rw [← hyl]; exact HP.out.1 heq)
            unfold Lx.signOf; rw [this, hyl]
          have heq2 : ((s.extract 0 y.size).toList == y.toList) = true := by simp [heq]
          clear hc1 hx hy hyl hno hxl
          go_wp2_with fail
          go_quiet (fail)
          go_wp2_with fail
          go_ret
          exact ⟨ret_string (by rw [HF.out]), below_drawn hb1 _⟩
        · have HF : Hid ((Lx.signs.take (k + 1)).find? (·.isPrefixOf s.data.toList) = none) := by
            show _ = _
            refine HT.out.2 ?_
            rw [← hyl, ← Bool.not_eq_true, ← HP.out]; exact heq
          have heq2 : ((s.extract 0 y.size).toList == y.toList) = false := by simp [heq]
          clear hc1 hx hy hyl hno hxl
          go_wp2_with fail
          go_quiet (fail)
          go_wp2_with fail
          go_roundw
          case rel => exact ⟨k + 1, by omega, by go_num, HF.out, _, rfl⟩
          case measure => simp [intOf]; omega
      · have hs1 : decide ((y.size : Int) ≤ (s.size : Int)) = false := by simp; omega
        have hs2 : ¬ (y.size : Int) ≤ (s.size : Int) := by omega
        have HF : Hid ((Lx.signs.take (k + 1)).find? (·.isPrefixOf s.data.toList) = none) := by
          show _ = _
          refine HT.out.2 ?_
          rw [← hyl, ← Bool.not_eq_true]
          intro h
          have := (List.isPrefixOf_iff_prefix.1 h).length_le
          rw [size_toList, size_toList] at this; omega
        clear hc1 hx hy hyl hno hxl
        go_wp2_with fail
        go_quiet (fail)
        go_wp2_with fail
        go_roundw
        case rel => exact ⟨k + 1, by omega, by go_num, HF.out, _, rfl⟩
        case measure => simp [intOf]; omega
    · have hke : k = 16 := by omega
      subst hke
      have HF : Hid (Lx.signOf s.data.toList = []) := by
        show _ = _
        have h : Lx.signs.find? (·.isPrefixOf s.data.toList) = none := hno
        unfold Lx.signOf; rw [h]
      clear hno hc1
      go_wp2_with fail
      go_ret
      exact ⟨ret_string (by rw [HF.out]), below_drawn hb1 _⟩
def WordPost (s : ByteArray) (p : Nat) (w : World) (e : Ending) (w' : World) : Prop :=
  ∃ (k er : Nat) (t : ByteArray) (p' : Nat), e = .returned (.tuple #[.agg #[.int .i64 k, .string t, .int .i64 p'], .int .i64 er]) ∧ Below w.heap.size w w' ∧
    ((er = 0 ∧ t = s ∧ p' = p ∧ ((k = 3 ∧ Lx.isWord s.data.toList = true) ∨ (k = 1 ∧ Lx.isWord s.data.toList = false ∧ Lx.isName s.data.toList = true))) ∨
     (er = 5 ∧ Lx.isWord s.data.toList = false ∧ Lx.isName s.data.toList = false))
theorem three_cells {W : World} {b T : Nat} {x y z : Value} (h : W.heap[b]? = some (.cells #[x, y, z] T (0, 0))) :
    (W.cell? ⟨b, 0, none⟩ = some x ∧ W.cell? ⟨b, 1, none⟩ = some y ∧ W.cell? ⟨b, 2, none⟩ = some z) ∧ W.frozen? ⟨b, 0, none⟩ = false ∧ W.frozen? ⟨b, 1, none⟩ = false ∧ W.frozen? ⟨b, 2, none⟩ = false :=
  ⟨⟨by simp [World.cell?, h], by simp [World.cell?, h], by simp [World.cell?, h]⟩, by simp [World.frozen?, h], by simp [World.frozen?, h], by simp [World.frozen?, h]⟩
set_option maxHeartbeats 1000000 in
theorem rword_any (s : ByteArray) (p : Nat) (w : World) :
    Calls Tryz.prog 30 #[.string s, .int .i64 p] w (WordPost s p w) := by
  obtain ⟨b1, hb1⟩ : ∃ b, b = Lx.isWord s.data.toList := ⟨_, rfl⟩
  have H1 : Hid (Lx.isWord s.data.toList = b1) := hb1.symm
  obtain ⟨b2, hb2⟩ : ∃ b, b = Lx.isName s.data.toList := ⟨_, rfl⟩
  have H2 : Hid (Lx.isName s.data.toList = b2) := hb2.symm
  clear hb1 hb2
  obtain ⟨W0, hW0⟩ : ∃ W0, W0 = (w.alloc (.cells #[.int .i64 0, .string ⟨#[]⟩, .int .i64 0] 47)).alloc (.cells #[.int .i64 1, .string s, .int .i64 p] 47) := ⟨_, rfl⟩
  have bW : Below w.heap.size w W0 := by rw [hW0]; exact ((Below.refl _ _).alloc (Nat.le_refl _) _).alloc (by simp) _
  have hB : W0.heap[w.heap.size + 1]? = some (.cells #[.int .i64 1, .string s, .int .i64 p] 47) := by
    have := heap_alloc_new (w.alloc (.cells #[.int .i64 0, .string ⟨#[]⟩, .int .i64 0] 47)) (.cells #[.int .i64 1, .string s, .int .i64 p] 47)
    rw [hW0]; simpa using this
  have hA : W0.heap[w.heap.size]? = some (.cells #[.int .i64 0, .string ⟨#[]⟩, .int .i64 0] 47) := by
    rw [hW0, Below.heap_alloc _ _ _ (by simp)]; exact heap_alloc_new w _
  have HW0 : Hid (W0 = _) := hW0
  clear hW0
  go_enter Tryz.func30, Tryz.ntmps30
  go_wp2_with fail
  rw [← HW0.out]
  refine (rIsWord_any s W0).mono ?_
  rintro e w2 ⟨rfl, hb2⟩
  rw [H1.out]
  have B2 := below_next bW hb2
  have hA2 := (hb2.block _ (Array.getElem?_eq_some_iff.1 hA).1).trans hA
  have hB2 := (hb2.block _ (Array.getElem?_eq_some_iff.1 hB).1).trans hB
  clear HW0 bW hA hB hb2
  obtain ⟨a, ha⟩ : ∃ a, w.heap.size = a := ⟨_, rfl⟩
  have HAA : Hid (w.heap.size = a) := ha
  rw [ha] at hA2 hB2
  rw [ha]
  clear ha
  obtain ⟨⟨a0, a1, a2⟩, fa0, fa1, fa2⟩ := three_cells hA2
  obtain ⟨⟨d0, d1, d2⟩, fd0, fd1, fd2⟩ := three_cells hB2
  have up : ∀ q : Nat, w.heap.size ≤ a + q := fun q => by have := HAA.out; omega
  cases b1
  · go_wp2_with fail
    refine (rIsName_any s w2).mono ?_
    rintro e w3 ⟨rfl, hb3⟩
    rw [H2.out]
    have B3 := below_next B2 hb3
    have hA3 := (hb3.block _ (Array.getElem?_eq_some_iff.1 hA2).1).trans hA2
    have hB3 := (hb3.block _ (Array.getElem?_eq_some_iff.1 hB2).1).trans hB2
    clear a0 a1 a2 fa0 fa1 fa2 d0 d1 d2 fd0 fd1 fd2 hA2 hB2 hb3 B2
    obtain ⟨⟨a0, a1, a2⟩, fa0, fa1, fa2⟩ := three_cells hA3
    obtain ⟨⟨d0, d1, d2⟩, fd0, fd1, fd2⟩ := three_cells hB3
    cases b2
    · go_wp2_with fail
      refine bodyPost_ret (v := .tuple #[.agg #[.int .i64 0, .string ⟨#[]⟩, .int .i64 0], .int .i64 5]) (by simp [results, Tryz.results30, go_sem, a0, a1, a2]) rfl ?_
      exact ⟨0, 5, ⟨#[]⟩, 0, rfl, (((B3.setCell (up 0) _).setCell (up 0) _).setCell (up 0) _), Or.inr ⟨rfl, H1.out, H2.out⟩⟩
    · go_wp2_with fail
      refine bodyPost_ret (v := .tuple #[.agg #[.int .i64 1, .string s, .int .i64 p], .int .i64 0]) (by simp [results, Tryz.results30, go_sem, a0, a1, a2]) rfl ?_
      exact ⟨1, 0, s, p, rfl, (((B3.setCell (up 0) _).setCell (up 0) _).setCell (up 0) _), Or.inl ⟨rfl, rfl, rfl, Or.inr ⟨rfl, H1.out, H2.out⟩⟩⟩
  · go_wp2_with fail
    refine bodyPost_ret (v := .tuple #[.agg #[.int .i64 3, .string s, .int .i64 p], .int .i64 0]) (by simp [results, Tryz.results30, go_sem, a0, a1, a2]) rfl ?_
    exact ⟨3, 0, s, p, rfl, ((((B2.setCell (up 1) _).setCell (up 0) _).setCell (up 0) _).setCell (up 0) _), Or.inl ⟨rfl, rfl, rfl, Or.inl ⟨rfl, H1.out⟩⟩⟩
def OnePost (s : ByteArray) (p : Nat) (w : World) (e : Ending) (w' : World) : Prop :=
  ∃ (k er : Nat) (t : ByteArray) (p' : Nat), e = .returned (.tuple #[.agg #[.int .i64 k, .string t, .int .i64 p'], .int .i64 er]) ∧ Below w.heap.size w w' ∧
    ((er = 0 ∧ p' = p ∧ Lx.first s.data.toList = .tok k t.data.toList) ∨ (er ≠ 0 ∧ Lx.first s.data.toList = .err er))
namespace Lx
theorem row_facts (p : UInt8 → Bool) (l : Bs) : (∀ k c, k < (l.takeWhile p).length → l[k]? = some c → p c = true) ∧ (∀ c, l[(l.takeWhile p).length]? = some c → p c = false) := by
  induction l with
  | nil => exact ⟨fun k c h => by simp at h, fun c h => by simp at h⟩
  | cons x l ih =>
    rw [List.takeWhile_cons]
    split
    · rename_i hx
      refine ⟨fun k c h hc => ?_, fun c h => ih.2 c (by simpa using h)⟩
      cases k with
      | zero => simp at hc; subst hc; exact hx
      | succ k => exact ih.1 k c (by simpa using h) (by simpa using hc)
    · rename_i hx
      exact ⟨fun k c h => by simp at h, fun c h => by simp at h; subst h; simpa using hx⟩
theorem dig_empty {r : Bs} (h : isDig (r.headD 0) = false) : r.takeWhile isDig = [] := by
  cases r with
  | nil => rfl
  | cons c r => simp at h; rw [List.takeWhile_cons, if_neg (by simp [h])]
theorem pt_empty {r : Bs} (h : isDig (r.headD 0) = false) (h2 : isLet (r.headD 0) = false) : r.takeWhile isPt = [] := by
  cases r with
  | nil => rfl
  | cons c r => simp at h h2; rw [List.takeWhile_cons, if_neg (by simp [isPt, h, h2])]
end Lx
set_option maxHeartbeats 2000000 in
theorem rone_any (s : ByteArray) (p : Nat) (hs : s.size ≤ 100000) (hpos : 0 < s.size) (w : World) :
    Calls Tryz.prog 14 #[.string s, .int .i64 p] w (OnePost s p w) := by
  have hb0 := headD_byte s hpos
  obtain ⟨b1, hb1⟩ : ∃ b, b = Lx.isDig (s.data.toList.headD 0) := ⟨_, rfl⟩
  have c1 := rdigit_any s[0]
  rw [← hb0, ← hb1] at c1
  have H1 : Hid (Lx.isDig (s.data.toList.headD 0) = b1) := hb1.symm
  obtain ⟨b2, hb2⟩ : ∃ b, b = Lx.isLet (s.data.toList.headD 0) := ⟨_, rfl⟩
  have c2 := rletter_any s[0]
  rw [← hb0, ← hb2] at c2
  have H2 : Hid (Lx.isLet (s.data.toList.headD 0) = b2) := hb2.symm
  rw [hb0] at c1 c2
  clear hb0 hb1 hb2
  obtain ⟨W0, hW0⟩ : ∃ W0, W0 = w.alloc (.cells #[.int .i64 0, .string ⟨#[]⟩, .int .i64 0] 47) := ⟨_, rfl⟩
  have bW : Below w.heap.size w W0 := by rw [hW0]; exact (Below.refl _ _).alloc (Nat.le_refl _) _
  have hA : W0.heap[w.heap.size]? = some (.cells #[.int .i64 0, .string ⟨#[]⟩, .int .i64 0] 47) := by
    rw [hW0]; exact heap_alloc_new w _
  have HW0 : Hid (W0 = _) := hW0
  clear hW0
  have C1 := Lib.hid c1
  have C2 := Lib.hid c2
  clear c1 c2
  go_enter Tryz.func14, Tryz.ntmps14
  go_wp2_with fail
  rw [← HW0.out]
  refine (C1.out W0).mono ?_
  rintro e w1 ⟨rfl, hW⟩
  subst hW
  obtain ⟨a, ha⟩ : ∃ a, w.heap.size = a := ⟨_, rfl⟩
  have HAA : Hid (w.heap.size = a) := ha
  rw [ha] at hA
  rw [ha]
  clear ha
  obtain ⟨⟨a0, a1, a2⟩, fa0, fa1, fa2⟩ := three_cells hA
  have up : w.heap.size ≤ a := by have := HAA.out; omega
  clear HW0
  cases b1
  · go_wp2_with fail
    refine (C2.out w1).mono ?_
    rintro e w3 ⟨rfl, hW⟩
    subst hW
    cases b2
    · have HD : Hid (s.data.toList.takeWhile Lx.isDig = []) := Lx.dig_empty H1.out
      have HP : Hid (s.data.toList.takeWhile Lx.isPt = []) := Lx.pt_empty H1.out H2.out
      go_wp2_with fail
      refine (rsign_any s hs w3).mono ?_
      rintro e w4 ⟨rfl, hb4⟩
      obtain ⟨t, ht⟩ : ∃ t : ByteArray, t = ⟨(Lx.signOf s.data.toList).toArray⟩ := ⟨_, rfl⟩
      rw [← ht]
      have HT : Hid (t.data.toList = Lx.signOf s.data.toList) := by show _ = _; rw [ht]
      have B4 := below_next bW hb4
      have hA4 := (hb4.block _ (Array.getElem?_eq_some_iff.1 hA).1).trans hA
      clear a0 a1 a2 fa0 fa1 fa2 hA hb4 bW ht C1 C2
      obtain ⟨⟨a0, a1, a2⟩, fa0, fa1, fa2⟩ := three_cells hA4
      by_cases he : t.toList = []
      · have he2 : t.toList.isEmpty = true := by simp [he]
        have HF : Hid (Lx.first s.data.toList = .err 5) := by
          show _ = _
          rw [first_sign HD.out HP.out]
          have h1 : Lx.signOf s.data.toList = [] := by rw [← HT.out]; exact toList_nil.1 he
          unfold Lx.signOf at h1
          split at h1
          · rename_i x hx
            exact absurd h1 (Lx.signs_ne _ (List.mem_of_find?_eq_some hx)).1
          · rename_i hx; rw [hx]
        go_wp2_with fail
        refine bodyPost_ret (v := .tuple #[.agg #[.int .i64 0, .string ⟨#[]⟩, .int .i64 0], .int .i64 5]) (by simp [results, Tryz.results14, go_sem, a0, a1, a2]) rfl ?_
        exact ⟨0, 5, ⟨#[]⟩, 0, rfl, (((B4.setCell up _).setCell up _).setCell up _), Or.inr ⟨by omega, HF.out⟩⟩
      · have he2 : t.toList.isEmpty = false := by simp [he]
        have HF : Hid (Lx.first s.data.toList = .tok 4 t.data.toList) := by
          show _ = _
          rw [first_sign HD.out HP.out]
          have h1 : Lx.signOf s.data.toList ≠ [] := by rw [← HT.out]; exact fun h => he (toList_nil.2 h)
          have h2 := HT.out
          unfold Lx.signOf at h1 h2
          split at h1
          · rename_i x hx; rw [hx] at h2 ⊢; rw [h2]
          · exact absurd rfl h1
        go_wp2_with fail
        refine bodyPost_ret (v := .tuple #[.agg #[.int .i64 4, .string t, .int .i64 p], .int .i64 0]) (by simp [results, Tryz.results14, go_sem, a0, a1, a2]) rfl ?_
        exact ⟨4, 0, t, p, rfl, (((B4.setCell up _).setCell up _).setCell up _), Or.inl ⟨rfl, rfl, HF.out⟩⟩
    · have HD : Hid (s.data.toList.takeWhile Lx.isDig = []) := Lx.dig_empty H1.out
      obtain ⟨d, hd⟩ : ∃ d, d = (s.data.toList.takeWhile Lx.isPt).length := ⟨_, rfl⟩
      have hds : d ≤ s.size := by rw [hd, ← size_toList]; exact (List.takeWhile_prefix _).length_le
      have HTK : Hid (s.data.toList.takeWhile Lx.isPt = s.data.toList.take d) := by show _ = _; rw [hd]; exact List.prefix_iff_eq_take.1 (List.takeWhile_prefix _)
      have HYES : Hid (∀ k (h : k < s.size), k < d → Lx.isPt s[k] = true) := fun k h hk => by
        have h1 : (s.data.toList.takeWhile Lx.isPt)[k]? = some s[k] := by rw [HTK.out, List.getElem?_take, if_pos hk]; exact byte_at s k h
        exact List.all_eq_true.1 List.all_takeWhile s[k] (List.mem_of_getElem? h1)
      have HNO : Hid (∀ (h : d < s.size), Lx.isPt s[d] = false) := fun h => by
        cases q : Lx.isPt s[d] with
        | false => rfl
        | true =>
          have h2 : ∀ (l : Lx.Bs) (n : Nat) (c : UInt8), n = (l.takeWhile Lx.isPt).length → l[n]? = some c → Lx.isPt c = false := by
            intro l
            induction l with
            | nil => intro n c _ h; simp at h
            | cons x l ih =>
              intro n c hn h
              rw [List.takeWhile_cons] at hn
              split at hn
              · simp at hn; subst hn; exact ih _ c rfl (by simpa using h)
              · rename_i hx; simp at hn; subst hn; simp at h; subst h; simpa using hx
          rw [h2 _ _ _ hd (byte_at s d h)] at q; cases q
      have hpd : 0 < d := by
        rcases Nat.eq_zero_or_pos d with h | h
        · subst h
          have := HNO.out hpos
          have h2 := H2.out
          rw [headD_byte s hpos] at h2
          unfold Lx.isPt at this; rw [h2] at this; simp at this
        · exact h
      clear hd
      go_wp2_with fail
      go_loopw [6] (fun i wr => ∃ k : Nat, k ≤ d ∧ i = .int .i64 k ∧ wr = w3) (fun i _ => d - (intOf i).toNat)
      case atStart => exact ⟨0, Nat.zero_le _, rfl, rfl⟩
      case round =>
        obtain ⟨k, hk, rfl, hW⟩ := hrel
        subst hW
        by_cases hlt : k < d
        · have hks : k < s.size := by omega
          have hk2 : (k : Int) < (s.size : Int) := by omega
          have c3 := rletter_any s[k] wr
          have c4 := rdigit_any s[k] wr
          obtain ⟨b3, hb3⟩ : ∃ b, b = Lx.isLet s[k] := ⟨_, rfl⟩
          rw [← hb3] at c3
          have HY := HYES.out k hks hlt
          unfold Lx.isPt at HY
          rw [← hb3] at HY
          clear hb3
          cases b3
          · rw [Bool.false_or] at HY
            rw [HY] at c4
            clear HY
            go_wp2_with fail
            refine c3.mono ?_
            rintro e w5 ⟨rfl, hW⟩
            subst hW
            go_wp2_with fail
            refine c4.mono ?_
            rintro e w5 ⟨rfl, hW⟩
            subst hW
            clear c3 c4
            go_wp2_with fail
            go_roundw
            case rel => exact ⟨k + 1, by omega, by go_num, by trivial⟩
            case measure => simp [intOf]; omega
          · clear HY
            go_wp2_with fail
            refine c3.mono ?_
            rintro e w5 ⟨rfl, hW⟩
            subst hW
            clear c3 c4
            go_wp2_with fail
            go_roundw
            case rel => exact ⟨k + 1, by omega, by go_num, by trivial⟩
            case measure => simp [intOf]; omega
        · have hke : k = d := by omega
          subst hke
          clear hlt hk C1 C2
          rcases Nat.lt_or_eq_of_le hds with hlt | heq
          · have hk2 : (k : Int) < (s.size : Int) := by omega
            have c3 := rletter_any s[k] wr
            have c4 := rdigit_any s[k] wr
            have HY := HNO.out hlt
            unfold Lx.isPt at HY
            rw [Bool.or_eq_false_iff] at HY
            rw [HY.1] at c3
            rw [HY.2] at c4
            clear HY
            go_wp2_with fail
            refine c3.mono ?_
            rintro e w5 ⟨rfl, hW⟩
            subst hW
            go_wp2_with fail
            refine c4.mono ?_
            rintro e w5 ⟨rfl, hW⟩
            subst hW
            clear c3 c4
            go_wp2_with fail
            refine (rword_any (s.extract 0 k) p _).mono ?_
            rintro e w4 ⟨kk, er, t, p', rfl, hb4, hor⟩
            have HW : Hid ((er = 0 ∧ p' = p ∧ Lx.first s.data.toList = .tok kk t.data.toList) ∨ (er ≠ 0 ∧ Lx.first s.data.toList = .err er)) := by
              have hx : (s.extract 0 k).data.toList = s.data.toList.takeWhile Lx.isPt := by rw [HTK.out, extract_take]
              have hne : s.data.toList.takeWhile Lx.isPt ≠ [] := by
                rw [← List.length_pos_iff, HTK.out, List.length_take, size_toList]; omega
              rw [hx] at hor
              rcases hor with ⟨h1, h2, h3, h4 | h4⟩ | ⟨h1, h2, h3⟩
              · exact Or.inl ⟨h1, h3, by rw [first_word HD.out h4.2, h4.1, h2, hx]⟩
              · exact Or.inl ⟨h1, h3, by rw [first_name HD.out h4.2.1 h4.2.2, h4.1, h2, hx]⟩
              · exact Or.inr ⟨by omega, by rw [first_none HD.out h2 h3 hne, h1]⟩
            have B4 := below_next bW hb4
            have hA4 := (hb4.block _ (Array.getElem?_eq_some_iff.1 hA).1).trans hA
            clear a0 a1 a2 fa0 fa1 fa2 hA hb4 bW hor
            obtain ⟨⟨a0, a1, a2⟩, fa0, fa1, fa2⟩ := three_cells hA4
            go_wp2_with fail
            refine bodyPost_ret (v := .tuple #[.agg #[.int .i64 kk, .string t, .int .i64 p'], .int .i64 er]) (by simp [results, Tryz.results14, go_sem, a0, a1, a2]) rfl ?_
            exact ⟨kk, er, t, p', rfl, (((B4.setCell up _).setCell up _).setCell up _), HW.out⟩
          · have hk2 : ¬ (k : Int) < (s.size : Int) := by omega
            have HEQ : Hid (k = s.size) := heq
            clear heq
            go_wp2_with fail
            refine (rword_any (s.extract 0 k) p _).mono ?_
            rintro e w4 ⟨kk, er, t, p', rfl, hb4, hor⟩
            have HW : Hid ((er = 0 ∧ p' = p ∧ Lx.first s.data.toList = .tok kk t.data.toList) ∨ (er ≠ 0 ∧ Lx.first s.data.toList = .err er)) := by
              have hx : (s.extract 0 k).data.toList = s.data.toList.takeWhile Lx.isPt := by rw [HTK.out, extract_take]
              have hne : s.data.toList.takeWhile Lx.isPt ≠ [] := by
                rw [← List.length_pos_iff, HTK.out, List.length_take, size_toList]; omega
              rw [hx] at hor
              rcases hor with ⟨h1, h2, h3, h4 | h4⟩ | ⟨h1, h2, h3⟩
              · exact Or.inl ⟨h1, h3, by rw [first_word HD.out h4.2, h4.1, h2, hx]⟩
              · exact Or.inl ⟨h1, h3, by rw [first_name HD.out h4.2.1 h4.2.2, h4.1, h2, hx]⟩
              · exact Or.inr ⟨by omega, by rw [first_none HD.out h2 h3 hne, h1]⟩
            have B4 := below_next bW hb4
            have hA4 := (hb4.block _ (Array.getElem?_eq_some_iff.1 hA).1).trans hA
            clear a0 a1 a2 fa0 fa1 fa2 hA hb4 bW hor
            obtain ⟨⟨a0, a1, a2⟩, fa0, fa1, fa2⟩ := three_cells hA4
            go_wp2_with fail
            refine bodyPost_ret (v := .tuple #[.agg #[.int .i64 kk, .string t, .int .i64 p'], .int .i64 er]) (by simp [results, Tryz.results14, go_sem, a0, a1, a2]) rfl ?_
            exact ⟨kk, er, t, p', rfl, (((B4.setCell up _).setCell up _).setCell up _), HW.out⟩
  · obtain ⟨d, hd⟩ : ∃ d, d = (s.data.toList.takeWhile Lx.isDig).length := ⟨_, rfl⟩
    have hds : d ≤ s.size := by rw [hd, ← size_toList]; exact (List.takeWhile_prefix _).length_le
    have HTK : Hid (s.data.toList.takeWhile Lx.isDig = s.data.toList.take d) := by show _ = _; rw [hd]; exact List.prefix_iff_eq_take.1 (List.takeWhile_prefix _)
    have HLEN : Hid ((s.data.toList.takeWhile Lx.isDig).length = d) := hd.symm
    obtain ⟨HY0, HN0⟩ := Lx.row_facts Lx.isDig s.data.toList
    rw [← hd] at HY0 HN0
    have HYES : Hid (∀ k (h : k < s.size), k < d → Lx.isDig s[k] = true) := fun k h hk => HY0 k _ hk (byte_at s k h)
    have HNO : Hid (∀ (h : d < s.size), Lx.isDig s[d] = false) := fun h => HN0 _ (byte_at s d h)
    have hpd : 0 < d := by
      rcases Nat.eq_zero_or_pos d with h | h
      · subst h
        have := HNO.out hpos
        have h2 := H1.out
        rw [headD_byte s hpos, this] at h2; cases h2
      · exact h
    have HNE : Hid (s.data.toList.takeWhile Lx.isDig ≠ []) := by
      show _ ≠ _
      rw [← List.length_pos_iff, ← hd]; exact hpd
    have HHD : Hid ((s.data.toList.takeWhile Lx.isDig).headD 0 = s.data.toList.headD 0) := by
      show _ = _
      have h1 := H1.out
      cases h : s.data.toList with
      | nil => rfl
      | cons c r => rw [h] at h1; simp at h1; rw [List.takeWhile_cons, if_pos h1]; rfl
    clear hd HY0 HN0 C1 C2
    go_wp2_with fail
    go_loopw [6] (fun i wr => ∃ k : Nat, k ≤ d ∧ i = .int .i64 k ∧ wr = w1) (fun i _ => d - (intOf i).toNat)
    case atStart => exact ⟨0, Nat.zero_le _, rfl, rfl⟩
    case round =>
      obtain ⟨k, hk, rfl, hW⟩ := hrel
      subst hW
      by_cases hlt : k < d
      · have hks : k < s.size := by omega
        have hk2 : (k : Int) < (s.size : Int) := by omega
        have c4 := rdigit_any s[k] wr
        rw [HYES.out k hks hlt] at c4
        go_wp2_with fail
        refine c4.mono ?_
        rintro e w5 ⟨rfl, hW⟩
        subst hW
        clear c4
        go_wp2_with fail
        go_roundw
        case rel => exact ⟨k + 1, by omega, by go_num, by trivial⟩
        case measure => simp [intOf]; omega
      · have hke : k = d := by omega
        subst hke
        clear hlt hk
        rcases Nat.lt_or_eq_of_le hds with hlt | heq
        · have hk2 : (k : Int) < (s.size : Int) := by omega
          have c4 := rdigit_any s[k] wr
          rw [HNO.out hlt] at c4
          go_wp2_with fail
          refine c4.mono ?_
          rintro e w5 ⟨rfl, hW⟩
          subst hW
          clear c4
          by_cases h48 : 1 < k ∧ s[0] = 48
          · have h1 : (1 : Int) < (k : Int) := by omega
            have h2 : (((s[0].toNat : Nat) : Int) == 48) = true := byte48.2 h48.2
            have HF : Hid (Lx.first s.data.toList = .err 2) := by
              show _ = _
              rw [first_dig HNE.out, if_pos ((Lx.tooBig_ref _ List.all_takeWhile HNE.out).2 (Or.inl ⟨by rw [HLEN.out]; omega, by rw [HHD.out, headD_byte s hpos]; exact h48.2⟩))]
            clear h48
            go_wp2_with fail
            refine bodyPost_ret (v := .tuple #[.agg #[.int .i64 0, .string ⟨#[]⟩, .int .i64 0], .int .i64 2]) (by simp [results, Tryz.results14, go_sem, a0, a1, a2]) rfl ?_
            exact ⟨0, 2, ⟨#[]⟩, 0, rfl, (((bW.setCell up _).setCell up _).setCell up _), Or.inr ⟨by omega, HF.out⟩⟩
          · have hor : (¬ (1 : Int) < (k : Int)) ∨ ((1 : Int) < (k : Int) ∧ (((s[0].toNat : Nat) : Int) == 48) = false) := by
              by_cases h1 : 1 < k
              · refine Or.inr ⟨by omega, ?_⟩
                rw [← Bool.not_eq_true, byte48]; exact fun h => h48 ⟨h1, h⟩
              · exact Or.inl (by omega)
            have H48 : Hid (¬ (1 < k ∧ s[0] = 48)) := h48
            clear h48
            rcases hor with h1 | ⟨h1, h2⟩
            all_goals
              go_wp2_with fail
              refine (rValue_any (s.extract 0 k) (by rw [extract_take, ← HTK.out]; exact List.all_takeWhile) (by rw [← size_toList, extract_take, List.length_take, size_toList]; omega) _).mono ?_
              rintro e w4 ⟨n, rfl, hn1, hn2, hW⟩
              subst hW
              have hx : (s.extract 0 k).data.toList = s.data.toList.takeWhile Lx.isDig := by rw [HTK.out, extract_take]
              have TB := Lx.tooBig_ref _ List.all_takeWhile HNE.out
              rw [hx] at hn1
              rw [HLEN.out, HHD.out, headD_byte s hpos] at TB
              have HX : Hid ((s.extract 0 k).data.toList = s.data.toList.takeWhile Lx.isDig) := hx
              by_cases hbig : 2147483647 < n
              · have hb2 : (2147483647 : Int) < (n : Int) := by omega
                have HF : Hid (Lx.first s.data.toList = .err 2) := by
                  show _ = _
                  rw [first_dig HNE.out, if_pos (TB.2 (Or.inr (hn1.1 hbig)))]
                clear hn1 hn2 hx TB
                go_wp2_with fail
                refine bodyPost_ret (v := .tuple #[.agg #[.int .i64 0, .string ⟨#[]⟩, .int .i64 0], .int .i64 2]) (by simp [results, Tryz.results14, go_sem, a0, a1, a2]) rfl ?_
                exact ⟨0, 2, ⟨#[]⟩, 0, rfl, (((bW.setCell up _).setCell up _).setCell up _), Or.inr ⟨by omega, HF.out⟩⟩
              · have hb2 : ¬ (2147483647 : Int) < (n : Int) := by omega
                have HF : Hid (Lx.first s.data.toList = .tok 2 (s.extract 0 k).data.toList) := by
                  show _ = _
                  rw [first_dig HNE.out, hx, if_neg]
                  rw [TB]
                  rintro (h | h)
                  · exact H48.out h
                  · exact hbig (hn1.2 h)
                clear hn1 hn2 hx TB
                go_wp2_with fail
                refine bodyPost_ret (v := .tuple #[.agg #[.int .i64 2, .string (s.extract 0 k), .int .i64 p], .int .i64 0]) (by simp [results, Tryz.results14, go_sem, a0, a1, a2]) rfl ?_
                exact ⟨2, 0, _, p, rfl, (((bW.setCell up _).setCell up _).setCell up _), Or.inl ⟨rfl, rfl, HF.out⟩⟩
        · have hk2 : ¬ (k : Int) < (s.size : Int) := by omega
          have HEQ : Hid (k = s.size) := heq
          clear heq
          by_cases h48 : 1 < k ∧ s[0] = 48
          · have h1 : (1 : Int) < (k : Int) := by omega
            have h2 : (((s[0].toNat : Nat) : Int) == 48) = true := byte48.2 h48.2
            have HF : Hid (Lx.first s.data.toList = .err 2) := by
              show _ = _
              rw [first_dig HNE.out, if_pos ((Lx.tooBig_ref _ List.all_takeWhile HNE.out).2 (Or.inl ⟨by rw [HLEN.out]; omega, by rw [HHD.out, headD_byte s hpos]; exact h48.2⟩))]
            clear h48
            go_wp2_with fail
            refine bodyPost_ret (v := .tuple #[.agg #[.int .i64 0, .string ⟨#[]⟩, .int .i64 0], .int .i64 2]) (by simp [results, Tryz.results14, go_sem, a0, a1, a2]) rfl ?_
            exact ⟨0, 2, ⟨#[]⟩, 0, rfl, (((bW.setCell up _).setCell up _).setCell up _), Or.inr ⟨by omega, HF.out⟩⟩
          · have hor : (¬ (1 : Int) < (k : Int)) ∨ ((1 : Int) < (k : Int) ∧ (((s[0].toNat : Nat) : Int) == 48) = false) := by
              by_cases h1 : 1 < k
              · refine Or.inr ⟨by omega, ?_⟩
                rw [← Bool.not_eq_true, byte48]; exact fun h => h48 ⟨h1, h⟩
              · exact Or.inl (by omega)
            have H48 : Hid (¬ (1 < k ∧ s[0] = 48)) := h48
            clear h48
            rcases hor with h1 | ⟨h1, h2⟩
            all_goals
              go_wp2_with fail
              refine (rValue_any (s.extract 0 k) (by rw [extract_take, ← HTK.out]; exact List.all_takeWhile) (by rw [← size_toList, extract_take, List.length_take, size_toList]; omega) _).mono ?_
              rintro e w4 ⟨n, rfl, hn1, hn2, hW⟩
              subst hW
              have hx : (s.extract 0 k).data.toList = s.data.toList.takeWhile Lx.isDig := by rw [HTK.out, extract_take]
              have TB := Lx.tooBig_ref _ List.all_takeWhile HNE.out
              rw [hx] at hn1
              rw [HLEN.out, HHD.out, headD_byte s hpos] at TB
              have HX : Hid ((s.extract 0 k).data.toList = s.data.toList.takeWhile Lx.isDig) := hx
              by_cases hbig : 2147483647 < n
              · have hb2 : (2147483647 : Int) < (n : Int) := by omega
                have HF : Hid (Lx.first s.data.toList = .err 2) := by
                  show _ = _
                  rw [first_dig HNE.out, if_pos (TB.2 (Or.inr (hn1.1 hbig)))]
                clear hn1 hn2 hx TB
                go_wp2_with fail
                refine bodyPost_ret (v := .tuple #[.agg #[.int .i64 0, .string ⟨#[]⟩, .int .i64 0], .int .i64 2]) (by simp [results, Tryz.results14, go_sem, a0, a1, a2]) rfl ?_
                exact ⟨0, 2, ⟨#[]⟩, 0, rfl, (((bW.setCell up _).setCell up _).setCell up _), Or.inr ⟨by omega, HF.out⟩⟩
              · have hb2 : ¬ (2147483647 : Int) < (n : Int) := by omega
                have HF : Hid (Lx.first s.data.toList = .tok 2 (s.extract 0 k).data.toList) := by
                  show _ = _
                  rw [first_dig HNE.out, hx, if_neg]
                  rw [TB]
                  rintro (h | h)
                  · exact H48.out h
                  · exact hbig (hn1.2 h)
                clear hn1 hn2 hx TB
                go_wp2_with fail
                refine bodyPost_ret (v := .tuple #[.agg #[.int .i64 2, .string (s.extract 0 k), .int .i64 p], .int .i64 0]) (by simp [results, Tryz.results14, go_sem, a0, a1, a2]) rfl ?_
                exact ⟨2, 0, _, p, rfl, (((bW.setCell up _).setCell up _).setCell up _), Or.inl ⟨rfl, rfl, HF.out⟩⟩
end Go.Proofs.YtahalimekacliaaGreatDoor
namespace Go.Proofs.YtahalimekacliaaGreatDoor
open Go.RowKit Go.Shelf
namespace Lx
theorem lexS_after (u : Bs) : lexS (u.dropWhile (· != 10)) = lexS (afterLine u) := by
  unfold afterLine
  cases h : u.dropWhile (· != 10) with
  | nil => rfl
  | cons c r =>
    have hc : c = 10 := by
      have : ∀ l : Bs, ∀ c r, l.dropWhile (· != 10) = c :: r → c = 10 := by
        intro l
        induction l with
        | nil => intro c r h; simp at h
        | cons x l ih =>
          intro c r h
          rw [List.dropWhile_cons] at h
          split at h
          · exact ih c r h
          · rename_i hx; cases h; simpa using hx
      exact this u c r h
    subst hc
    exact lexS_blank (by decide)
theorem drop_row (p : UInt8 → Bool) (l : Bs) : l.drop (l.takeWhile p).length = l.dropWhile p := by
  induction l with
  | nil => rfl
  | cons x l ih => rw [List.takeWhile_cons, List.dropWhile_cons]; split <;> simp_all
theorem bl_iff (c : UInt8) : isBl c = true ↔ c = 32 ∨ c = 9 ∨ c = 10 ∨ c = 13 := by
  simp [isBl, Bool.or_eq_true, or_assoc]
end Lx
theorem byte_eq {c d : UInt8} : (((c.toNat : Nat) : Int) == ((d.toNat : Nat) : Int)) = decide (c = d) := by
  rw [Bool.eq_iff_iff, beq_iff_eq, decide_eq_true_eq, ← UInt8.toNat_inj]; omega
theorem byte_ne {c d : UInt8} : (((c.toNat : Nat) : Int) != ((d.toNat : Nat) : Int)) = !decide (c = d) := by
  rw [bne, byte_eq]
theorem bl_cases (c : UInt8) (h : Lx.isBl c = true) : (((c.toNat : Nat) : Int) == 32) = true ∨ ((((c.toNat : Nat) : Int) == 32) = false ∧ (((c.toNat : Nat) : Int) == 9) = true) ∨
    ((((c.toNat : Nat) : Int) == 32) = false ∧ (((c.toNat : Nat) : Int) == 9) = false ∧ (((c.toNat : Nat) : Int) == 10) = true) ∨
    ((((c.toNat : Nat) : Int) == 32) = false ∧ (((c.toNat : Nat) : Int) == 9) = false ∧ (((c.toNat : Nat) : Int) == 10) = false ∧ (((c.toNat : Nat) : Int) == 13) = true) := by
  rcases (Lx.bl_iff c).1 h with rfl | rfl | rfl | rfl <;> decide
theorem bl_none (c : UInt8) (h : Lx.isBl c = false) : (((c.toNat : Nat) : Int) == 32) = false ∧ (((c.toNat : Nat) : Int) == 9) = false ∧ (((c.toNat : Nat) : Int) == 10) = false ∧ (((c.toNat : Nat) : Int) == 13) = false := by
  have h2 : ∀ d : UInt8, Lx.isBl d = true → (((c.toNat : Nat) : Int) == ((d.toNat : Nat) : Int)) = false := fun d hd => by
    rw [byte_eq]
    by_cases e : c = d
    · subst e; rw [h] at hd; cases hd
    · simp [e]
  exact ⟨h2 32 (by decide), h2 9 (by decide), h2 10 (by decide), h2 13 (by decide)⟩
theorem ext_size (s : ByteArray) (k : Nat) (_h : k ≤ s.size) : (s.extract k s.size).size = s.size - k := by
  rw [← size_toList, extract_drop, List.length_drop, size_toList]
theorem drop_at (s : ByteArray) (k : Nat) (h : k < s.size) : s.data.toList.drop k = s[k] :: s.data.toList.drop (k + 1) := by
  rw [List.drop_eq_getElem_cons (by rw [size_toList]; exact h)]; rfl
theorem com_iff (s : ByteArray) (a : Nat) (h : a < s.size) : Lx.isCom (s.data.toList.drop a) = true ↔ ∃ h2 : a + 1 < s.size, s[a] = 45 ∧ s[a + 1] = 45 := by
  unfold Lx.isCom
  rw [drop_at s a h]
  constructor
  · intro q
    by_cases h2 : a + 1 < s.size
    · rw [drop_at s (a + 1) h2] at q
      simp [List.isPrefixOf] at q
      exact ⟨h2, q.1.symm, q.2.symm⟩
    · have : s.data.toList.drop (a + 1) = [] := by rw [List.drop_eq_nil_iff, size_toList]; omega
      rw [this] at q
      simp [List.isPrefixOf] at q
  · rintro ⟨h2, h3, h4⟩
    rw [drop_at s (a + 1) h2, h3, h4]
    simp [List.isPrefixOf]
theorem is45 {c : UInt8} : (((c.toNat : Nat) : Int) == 45) = decide (c = 45) := byte_eq (d := 45)
theorem is10 {c : UInt8} : (((c.toNat : Nat) : Int) != 10) = !decide (c = 10) := byte_ne (d := 10)
set_option maxRecDepth 100000 in
set_option maxHeartbeats 4000000 in
theorem rLex_any (s : ByteArray) (hs : s.size ≤ 100000) (w : World) :
    Calls Tryz.prog 8 #[.string s] w (LexPost s w) := by
  have hR := heap_alloc_new w (.cells #[.int .i64 0, .int .i64 0] 25)
  go_enter Tryz.func8, Tryz.ntmps8
  go_wp2_with fail
  go_loopw [4, 5] (fun l i wr => ∃ (a : Nat) (done : List Lx.R), a ≤ s.size ∧ i = .int .i64 a ∧ LexLp s w l (s.extract a s.size) done wr) (fun _ i _ => s.size - (intOf i).toNat)
  case atStart => exact ⟨0, [], Nat.zero_le _, rfl, by simp, by simp, (Below.refl _ _).alloc (Nat.le_refl _) _, hR, World.ownsRow_nil _ _ _ _, by rw [extract_drop]; simp⟩
  case round =>
    obtain ⟨a, done, ha, rfl, LP⟩ := hrel
    clear hR
    by_cases hlt : a < s.size
    · have ha2 : (a : Int) < (s.size : Int) := by omega
      have HDA : Hid (s.data.toList.drop a = s[a] :: s.data.toList.drop (a + 1)) := drop_at s a hlt
      by_cases hbl : Lx.isBl s[a] = true
      · have LP2 : LexLp s w u4 (s.extract (a + 1) s.size) done wr := LP.step (Below.refl _ _) (by rw [ext_size _ _ (by omega), ext_size _ _ ha]; omega) (by rw [extract_drop, extract_drop, HDA.out, Lx.lexS_blank hbl])
        have hor := bl_cases s[a] hbl
        clear hbl LP
        rcases hor with h1 | ⟨h1, h2⟩ | ⟨h1, h2, h3⟩ | ⟨h1, h2, h3, h4⟩
        all_goals
          go_wp2_with fail
          go_roundw
          case rel => exact ⟨a + 1, done, by omega, by go_num, LP2⟩
          case measure => simp [intOf]; omega
      · have hbl2 : Lx.isBl s[a] = false := by simpa using hbl
        obtain ⟨h1, h2, h3, h4⟩ := bl_none s[a] hbl2
        obtain ⟨r, hr⟩ : ∃ r, r = s.extract a s.size := ⟨_, rfl⟩
        have HR : Hid (r.data.toList = s.data.toList.drop a) := by show _ = _; rw [hr, extract_drop]
        have hrs : r.size = s.size - a := by rw [hr, ext_size _ _ ha]
        have HB : Hid (r.data.toList.dropWhile Lx.isBl = r.data.toList) := by show _ = _; rw [HR.out, HDA.out, List.dropWhile_cons, if_neg hbl]
        have HE : Hid (r.data.toList ≠ []) := by show _ ≠ _; rw [HR.out, HDA.out]; simp
        rw [← hr] at LP
        have HRR : Hid (r = s.extract a s.size) := hr
        have HS : Hid (r.size = s.size - a) := hrs
        clear hbl hbl2 hr hrs
        by_cases hcom : Lx.isCom r.data.toList = true
        · have LPC : Lx.lexS r.data.toList = Lx.lexS (Lx.afterLine r.data.toList) := Lx.lexS_com HB.out HE.out hcom
          have HLC : Hid (Lx.lexS r.data.toList = Lx.lexS (r.data.toList.dropWhile (· != 10))) := by show _ = _; rw [LPC, Lx.lexS_after]
          have hc := hcom
          rw [HR.out, com_iff s a hlt] at hc
          obtain ⟨g1, g2, g3⟩ := hc
          have g1' : (a : Int) + 1 < (s.size : Int) := by omega
          have g2' : ((((s[a]).toNat : Nat) : Int) == 45) = true := by rw [is45, g2]; rfl
          have g3' : ((((s[a + 1]).toNat : Nat) : Int) == 45) = true := by rw [is45, g3]; rfl
          obtain ⟨L, hL⟩ : ∃ L, L = (r.data.toList.takeWhile (· != 10)).length := ⟨_, rfl⟩
          obtain ⟨HY0, HN0⟩ := Lx.row_facts (· != 10) r.data.toList
          rw [← hL, HR.out] at HY0 HN0
          have hLs : a + L ≤ s.size := by
            have h5 : L ≤ r.size := by rw [hL, ← size_toList]; exact (List.takeWhile_prefix _).length_le
            have := HS.out; omega
          have HYES : Hid (∀ j (h : j < s.size), a ≤ j → j < a + L → ((((s[j]).toNat : Nat) : Int) != 10) = true) := fun j h h5 h6 => by
            have := HY0 (j - a) s[j] (by omega) (by rw [List.getElem?_drop, show a + (j - a) = j by omega]; exact byte_at s j h)
            rw [is10]; simpa using this
          have HNO : Hid (∀ (h : a + L < s.size), ((((s[a + L]).toNat : Nat) : Int) != 10) = false) := fun h => by
            have := HN0 s[a + L] (by rw [List.getElem?_drop]; exact byte_at s _ h)
            rw [is10]; simpa using this
          have hLpos : 0 < L := by
            rcases Nat.eq_zero_or_pos L with h | h
            · have := HNO.out (by omega)
              rw [is10] at this
              simp only [h, Nat.add_zero, g2] at this
              exact absurd this (by decide)
            · exact h
          have HLP : Hid (LexLp s w u4 (s.extract (a + L) s.size) done wr) := LP.step (Below.refl _ _) (by rw [ext_size _ _ hLs, HS.out]; omega) (by rw [HLC.out, extract_drop, ← Lx.drop_row, ← hL, HR.out, List.drop_drop])
          clear LPC hcom g2 g3 hL HY0 HN0 LP
          obtain ⟨E, hE⟩ : ∃ E, E = a + L := ⟨_, rfl⟩
          rw [← hE] at hLs
          have HYE : Hid (∀ j (h : j < s.size), a ≤ j → j < E → ((((s[j]).toNat : Nat) : Int) != 10) = true) := fun j h h5 h6 => HYES.out j h h5 (by omega)
          have HNE : Hid (∀ (h : E < s.size), ((((s[E]).toNat : Nat) : Int) != 10) = false) := by subst hE; exact HNO.out
          have HLE : Hid (LexLp s w u4 (s.extract E s.size) done wr) := by show LexLp s w u4 (s.extract E s.size) done wr; rw [hE]; exact HLP.out
          have haE : a < E := by omega
          clear HYES HNO HLP hE hLpos
          go_wp2_with fail
          obtain ⟨wo, rfl⟩ : ∃ wo : World, wo = wr := ⟨_, rfl⟩
          go_loopw [5] (fun i wr => ∃ j : Nat, a ≤ j ∧ j ≤ E ∧ i = .int .i64 j ∧ wr = wo) (fun i _ => E - (intOf i).toNat)
          case atStart => exact ⟨a, Nat.le_refl _, by omega, rfl, rfl⟩
          case round =>
            obtain ⟨j, hj1, hj2, rfl, hW⟩ := hrel
            subst hW
            by_cases hjl : j < E
            · have hjs : j < s.size := by omega
              have hj3 : (j : Int) < (s.size : Int) := by omega
              have hy := HYE.out j hjs hj1 hjl
              go_wp2_with fail
              go_roundw
              case rel => exact ⟨j + 1, by omega, by omega, by go_num, by trivial⟩
              case measure => simp [intOf]; omega
            · have hje : j = E := by omega
              subst hje
              by_cases hend : j < s.size
              · have hj3 : (j : Int) < (s.size : Int) := by omega
                have hn := HNE.out hend
                go_wp2_with fail
                go_roundw
                case rel => exact ⟨j, done, hLs, rfl, HLE.out⟩
                case measure => simp [intOf]; omega
              · have hj3 : ¬ (j : Int) < (s.size : Int) := by omega
                go_wp2_with fail
                go_roundw
                case rel => exact ⟨j, done, hLs, rfl, HLE.out⟩
                case measure => simp [intOf]; omega
        · have hcom2 : Lx.isCom r.data.toList = false := by simpa using hcom
          have hcs := hcom
          rw [HR.out, com_iff s a hlt] at hcs
          have hor : (¬ (a : Int) + 1 < (s.size : Int)) ∨ ((a : Int) + 1 < (s.size : Int) ∧ ((((s[a]).toNat : Nat) : Int) == 45) = false) ∨ ∃ h : a + 1 < s.size, (a : Int) + 1 < (s.size : Int) ∧ ((((s[a]).toNat : Nat) : Int) == 45) = true ∧ ((((s[a + 1]).toNat : Nat) : Int) == 45) = false := by
            by_cases g1 : a + 1 < s.size
            · by_cases g2 : s[a] = 45
              · have g3 : ¬ s[a + 1] = 45 := fun g3 => hcs ⟨g1, g2, g3⟩
                exact Or.inr (Or.inr ⟨g1, by omega, by rw [is45, g2]; rfl, by rw [is45]; simpa using g3⟩)
              · exact Or.inr (Or.inl ⟨by omega, by rw [is45]; simpa using g2⟩)
            · exact Or.inl (by omega)
          have HC : Hid (Lx.isCom r.data.toList = false) := hcom2
          clear hcom hcom2 hcs
          have hrsz : r.size ≤ 100000 := by have := HS.out; omega
          have hrpos : 0 < r.size := by have := HS.out; omega
          rcases hor with g1 | ⟨g1, g2⟩ | ⟨g0, g1, g2, g3⟩
          all_goals
            go_wp2_with fail
            rw [← HRR.out]
            refine (rone_any r a hrsz hrpos wr).mono ?_
            rintro e w3 ⟨k, er, t, p', rfl, hb3, hor⟩
            have LP3 := LP.step hb3 (Nat.le_refl _) rfl
            clear LP hb3
            rcases hor with ⟨rfl, hp, hf⟩ | ⟨hne, hf⟩
            · have hp2 := hp.symm
              subst hp2
              have hpr := (Lx.first_tok hf).1
              have htn : t.data.toList ≠ [] := (Lx.first_tok hf).2.resolve_right HE.out
              have htl : t.size ≤ r.size := by rw [size_of_list, size_of_list]; exact hpr.length_le
              have HT : Hid (Lx.lexS r.data.toList = _) := Lx.lexS_tok HB.out HE.out HC.out hf
              have HN : Hid (t.data.toList ≠ []) := htn
              have hfw := LP3.few
              have hlb := LP3.below.size
              have hnewA := heap_alloc_new w3 (.cells #[.int .i64 k, .string t, .int .i64 a] 47)
              have hnewB := heap_alloc_new (w3.alloc (.cells #[.int .i64 k, .string t, .int .i64 a] 47)) (.cells #[.int .i64 k, .string t, .int .i64 a] 47)
              have hA2 : ((w3.alloc (.cells #[.int .i64 k, .string t, .int .i64 a] 47)).alloc (.cells #[.int .i64 k, .string t, .int .i64 a] 47)).heap[w3.heap.size]? = some (.cells #[.int .i64 k, .string t, .int .i64 a] 47) := (Below.heap_alloc _ _ _ (by simp)).trans hnewA
              rw [World.size_alloc] at hnewB
              have LPA := LP3.step ((Below.refl _ _).alloc (Nat.le_refl _) (.cells #[.int .i64 k, .string t, .int .i64 a] 47)) (Nat.le_refl _) rfl
              have HNA : Hid (_ ∧ _) := ⟨hnewB, hA2⟩
              clear hpr htn hf hnewA hnewB hA2
              go_wp2_with (at_builtin; refine wpList_app rowTok rfl _ _ rfl (w.heap.size + 1) _ _ _ rfl (LPA.own.alloc _) ⟨w3.heap.size + 1, 0, none⟩ 1 [.int .i64 k, .string t, .int .i64 a] rfl rfl (World.news_of_block HNA.out.1) (by simp [Value.oneCell']) (by omega) (by simp; omega) (w3.heap.size + 2) (by simp) ?_)
              intro g cap w4 hown hgrow hat hlt hcap
              have hlow : ∀ q, u4.ownBlock = some q → w.heap.size + 1 ≤ q ∧ q < w3.heap.size := LP3.own.lt
              have hA4 := (hgrow.block w3.heap.size (by simp; omega) (fun q => by have := (hlow _ q.symm).2; omega)).trans HNA.out.2
              have hc1 : w4.cell? ⟨w3.heap.size, 1, none⟩ = some (.string t) := by simp [World.cell?, hA4]
              have LP4 := LPA.push (u' := s.extract (a + t.size) s.size) (d := a) (by have := HS.out; omega) HN.out htl HT.out (by rw [extract_drop, HR.out, List.drop_drop, size_toList]) hown hgrow
              clear hown hgrow hat LP3 LPA hfw hlb hlow HNA hA4
              have hpos : 0 < t.size := by rw [size_of_list]; exact List.length_pos_iff.2 HN.out
              have hts : a + t.size ≤ s.size := by have := HS.out; omega
              generalize w3.heap.size = tb at hc1 ⊢
              go_wp2_with fail
              go_roundw
              case rel => exact ⟨a + t.size, _, hts, by go_num, LP4⟩
              case measure => simp [intOf]; omega
            · have hne2 : ((er : Int) != 0) = true := by rw [bne_iff_ne]; omega
              obtain ⟨c0, c1, f0, f1⟩ := two_cells (show (w3.alloc (.cells #[.int .i64 k, .string t, .int .i64 p'] 47)).heap[w.heap.size]? = _ from (Below.heap_alloc _ _ _ (Array.getElem?_eq_some_iff.1 LP3.ret).1).trans LP3.ret)
              have HN : Hid (er ≠ 0) := hne
              have HT : Hid (Lx.lexS r.data.toList = _) := Lx.lexS_err HB.out HE.out HC.out hf
              have hB4 := LP3.below.alloc LP3.below.size (.cells #[.int .i64 k, .string t, .int .i64 p'] 47)
              have heq := LP3.eq
              have HQ : Hid ((Lx.lexS s.data.toList).2 = some (er, r.data.toList.length)) := by show _ = _; rw [heq, HT.out]
              clear hne hf heq LP3
              go_wp2_with fail
              refine bodyPost_ret (v := .tuple #[.slice none 0 0, .agg #[.int .i64 er, .int .i64 a]]) (by simp [results, Tryz.results8, go_sem, c0, c1]) rfl ?_
              exact ⟨_, _, _, rfl, (hB4.setCell (Nat.le_refl _) _).setCell (Nat.le_refl _) _, Or.inr ⟨er, _, HN.out, rfl, by rw [size_toList]; have := HS.out; omega, HQ.out, rfl⟩⟩
    · have hea : a = s.size := by omega
      subst hea
      obtain ⟨c0, c1, f0, f1⟩ := two_cells LP.ret
      have hq : Lx.lexS s.data.toList = (done, none) := by
        rw [LP.eq, extract_drop]
        have : s.data.toList.drop s.size = [] := by rw [List.drop_eq_nil_iff, size_toList]; omega
        rw [this, Lx.lexS_nil]; simp
      have HQ : Hid (_ = _) := hq
      clear hq
      go_wp2_with fail
      refine bodyPost_ret (v := .tuple #[u4, .agg #[.int .i64 0, .int .i64 0]]) (by simp [results, Tryz.results8, go_sem, c0, c1]) rfl ?_
      refine ⟨_, _, _, rfl, (LP.below.setCell (Nat.le_refl _) _).setCell (Nat.le_refl _) _, Or.inl ⟨rfl, rfl, by rw [HQ.out], ?_⟩⟩
      rw [HQ.out]
      exact (ownsRow_setCell_below (ownsRow_setCell_below LP.own (by simp) _) (by simp) _).mono (by omega)
end Go.Proofs.YtahalimekacliaaGreatDoor
namespace Go.Proofs.YtahalimekacliaaGreatDoor
open Go.RowKit Go.Shelf Tx Px
theorem sl_take {α : Type} {enc : α → List Value} {k : Nat} {w : World} {a : Option Addr} {n c m : Nat} {l : List α} (h : Sl enc k w (.slice a n c) l) (hn : n = l.length) (hm : m ≤ n) : Sl enc k w (.slice a m c) (l.take m) := by
  rcases h with ⟨rfl, a', c', e⟩ | ⟨b, o, c', e, h1, h2, h3⟩
  · cases e
    have : m = 0 := by simpa using hm
    subst this; exact Or.inl ⟨rfl, _, _, rfl⟩
  · cases e
    refine Or.inr ⟨b, o, c, by rw [List.length_take, Nat.min_eq_left (by omega)], by rw [List.length_take]; omega, h2, fun i x hx j u hu => h3 i x ?_ j u hu⟩
    rw [List.getElem?_take] at hx
    split at hx
    · exact hx
    · cases hx
end Go.Proofs.YtahalimekacliaaGreatDoor
namespace Go.Proofs.YtahalimekacliaaGreatDoor
open Go.RowKit Go.Shelf
namespace Lx
theorem join_snoc (l : List Bs) (t : Bs) : join (l ++ [t]) = if l = [] then t else join l ++ 32 :: t := by
  induction l with
  | nil => rfl
  | cons a l ih =>
    cases l with
    | nil => simp [join]
    | cons b l =>
      have e : (a :: b :: l) ++ [t] = a :: ((b :: l) ++ [t]) := rfl
      have e2 : ∀ m : List Bs, m ≠ [] → join (a :: m) = a ++ 32 :: join m := by
        intro m hm
        cases m with
        | nil => exact absurd rfl hm
        | cons _ _ => rfl
      rw [e, e2 _ (by simp), ih, if_neg (by simp), if_neg (by simp), e2 (b :: l) (by simp)]
      simp
def room (l : List Bs) : Nat := (l.map (fun t => t.length + 1)).sum
theorem lexS_room : ∀ r, room ((lexS r).1.map (·.t)) ≤ 2 * r.length := by
  refine lex_ind ?_ ?_ ?_ ?_ ?_
  · rw [lexS_nil]; simp [room]
  · intro c r hb ih; rw [lexS_blank hb]; simp; omega
  · intro u hn hu hc ih; rw [lexS_com hn hu hc]; have := after_len hu; omega
  · intro u e hn hu hc he; rw [lexS_err hn hu hc he]; simp [room]
  · intro u k t hn hu hc ht hp hne ih
    rw [lexS_tok hn hu hc ht]
    have h1 := hp.length_le
    have h2 := List.length_pos_iff.2 hne
    simp only [room, List.map_cons, List.sum_cons, List.length_drop] at ih ⊢
    omega
end Lx
def texts (l : List Tok) : List Lx.Bs := l.map (fun x => x.t.data.toList)
end Go.Proofs.YtahalimekacliaaGreatDoor
namespace Go.Proofs.YtahalimekacliaaGreatDoor
open Go.RowKit Go.Shelf
theorem concat_list (a b : ByteArray) : (a ++ b).data.toList = a.data.toList ++ b.data.toList := by simp
set_option maxHeartbeats 1000000 in
theorem rJoin_any (w : World) (v : Value) (l : List Tok) (hv : Sl tokC 3 w v l) (hl : Lx.room (texts l) ≤ 1000000) :
    Calls Tryz.prog 11 #[v] w fun e w' => ∃ s : ByteArray, e = .returned (.string s) ∧ s.data.toList = Lx.join (texts l) ∧ w' = w := by
  obtain ⟨a, c, rfl, hlc, hcell⟩ := hv.form
  obtain ⟨n, hn⟩ : ∃ n, n = l.length := ⟨_, rfl⟩
  have hn2 : n ≤ 1000000 := by
    have : ∀ m : List Lx.Bs, m.length ≤ Lx.room m := by
      intro m; induction m with
      | nil => simp [Lx.room]
      | cons a m ih => simp only [Lx.room, List.map_cons, List.sum_cons, List.length_cons] at ih ⊢; omega
    have h3 := this (texts l)
    have h4 : (texts l).length = l.length := by simp [texts]
    omega
  rw [← hn] at hlc ⊢
  have HN : Hid (n = l.length) := hn
  clear hn hv
  go_enter Tryz.func11, Tryz.ntmps11
  go_wp2_with fail
  go_loopw [3, 4] (fun s i wr => ∃ (k : Nat) (q : ByteArray), k ≤ n ∧ i = .int .i64 k ∧ s = .string q ∧ q.data.toList = Lx.join ((texts l).take k) ∧ wr = w) (fun _ i _ => n - (intOf i).toNat)
  case atStart => exact ⟨0, ⟨#[]⟩, Nat.zero_le _, rfl, rfl, rfl, rfl⟩
  case round =>
    obtain ⟨k, q, hk, rfl, rfl, hq, hW⟩ := hrel
    subst hW
    by_cases hlt : k < n
    · obtain ⟨x, hx⟩ : ∃ x, l[k]? = some x := ⟨_, List.getElem?_eq_getElem (by have := HN.out; omega)⟩
      obtain ⟨b, o, rfl, hc⟩ := hcell wr (Below.refl _ _) k x hx
      have c1 : wr.cell? ⟨b, o + k * 3 + 1, none⟩ = some (.string x.t) := hc 1 _ rfl
      have hkn : (k : Int) < (n : Int) := by omega
      obtain ⟨xt, hxt⟩ : ∃ q, q = x.t := ⟨_, rfl⟩
      rw [← hxt] at c1
      have hroom : (Lx.join ((texts l).take k)).length + xt.size + 1 ≤ 1000000 := by
        have h1 := Lx.join_length ((texts l).take k)
        have h2 := Lx.sum_take (fun t => t.length + 1) (texts l) k xt.data.toList (by simp [texts, hx, hxt])
        have h3 : ((texts l).map (fun t => t.length + 1)).sum = Lx.room (texts l) := rfl
        have h4 := size_toList xt
        omega
      rw [← hq, size_toList] at hroom
      have HS : Hid (Lx.join ((texts l).take (k + 1)) = if k = 0 then xt.data.toList else Lx.join ((texts l).take k) ++ 32 :: xt.data.toList) := by
        show _ = _
        have e : (texts l).take (k + 1) = (texts l).take k ++ [xt.data.toList] := by
          rw [List.take_add_one]; simp [texts, hx, hxt]
        rw [e, Lx.join_snoc]
        have : (texts l).take k = [] ↔ k = 0 := by
          have hl2 : (texts l).length = n := by have := HN.out; simp [texts]; omega
          constructor
          · intro h
            have := congrArg List.length h
            rw [List.length_take, List.length_nil] at this; omega
          · rintro rfl; rfl
        simp only [this]
      have HQ : Hid (q.data.toList = Lx.join ((texts l).take k)) := hq
      clear hx hxt hc hcell hq
      by_cases hk0 : k = 0
      · rw [if_pos hk0] at HS
        have hq0 : q.data.toList = [] := by rw [HQ.out, hk0]; rfl
        have HQ0 : Hid (q.data.toList = []) := hq0
        have hk1 : ¬ 0 < k := by omega
        clear hk0 hq0
        go_wp2_with fail
        go_roundw
        case rel => exact ⟨k + 1, _, by omega, by go_num, rfl, by rw [concat_list, HQ0.out, HS.out]; rfl, by trivial⟩
        case measure => simp [intOf]; omega
      · have hk0' : 0 < k := by omega
        rw [if_neg hk0] at HS
        clear hk0
        go_wp2_with fail
        go_roundw
        case rel => exact ⟨k + 1, _, by omega, by go_num, rfl, by rw [concat_list, concat_list, HQ.out, HS.out, List.append_assoc]; rfl, by trivial⟩
        case measure => simp [intOf]; omega
    · have hke : k = n := by omega
      subst hke
      have HQ : Hid (q.data.toList = Lx.join (texts l)) := by
        show _ = _
        rw [hq, List.take_of_length_le (by have := HN.out; simp [texts]; omega)]
      clear hq hcell
      go_wp2_with fail
      go_ret
      exact ⟨q, rfl, HQ.out, rfl⟩
end Go.Proofs.YtahalimekacliaaGreatDoor
namespace Go.Proofs.YtahalimekacliaaGreatDoor
open Go.RowKit Go.Shelf Tx Px Gx
theorem alike_toks {N M : Nat} {l l' : List Lx.R} (h : l.map (fun x => (x.k, x.t)) = l'.map (fun x => (x.k, x.t))) : Px.AlkT (toks N l) (toks M l') := by
  unfold Px.AlkT toks
  rw [List.map_map, List.map_map]
  have h2 := congrArg (List.map (fun y : Nat × Lx.Bs => (y.1, (⟨y.2.toArray⟩ : ByteArray)))) h
  rw [List.map_map, List.map_map] at h2
  exact h2
theorem texts_of (N : Nat) (l : List Lx.R) : texts (toks N l) = l.map (·.t) := by
  unfold texts toks
  rw [List.map_map]
  apply List.map_congr_left
  intro x _
  simp [tok]
set_option maxRecDepth 100000 in
theorem rLex_big (s : ByteArray) (hs : 100000 < s.size) (w : World) :
    Calls Tryz.prog 8 #[.string s] w fun e w' => e = .returned (.tuple #[.slice none 0 0, .agg #[.int .i64 7, .int .i64 (-1)]]) ∧ Below w.heap.size w w' := by
  have hb : (100000 : Int) < (s.size : Int) := by omega
  have b1 : Below w.heap.size w (((w.alloc (.cells #[.int .i64 0, .int .i64 0] 25)).setCell ⟨w.heap.size, 0, none⟩ (.int .i64 7)).setCell ⟨w.heap.size, 1, none⟩ (.int .i64 (-1))) := (((Below.refl _ _).alloc (Nat.le_refl _) _).setCell (Nat.le_refl _) _).setCell (Nat.le_refl _) _
  have b2 : Below w.heap.size w (w.alloc (.cells #[.int .i64 7, .int .i64 (-1)] 25)) := (Below.refl _ _).alloc (Nat.le_refl _) _
  obtain ⟨u0, u1, u2, u3⟩ := two_cells (Blk.new w #[.int .i64 0, .int .i64 0] 25)
  clear hs
  go_enter Tryz.func8, Tryz.ntmps8
  go_wp2_with fail
  refine bodyPost_ret (v := .tuple #[.slice none 0 0, .agg #[.int .i64 7, .int .i64 (-1)]]) (by simp [results, Tryz.results8, go_sem, u0, u1]) rfl ?_
  exact ⟨rfl, by first | exact b1 | exact b2 | exact b1.drew⟩
theorem rLex_all (s : ByteArray) (w : World) : Calls Tryz.prog 8 #[.string s] w fun e w' => ∃ a n c er at_, e = .returned (.tuple #[.slice a n c, .agg #[.int .i64 er, .int .i64 at_]]) ∧ Below w.heap.size w w' := by
  by_cases h : 100000 < s.size
  · exact (rLex_big s h w).mono fun e w' ⟨h1, h2⟩ => ⟨none, 0, 0, 7, -1, h1, h2⟩
  · refine (rLex_any s (by omega) w).mono fun e w' ⟨v, er, at_, h1, h2, h3⟩ => ?_
    rcases h3 with ⟨_, _, _, hown⟩ | ⟨_, _, _, _, _, _, rfl⟩
    · obtain ⟨a, c, rfl, _⟩ := (Sl.own tokC_len hown (by simp [toks])).form
      exact ⟨_, _, _, er, at_, h1, h2⟩
    · exact ⟨_, _, _, er, at_, h1, h2⟩
end Go.Proofs.YtahalimekacliaaGreatDoor
namespace Go.Proofs.YtahalimekacliaaGreatDoor
open Go.RowKit Go.Shelf Tx Px Gx
theorem app_toks {s t : ByteArray} {b : List UInt8} (ht : t.data.toList = s.data.toList ++ 10 :: b) (h : (Lx.lexS s.data.toList).2 = none) (hb : (Lx.lexS b).2 = none) :
    (Lx.lexS t.data.toList).2 = none ∧ toks t.size (Lx.lexS t.data.toList).1 = toks s.size (Lx.lexS s.data.toList).1 ++ toks t.size (Lx.lexS b).1 := by
  have hsz : t.size = s.size + (b.length + 1) := by rw [← size_toList, ht, ← size_toList]; simp
  rw [ht, Lx.lexS_line]
  unfold Lx.glue
  rw [h]
  refine ⟨hb, ?_⟩
  show toks t.size ((Lx.lexS s.data.toList).1.map (Lx.sh (b.length + 1)) ++ (Lx.lexS b).1) = _
  unfold toks
  rw [List.map_append, List.map_map]
  congr 1
  apply List.map_congr_left
  intro x _
  show (⟨x.k, ⟨x.t.toArray⟩, t.size - (x.m + (b.length + 1))⟩ : Tok) = ⟨x.k, ⟨x.t.toArray⟩, s.size - x.m⟩
  rw [hsz, Nat.add_sub_add_right]
theorem semi_lex : Lx.lexS [59] = ([⟨4, [59], 1⟩], none) := by kernel_rfl
theorem long_S {s t : ByteArray} {p : Pg} (h : PgS s (.ok p)) (ht : t.data.toList = s.data.toList ++ [10, 59]) : PgS t (.error (5, ((s.size + 1 : Nat) : Int))) := by
  obtain ⟨h1, X, hX, h2⟩ := h.lexok
  obtain ⟨h3, h4⟩ := app_toks (b := [59]) ht h1 (by rw [semi_lex])
  rw [semi_lex] at h4
  have hsz : t.size = s.size + 2 := by rw [← size_toList, ht, ← size_toList]; simp
  obtain ⟨Y, hY⟩ := XAll.ex (toks_is t)
  unfold PgS
  rw [h3]
  refine ⟨Y, hY, ?_⟩
  rw [h4] at hY ⊢
  have h5 := prog_long (t := tok t.size ⟨4, [59], 1⟩) rfl hX hY h2
  have h6 : (tok t.size ⟨4, [59], 1⟩).p = s.size + 1 := by show t.size - 1 = _; omega
  rw [h6] at h5
  exact h5.symm
theorem shortP_S {s t : ByteArray} {p : Pg} (h : PgS s (.ok p)) (ht : t.data.toList = Lx.join (texts ((toks s.size (Lx.lexS s.data.toList).1).take ((toks s.size (Lx.lexS s.data.toList).1).length - 1)))) : PgS t (.error (5, -1)) := by
  obtain ⟨h1, X, hX, h2⟩ := h.lexok
  obtain ⟨Z, hZ⟩ := XAll.ex (L := (toks s.size (Lx.lexS s.data.toList).1).take ((toks s.size (Lx.lexS s.data.toList).1).length - 1)) (fun x hx => toks_is s x (List.mem_of_mem_take hx))
  have h3 := prog_short hX hZ h2
  have e : (toks s.size (Lx.lexS s.data.toList).1).take ((toks s.size (Lx.lexS s.data.toList).1).length - 1) = toks s.size ((Lx.lexS s.data.toList).1.take ((toks s.size (Lx.lexS s.data.toList).1).length - 1)) := by unfold toks; rw [List.map_take]
  generalize hk : (toks s.size (Lx.lexS s.data.toList).1).length - 1 = k at *
  obtain ⟨j1, j2⟩ := Lx.lexS_join ((Lx.lexS s.data.toList).1.take k) (fun x hx => Lx.lexS_is s.data.toList x (List.mem_of_mem_take hx))
  rw [e, texts_of] at ht
  rw [← ht] at j1 j2
  obtain ⟨Y, hY⟩ := XAll.ex (toks_is t)
  unfold PgS
  rw [j1]
  refine ⟨Y, hY, ?_⟩
  have hal : Px.AlkT ((toks s.size (Lx.lexS s.data.toList).1).take k) (toks t.size (Lx.lexS t.data.toList).1) := by rw [e]; exact alike_toks j2.symm
  rcases prog_rel hal (fun x hx => toks_is s x (List.mem_of_mem_take hx)) hZ.ok hY.ok with ⟨q, e1, _⟩ | ⟨c, i, hc, e1, e2⟩
  · rw [h3] at e1; cases e1
  · rw [h3] at e1
    simp only [Except.error.injEq, Prod.mk.injEq] at e1
    obtain ⟨rfl, e3⟩ := e1
    rw [e2]
    have h5 : ((atP ((toks s.size (Lx.lexS s.data.toList).1).take k) i) == -1) = true := by rw [← e3]; rfl
    rw [atP_none, decide_eq_true_eq, hal.len, ← decide_eq_true_eq (p := _ ≤ i), ← atP_none, beq_iff_eq] at h5
    rw [h5]
end Go.Proofs.YtahalimekacliaaGreatDoor
namespace Go.Proofs.YtahalimekacliaaGreatDoor
open Go.RowKit Go.Shelf Tx Px Gx Mx
set_option maxRecDepth 100000 in
theorem Lex_big (s : ByteArray) (hs : 100000 < s.size) (w : World) :
    Calls Tryz.prog 15 #[.string s] w fun e w' => e = .returned (.tuple #[.slice none 0 0, .agg #[.int .i64 7, .int .i64 (-1)]]) ∧ Below w.heap.size w w' := by
  have hb : (100000 : Int) < (s.size : Int) := by omega
  have b1 : Below w.heap.size w (((w.alloc (.cells #[.int .i64 0, .int .i64 0] 25)).setCell ⟨w.heap.size, 0, none⟩ (.int .i64 7)).setCell ⟨w.heap.size, 1, none⟩ (.int .i64 (-1))) := (((Below.refl _ _).alloc (Nat.le_refl _) _).setCell (Nat.le_refl _) _).setCell (Nat.le_refl _) _
  have b2 : Below w.heap.size w (w.alloc (.cells #[.int .i64 7, .int .i64 (-1)] 25)) := (Below.refl _ _).alloc (Nat.le_refl _) _
  obtain ⟨u0, u1, u2, u3⟩ := two_cells (Blk.new w #[.int .i64 0, .int .i64 0] 25)
  clear hs
  go_enter Tryz.func15, Tryz.ntmps15
  go_wp2_with fail
  refine bodyPost_ret (v := .tuple #[.slice none 0 0, .agg #[.int .i64 7, .int .i64 (-1)]]) (by simp [results, Tryz.results15, go_sem, u0, u1]) rfl ?_
  exact ⟨rfl, by first | exact b1 | exact b2 | exact b1.drew⟩
set_option maxRecDepth 100000 in
set_option maxHeartbeats 8000000 in
theorem pProg_big (s : ByteArray) (hs : 100000 < s.size) (wS : World) :
    Calls Tryz.prog 10 #[.string s] wS fun e w' => e = .returned (.tuple #[.agg #[.slice none 0 0, .string ⟨#[]⟩, .string ⟨#[]⟩], .agg #[.int .i64 7, .int .i64 (-1)]]) ∧ Below wS.heap.size wS w' := by
  obtain ⟨WA, hWA⟩ : ∃ W, W = (wS.alloc (.cells #[.slice none 0 0, .string ⟨#[]⟩, .string ⟨#[]⟩] 31)).alloc (.cells #[.int .i64 0, .int .i64 0] 25) := ⟨_, rfl⟩
  have bA : Below wS.heap.size wS WA := by rw [hWA]; exact ((Below.refl _ _).alloc (Nat.le_refl _) _).alloc (by simp) _
  have kp0 : Blk WA wS.heap.size #[.slice none 0 0, .string ⟨#[]⟩, .string ⟨#[]⟩] 31 := by rw [hWA]; exact (Blk.new wS _ _).below ((Below.refl _ _).alloc (Nat.le_refl _) _)
  have kf0 : Blk WA (wS.heap.size + 1) #[.int .i64 0, .int .i64 0] 25 := by rw [hWA]; have h := Blk.new (wS.alloc (.cells #[.slice none 0 0, .string ⟨#[]⟩, .string ⟨#[]⟩] 31)) #[.int .i64 0, .int .i64 0] 25; simpa using h
  have hlex := Lex_big s hs WA
  have HWA := Lib.hid hWA
  have HBA := Lib.hid bA
  have HKP0 := Lib.hid kp0
  have HKF0 := Lib.hid kf0
  obtain ⟨pb, hpb⟩ : ∃ b, b = wS.heap.size := ⟨_, rfl⟩
  obtain ⟨fb, hfb⟩ : ∃ b, b = wS.heap.size + 1 := ⟨_, rfl⟩
  have hpf : pb < fb := by omega
  have hpl : Hid (wS.heap.size ≤ pb) := by show _ ≤ _; omega
  have hfl : Hid (wS.heap.size ≤ fb) := by show _ ≤ _; omega
  rw [← hpb] at HKP0
  rw [← hfb] at HKF0
  have HPB := Lib.hid hpb
  have HFB := Lib.hid hfb
  clear hWA bA kp0 kf0 hpb hfb
  go_enter Tryz.func10, Tryz.ntmps10
  go_upto_region 1 with fail
  rw [← HWA.out, ← HFB.out, ← HPB.out]
  go_wp2_with fail
  refine hlex.mono ?_
  rintro e w1 ⟨rfl, hb1⟩
  have HB1 := Lib.hid hb1
  have HKP1 := Lib.hid (HKP0.out.below hb1)
  have HKF1 := Lib.hid (HKF0.out.below hb1)
  have HBL1 : Hid (Below wS.heap.size wS w1) := below_next HBA.out hb1
  clear hlex hb1
  go_upto_region 2 with fail
  refine wp_letW ?_
  intro V hV
  have bv : Below w1.heap.size w1 V := by rw [hV]; exact (Below.refl _ _).alloc (Nat.le_refl _) _
  have KL : Blk V w1.heap.size #[.int .i64 7, .int .i64 (-1)] 25 := by rw [hV]; exact Blk.new w1 _ _
  have HBV : Hid (Below wS.heap.size wS V) := below_next HBL1.out bv
  obtain ⟨l0, l1, -, -⟩ := two_c KL
  have K_pr := HKP1.out.below bv
  have K_ft := HKF1.out.below bv
  have hnl : fb < w1.heap.size := HKF1.out.lt
  have p0 : V.cell? ⟨pb, 0, none⟩ = some (.slice none 0 0) := Blk.c K_pr rfl
  have pf0 : V.frozen? ⟨pb, 0, none⟩ = false := Blk.z K_pr rfl
  have p1 : V.cell? ⟨pb, 1, none⟩ = some (.string ⟨#[]⟩) := Blk.c K_pr rfl
  have pf1 : V.frozen? ⟨pb, 1, none⟩ = false := Blk.z K_pr rfl
  have p2 : V.cell? ⟨pb, 2, none⟩ = some (.string ⟨#[]⟩) := Blk.c K_pr rfl
  have pf2 : V.frozen? ⟨pb, 2, none⟩ = false := Blk.z K_pr rfl
  have t0 : V.cell? ⟨fb, 0, none⟩ = some (.int .i64 0) := Blk.c K_ft rfl
  have tf0 : V.frozen? ⟨fb, 0, none⟩ = false := Blk.z K_ft rfl
  have t1 : V.cell? ⟨fb, 1, none⟩ = some (.int .i64 0) := Blk.c K_ft rfl
  have tf1 : V.frozen? ⟨fb, 1, none⟩ = false := Blk.z K_ft rfl
  have hnpf : pb ≠ fb := by omega
  have hnfp : fb ≠ pb := by omega
  have hnpl : pb ≠ w1.heap.size := by omega
  have hnfl : fb ≠ w1.heap.size := by omega
  have hnlp : w1.heap.size ≠ pb := by omega
  have hnlf : w1.heap.size ≠ fb := by omega
  clear hV bv KL K_pr K_ft
  go_wp2_with fail
  go_region
  all_goals
    go_wp2_with fail
    refine bodyPost_ret (v := .tuple #[.agg #[.slice none 0 0, .string ⟨#[]⟩, .string ⟨#[]⟩], .agg #[.int .i64 7, .int .i64 (-1)]]) (by simp [results, Tryz.results10, go_sem, p0, p1, p2, t0, t1]) rfl ?_
    refine ⟨rfl, ?_⟩
    repeat (first | (refine Below.drew ?_) | (refine Below.setCell ?_ (by first | exact hpl.out | exact hfl.out) _))
    exact (by first | exact HBV.out.drew | exact HBV.out)
theorem pProg_all (s : ByteArray) (w : World) (G : Gl w) : Calls Tryz.prog 10 #[.string s] w fun e w' => ∃ a n c m b er at_, e = .returned (.tuple #[.agg #[.slice a n c, .string m, .string b], .agg #[.int .i64 er, .int .i64 at_]]) ∧ Below w.heap.size w w' := by
  by_cases h : 100000 < s.size
  · exact (pProg_big s h w).mono fun e w' ⟨h1, h2⟩ => ⟨_, _, _, _, _, _, _, h1, h2⟩
  · obtain ⟨r, hr⟩ := PgS.all s
    refine (pProg_any s (by omega) r hr w G).mono fun e w' ⟨h1, h2⟩ => ?_
    match r, h2 with
    | .error (c, p), ⟨_, h3⟩ => exact ⟨_, _, _, _, _, _, _, h3, h1⟩
    | .ok p, ⟨_, _, _, h3, _⟩ => exact ⟨_, _, _, _, _, _, _, h3, h1⟩
theorem wrap_small {n : Nat} (h : n ≤ 1000000) : wrap64 (n : Int) = n := by
  unfold wrap64; omega
theorem room_take (L : List Tok) (n : Nat) : Lx.room (texts (L.take n)) ≤ Lx.room (texts L) := by
  induction L generalizing n with
  | nil => simp
  | cons a L ih =>
    cases n with
    | zero => simp [texts, Lx.room]
    | succ n =>
      have h := ih n
      simp only [texts, Lx.room, List.take_succ_cons, List.map_cons, List.sum_cons] at h ⊢
      omega
theorem concat_semi (s : ByteArray) : (s ++ (⟨#[10, 59]⟩ : ByteArray)).data.toList = s.data.toList ++ [10, 59] := by simp
theorem size_semi (s : ByteArray) : (s ++ (⟨#[10, 59]⟩ : ByteArray)).size = s.size + 2 := by rw [← size_toList, concat_semi, ← size_toList]; simp
set_option maxRecDepth 100000 in
set_option maxHeartbeats 8000000 in
theorem progShort_any (s : ByteArray) (hs : s.size ≤ maxLen) (w : World) (G : Gl w) :
    Calls Tryz.prog 4 #[.string s] w fun e w' => e = .returned (.bool true) ∧ Below w.heap.size w w' := by
  have hlive := fun W (hW : Below w.heap.size w W) => live06_any W (G.below hW)
  unfold maxLen at hs
  by_cases hbig : 1500 < s.size
  · have hlex := rLex_all s w
    have hb1 : (1500 : Int) < (s.size : Int) := by omega
    have HLV := Lib.hid hlive
    have HPA := Lib.hid (fun W (hW : Below w.heap.size w W) => pProg_all s W (G.below hW))
    clear hlive G
    go_enter Tryz.func4, Tryz.ntmps4
    go_wp2_with fail
    refine hlex.mono ?_
    rintro e w1 ⟨a, n, c, er, at_, rfl, hb⟩
    clear hlex
    go_upto_region 2 with fail
    refine wp_letW ?_
    intro W1 hW1
    have b1 : Below w1.heap.size w1 W1 := by rw [hW1]; exact (Below.refl _ _).alloc (Nat.le_refl _) _
    have F1 : Hid (Blk W1 w1.heap.size #[.int .i64 er, .int .i64 at_] 25) := by show Blk _ _ _ _; rw [hW1]; exact Blk.new w1 _ _
    obtain ⟨x1, hx1⟩ : ∃ b, b = w1.heap.size := ⟨_, rfl⟩
    rw [← hx1] at F1 ⊢
    clear hW1 hx1
    have B1 : Hid (Below w.heap.size w W1) := below_next hb b1
    have hprs := HPA.out W1 B1.out
    clear b1 hb
    go_wp2_with fail
    refine hprs.mono ?_
    rintro e w2 ⟨pa, pn, pc, pm, pk, er2, at2, rfl, hb2⟩
    have B2 : Hid (Below w.heap.size w w2) := below_next B1.out hb2
    clear hprs hb2
    go_upto_region 3 with fail
    refine wp_letW ?_
    intro W2 hW2
    have b2 : Below w2.heap.size w2 W2 := by rw [hW2]; exact ((Below.refl _ _).alloc (Nat.le_refl _) _).alloc (by simp) _
    have P2 : Hid (Blk W2 w2.heap.size #[.slice pa pn pc, .string pm, .string pk] 31) := by show Blk _ _ _ _; rw [hW2]; exact (Blk.new w2 _ _).below ((Below.refl _ _).alloc (Nat.le_refl _) _)
    have F2 : Hid (Blk W2 (w2.heap.size + 1) #[.int .i64 er2, .int .i64 at2] 25) := by show Blk _ _ _ _; rw [hW2]; have h := Blk.new (w2.alloc (.cells #[.slice pa pn pc, .string pm, .string pk] 31)) #[.int .i64 er2, .int .i64 at2] 25; simpa using h
    obtain ⟨x2, hx2⟩ : ∃ b, b = w2.heap.size := ⟨_, rfl⟩
    rw [← hx2] at P2 F2 ⊢
    clear hW2 hx2
    have B3 : Hid (Below w.heap.size w W2) := below_next B2.out b2
    have hl2 := HLV.out W2 B3.out
    clear b2
    go_wp2_with fail
    refine hl2.mono ?_
    rintro e w9 ⟨rfl, hb9⟩
    have HB9 := Lib.hid (below_next B3.out hb9)
    clear hl2 hb9
    go_wp2_with fail
    go_ret
    exact ⟨rfl, HB9.out⟩
  · have hb1 : ¬ (1500 : Int) < (s.size : Int) := by omega
    obtain ⟨r, hr⟩ := PgS.all s
    have HR := Lib.hid hr
    have HPR := Lib.hid (fun (t : ByteArray) (ht : t.size ≤ 100000) (q : Except (Int × Int) Pg) (hq : PgS t q) W (hW : Below w.heap.size w W) => pProg_any t ht q hq W (G.below hW))
    have hlex := rLex_any s (by omega) w
    have HLV := Lib.hid hlive
    have HSZ : Hid (s.size ≤ 1500) := by show _ ≤ _; omega
    clear hlive G hr
    go_enter Tryz.func4, Tryz.ntmps4
    go_wp2_with fail
    refine hlex.mono ?_
    rintro e w1 ⟨v, er, at_, rfl, hb1', hcase⟩
    have HBW1 := Lib.hid hb1'
    clear hlex hb1'
    obtain ⟨ta, n, tc, rfl⟩ : ∃ a n c, v = .slice a n c := by
      rcases hcase with ⟨_, _, _, hown⟩ | ⟨_, _, _, _, _, _, rfl⟩
      · obtain ⟨a, c, h, _⟩ := (Sl.own tokC_len hown (by simp [toks])).form
        exact ⟨_, _, _, h⟩
      · exact ⟨_, _, _, rfl⟩
    have HCS := Lib.hid hcase
    clear hcase
    go_upto_region 2 with fail
    refine wp_letW ?_
    intro W1 hW1
    have b1 : Below w1.heap.size w1 W1 := by rw [hW1]; exact (Below.refl _ _).alloc (Nat.le_refl _) _
    have F1 : Hid (Blk W1 w1.heap.size #[.int .i64 er, .int .i64 at_] 25) := by show Blk _ _ _ _; rw [hW1]; exact Blk.new w1 _ _
    obtain ⟨x1, hx1⟩ : ∃ b, b = w1.heap.size := ⟨_, rfl⟩
    rw [← hx1] at F1 ⊢
    clear hW1 hx1
    have B1 : Hid (Below w.heap.size w W1) := below_next HBW1.out b1
    have HBB1 := Lib.hid b1
    have hprs := HPR.out s (by have := HSZ.out; omega) r HR.out W1 B1.out
    clear b1
    go_wp2_with fail
    refine hprs.mono ?_
    rintro e w2 ⟨hb2, hpost⟩
    have HB2 := Lib.hid hb2
    have F12 := Lib.hid (F1.out.below hb2)
    have B2 : Hid (Below w.heap.size w w2) := below_next B1.out hb2
    clear hprs hb2
    match r, hpost with
    | .error (c, p), ⟨hc, he⟩ =>
      subst he
      have hc0 : (c != 0) = true := by simp [hc]
      clear hc hpost
      go_upto_region 3 with fail
      refine wp_letW ?_
      intro W2 hW2
      have b2 : Below w2.heap.size w2 W2 := by rw [hW2]; exact ((Below.refl _ _).alloc (Nat.le_refl _) _).alloc (by simp) _
      have P2 : Hid (Blk W2 w2.heap.size #[.slice none 0 0, .string ⟨#[]⟩, .string ⟨#[]⟩] 31) := by show Blk _ _ _ _; rw [hW2]; exact (Blk.new w2 _ _).below ((Below.refl _ _).alloc (Nat.le_refl _) _)
      have F2 : Hid (Blk W2 (w2.heap.size + 1) #[.int .i64 c, .int .i64 p] 25) := by show Blk _ _ _ _; rw [hW2]; have h := Blk.new (w2.alloc (.cells #[.slice none 0 0, .string ⟨#[]⟩, .string ⟨#[]⟩] 31)) #[.int .i64 c, .int .i64 p] 25; simpa using h
      obtain ⟨x2, hx2⟩ : ∃ b, b = w2.heap.size := ⟨_, rfl⟩
      rw [← hx2] at P2 F2 ⊢
      clear hW2 hx2
      have B3 : Hid (Below w.heap.size w W2) := below_next B2.out b2
      obtain ⟨u0, u1, -, -⟩ := two_cells (F12.out.below b2)
      obtain ⟨v0, v1, -, -⟩ := two_cells F2.out
      have hl2 := HLV.out W2 B3.out
      clear b2
      by_cases her : er = 0
      · have he0 : (er != 0) = false := by simp [her]
        go_wp2_with fail
        refine hl2.mono ?_
        rintro e w9 ⟨rfl, hb9⟩
        have HB9 := Lib.hid (below_next B3.out hb9)
        clear hl2 hb9
        go_wp2_with fail
        go_ret
        exact ⟨rfl, HB9.out⟩
      · have he0 : (er != 0) = true := by simp [her]
        go_wp2_with fail
        refine hl2.mono ?_
        rintro e w9 ⟨rfl, hb9⟩
        have HB9 := Lib.hid (below_next B3.out hb9)
        clear hl2 hb9
        go_wp2_with fail
        go_ret
        exact ⟨rfl, HB9.out⟩
    | .ok p, ⟨va, n2, vc, he, hU⟩ =>
      cases he
      obtain ⟨hmain, hlen⟩ := HR.out.main
      rcases HCS.out with ⟨rfl, rfl, hl, hown⟩ | ⟨k, m, hk, rfl, rfl, hl, _⟩
      · obtain ⟨L, hL⟩ : ∃ L, L = toks s.size (Lx.lexS s.data.toList).1 := ⟨_, rfl⟩
        rw [← hL] at hown hlen
        have hLlen : (Lx.lexS s.data.toList).1.length = L.length := by rw [hL]; simp [toks]
        rw [hLlen] at hown
        have hsl : Sl tokC 3 w1 (.slice ta n tc) L := Sl.own tokC_len hown rfl
        have hnL : n = L.length := by
          obtain ⟨a, c, h, _⟩ := hsl.form
          cases h; rfl
        obtain ⟨n', hn'⟩ : ∃ n', n = n' + 1 := ⟨n - 1, by omega⟩
        have htc : n ≤ tc := by
          obtain ⟨a, c, h, hh⟩ := hsl.form
          cases h; exact hh.1
        have HSL := Lib.hid hsl
        have HL := Lib.hid hL
        have HNL := Lib.hid hnL
        have hmn : p.main.toList.isEmpty = false := by
          rw [List.isEmpty_eq_false_iff, Lib.toList_data]
          exact fun h => hmain (bytes_ext (by rw [h]; rfl))
        have HCON := HCS
        clear hown hLlen hsl hnL hL hlen hmain hU hpost hl HCS HCON
        subst hn'
        have hnl2 : n' + 1 ≤ 1500 := by
          rw [HNL.out, HL.out]
          have h1 := toks_len s
          have := HSZ.out
          omega
        go_upto_region 3 with fail
        refine wp_letW ?_
        intro W2 hW2
        have b2 : Below w2.heap.size w2 W2 := by rw [hW2]; exact ((Below.refl _ _).alloc (Nat.le_refl _) _).alloc (by simp) _
        have P2 : Hid (Blk W2 w2.heap.size #[.slice va n2 vc, .string p.main, .string p.back] 31) := by show Blk _ _ _ _; rw [hW2]; exact (Blk.new w2 _ _).below ((Below.refl _ _).alloc (Nat.le_refl _) _)
        have F2 : Hid (Blk W2 (w2.heap.size + 1) #[.int .i64 0, .int .i64 0] 25) := by show Blk _ _ _ _; rw [hW2]; have h := Blk.new (w2.alloc (.cells #[.slice va n2 vc, .string p.main, .string p.back] 31)) #[.int .i64 0, .int .i64 0] 25; simpa using h
        obtain ⟨x2, hx2⟩ : ∃ b, b = w2.heap.size := ⟨_, rfl⟩
        rw [← hx2] at P2 F2 ⊢
        clear hW2 hx2
        have B3 : Hid (Below w.heap.size w W2) := below_next B2.out b2
        obtain ⟨u0, u1, -, -⟩ := two_cells (F12.out.below b2)
        obtain ⟨v0, v1, -, -⟩ := two_cells F2.out
        have HBB2 := Lib.hid b2
        have h13 : Below w1.heap.size w1 W2 := below_next HBB1.out (below_next HB2.out b2)
        have hne0 : ((n' : Int) + 1 == 0) = false := by rw [beq_eq_false_iff_ne]; omega
        have hkc : (n' : Int) ≤ (tc : Int) := by omega
        have hk0 : (0 : Int) ≤ (n' : Int) := by omega
        have hk2 : (n' : Int) ≤ (n' : Int) + 1 := by omega
        have hsl2 := sl_take (Sl.below HSL.out h13) HNL.out (m := n') (by omega)
        have hroom : Lx.room (texts (L.take n')) ≤ 3000 := by
          have h1 := Lx.lexS_room s.data.toList
          have h2 := HSZ.out
          rw [size_toList] at h1
          rw [← texts_of s.size, ← HL.out] at h1
          have h3 : Lx.room (texts (L.take n')) ≤ Lx.room (texts L) := room_take L n'
          omega
        have hjoin := rJoin_any W2 _ (L.take n') hsl2 (by omega)
        have hjl : (Lx.join (texts (L.take n'))).length ≤ 3000 := by
          have h1 := Lx.join_length (texts (L.take n'))
          have h4 : ((texts (L.take n')).map (fun t => t.length + 1)).sum = Lx.room (texts (L.take n')) := rfl
          omega
        have HJL := Lib.hid hjl
        have hn'eq : n' = (toks s.size (Lx.lexS s.data.toList).1).length - 1 := by rw [← HL.out, ← HNL.out]; rfl
        have HNE := Lib.hid hn'eq
        have HP2 := Lib.hid P2.out
        have HF2 := Lib.hid F2.out
        clear b2 hsl2 hroom hjl h13 hn'eq htc
        have hwn : wrap64 (n' : Int) = n' := wrap_small (by omega)
        clear hnl2
        go_upto_region 5 with fail
        go_wp2_with fail
        refine hjoin.mono ?_
        rintro e w3 ⟨J, rfl, hJ, rfl⟩
        have hJs : J.size ≤ 100000 := by
          have := HJL.out
          rw [← hJ, size_toList] at this
          omega
        have hSJ : PgS J (.error (5, -1)) := shortP_S HR.out (by rw [hJ, HL.out, HNE.out])
        have hpj := HPR.out J hJs _ hSJ w3 B3.out
        clear hjoin hJ hSJ hJs u0 u1 v0 v1 hkc hk0 hk2
        go_wp2_with fail
        refine hpj.mono ?_
        rintro e w4 ⟨hb4, -, rfl⟩
        have HB4 := Lib.hid hb4
        have B4 : Hid (Below w.heap.size w w4) := below_next B3.out hb4
        clear hpj hb4
        go_upto_region 6 with fail
        refine wp_letW ?_
        intro W3 hW3
        have b3 : Below w4.heap.size w4 W3 := by rw [hW3]; exact ((Below.refl _ _).alloc (Nat.le_refl _) _).alloc (by simp) _
        have P3 : Hid (Blk W3 w4.heap.size #[.slice none 0 0, .string ⟨#[]⟩, .string ⟨#[]⟩] 31) := by show Blk _ _ _ _; rw [hW3]; exact (Blk.new w4 _ _).below ((Below.refl _ _).alloc (Nat.le_refl _) _)
        have F3 : Hid (Blk W3 (w4.heap.size + 1) #[.int .i64 5, .int .i64 (-1)] 25) := by show Blk _ _ _ _; rw [hW3]; have h := Blk.new (w4.alloc (.cells #[.slice none 0 0, .string ⟨#[]⟩, .string ⟨#[]⟩] 31)) #[.int .i64 5, .int .i64 (-1)] 25; simpa using h
        obtain ⟨x3, hx3⟩ : ∃ b, b = w4.heap.size := ⟨_, rfl⟩
        rw [← hx3] at P3 F3 ⊢
        clear hW3 hx3
        have B5 : Hid (Below w.heap.size w W3) := below_next B4.out b3
        have HB5 := Lib.hid b3
        have hS2 : PgS (s ++ (⟨#[10, 59]⟩ : ByteArray)) (.error (5, ((s.size + 1 : Nat) : Int))) := long_S HR.out (concat_semi s)
        have hpl := HPR.out _ (by rw [size_semi]; have := HSZ.out; omega) _ hS2 W3 B5.out
        clear b3 hS2
        go_wp2_with fail
        refine hpl.mono ?_
        rintro e w5 ⟨hb5, -, rfl⟩
        have HB6 := Lib.hid hb5
        have B6 : Hid (Below w.heap.size w w5) := below_next B5.out hb5
        clear hpl hb5
        go_upto_region 7 with fail
        refine wp_letW ?_
        intro W4 hW4
        have b4 : Below w5.heap.size w5 W4 := by rw [hW4]; exact ((Below.refl _ _).alloc (Nat.le_refl _) _).alloc (by simp) _
        have P4 : Hid (Blk W4 w5.heap.size #[.slice none 0 0, .string ⟨#[]⟩, .string ⟨#[]⟩] 31) := by show Blk _ _ _ _; rw [hW4]; exact (Blk.new w5 _ _).below ((Below.refl _ _).alloc (Nat.le_refl _) _)
        have F4 : Hid (Blk W4 (w5.heap.size + 1) #[.int .i64 5, .int .i64 ((s.size + 1 : Nat) : Int)] 25) := by show Blk _ _ _ _; rw [hW4]; have h := Blk.new (w5.alloc (.cells #[.slice none 0 0, .string ⟨#[]⟩, .string ⟨#[]⟩] 31)) #[.int .i64 5, .int .i64 ((s.size + 1 : Nat) : Int)] 25; simpa using h
        obtain ⟨x4, hx4⟩ : ∃ b, b = w5.heap.size := ⟨_, rfl⟩
        rw [← hx4] at P4 F4 ⊢
        clear hW4 hx4
        have B7 : Hid (Below w.heap.size w W4) := below_next B6.out b4
        obtain ⟨y0, y1, -, -⟩ := two_cells (F3.out.below (below_next HB6.out b4))
        obtain ⟨z0, z1, -, -⟩ := two_cells F4.out
        have kp : W4.cell? ⟨x2, 1, none⟩ = some (.string p.main) := by
          have h := HP2.out.below (below_next HB4.out (below_next HB5.out (below_next HB6.out b4)))
          unfold Blk at h; simp [World.cell?, h]
        have hq1 : ∀ W, (Op.equalIn 10000 25 (.agg #[.int .i64 5, .int .i64 (-1)]) (.agg #[.int .i64 5, .int .i64 (-1)])).run Tryz.prog W = .ok true W := fun W => by rw [eqFlt]; rfl
        have hq2 : ∀ W, (Op.equalIn 10000 25 (.agg #[.int .i64 5, .int .i64 ((s.size + 1 : Nat) : Int)]) (.agg #[.int .i64 5, .int .i64 ((s.size : Int) + 1)])).run Tryz.prog W = .ok true W := fun W => by rw [eqFlt]; simp
        have hl9 := HLV.out W4 B7.out
        clear b4
        go_wp2_with fail
        refine hl9.mono ?_
        rintro e w9 ⟨rfl, hb9⟩
        have HB9 := Lib.hid (below_next B7.out hb9)
        clear hl9 hb9
        go_wp2_with fail
        go_ret
        exact ⟨rfl, HB9.out⟩
      · have hlk := HR.out.lexok.1
        rw [hl] at hlk; cases hlk
end Go.Proofs.YtahalimekacliaaGreatDoor
