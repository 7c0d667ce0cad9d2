/- What the law of MgA needs of its own. -/
import Derived.WalkKit
import Derived.WalkSpells
import Derived.Deep.Onto
import Derived.Deep.AppendLies
import Derived.Deep.Draws
import Derived.OwnWalk
import Derived.Test.YtahalimekacliaaGreatDoorProg
import Derived.Shelf.Abstract
import Derived.Lib.Strings
import Derived.WalkLawsBesides
import Derived.Outline
import Derived.Laws.EntriesVeiled
import Derived.Deep.RegionHeld3
import Derived.Deep.QuietTactic
import Derived.BigQuiet
import Derived.StillTailTactics
import Derived.RegionTactic
import Derived.Lib.Hide
import Derived.Deep.DeepCutAuto
import Derived.Deep.CutBlock
import Derived.Laws.MakeOwn
import Derived.Laws.OwnMore
import Derived.OneCell
import Derived.Maps.Own
import Derived.Lib.AtoiAll
import Derived.Lib.AtoiAllCases
import Derived.Shelf.Spec.SearchS
import Derived.Shelf.GgClosure.StringsIndexFunc
import Derived.Lib.SlBy
import Derived.Lib.SlTrimSet
import Derived.Lib.CutLaws
import Derived.Lib.IndexLaws
import Derived.Lib.IndexBytes
import Derived.Shelf.Strings.SlTrimAscii
import Derived.Shelf.Small.Utf8
import Derived.Shelf.Small.Strs
import Derived.Shelf.Strconv.Atoi
import Derived.Shelf.Strconv.Itoa0
import Derived.Shelf.Strconv.Itoa1
import Derived.Shelf.LaysM
import Derived.Shelf.Strconv.Itoa2
import Derived.Shelf.Strconv.Itoa3
import Derived.Shelf.Strconv.AtoiErrFast
import Derived.Shelf.Strconv.ParseIntEmpty
import Derived.Shelf.Strconv.AtoiFail
import Derived.Shelf.Strconv.Clone
import Derived.Shelf.Strconv.SyntaxError
import Derived.Shelf.LaysC
import Derived.Shelf.Strconv.ToError
import Derived.Shelf.Strconv.AtoiErr
import Derived.Shelf.Strconv.ErrVar
import Derived.Shelf.Strconv.Lower
import Derived.Shelf.Strconv.ParseUint10
import Derived.Shelf.Strconv.ParseUint10Empty
import Derived.Shelf.Strconv.ParseUint10Any
import Derived.Shelf.Strconv.ParseInt10
import Derived.Shelf.Strconv.AtoiLong
import Derived.Shelf.Strconv.AtoiInnerAll
import Derived.Shelf.Strconv.RangeError
import Derived.Shelf.Strconv.ToErrorRange
import Derived.Shelf.Strconv.AtoiAll
import Derived.Shelf.Strconv.ErrVarAll
import Derived.Shelf.Strconv.ParseUintEmpty
import Derived.Shelf.Strconv.ParseUint10b64
import Derived.Shelf.Strconv.ParseUint10b32
import Derived.Shelf.Strconv.ParseUint10b16
import Derived.Shelf.Strings.Search1
import Derived.Shelf.Strings.Search2
import Derived.Shelf.Strings.Cut
import Derived.Shelf.Strings.Shaped
import Derived.Ground.GgwProg
import Derived.Shelf.GgClosure.StringsIndexFuncTop
import Derived.Shelf.Strings.Prefix
import Derived.Shelf.Strings.Runes
import Derived.Shelf.Strings.AsciiSet
import Derived.Shelf.Unicode.DecodeSlow
import Derived.Ground.SlgfProg
import Derived.Shelf.SlicesE.IndexFunc
import Derived.Defers
import Derived.Test.YtahalimekacliaaGreatDoorRows
import Derived.Test.YtahalimekacliaaGreatDoorTie
import Derived.Lib.LaidU8
import Derived.SliceStrings
import Derived.HandedShaped
import Derived.ProofKit
import Derived.OpenShut
import Derived.Lay
import Derived.SevenTiedAt
import Derived.Deep.Slices
import Derived.Test.YtahalimekacliaaGreatDoorJ1
import Derived.Test.YtahalimekacliaaGreatDoorJ2
import Derived.Test.YtahalimekacliaaGreatDoorJ3
import Derived.Test.YtahalimekacliaaGreatDoorJ4
import Derived.Test.YtahalimekacliaaGreatDoorJ5
import Derived.Test.YtahalimekacliaaGreatDoorJ6
import Derived.Test.YtahalimekacliaaGreatDoorJ7
import Derived.Test.YtahalimekacliaaGreatDoorJ8
import Derived.Test.YtahalimekacliaaGreatDoorJ9
import Derived.Test.YtahalimekacliaaGreatDoorJ10
import Derived.Test.YtahalimekacliaaGreatDoorJ11
import Derived.Test.YtahalimekacliaaGreatDoorJ12
import Derived.Test.YtahalimekacliaaGreatDoorJ13
import Derived.Test.YtahalimekacliaaGreatDoorJ14
import Derived.Test.YtahalimekacliaaGreatDoorJ15
import Derived.Test.YtahalimekacliaaGreatDoorJ16
import Derived.Test.YtahalimekacliaaGreatDoorJ17
import Derived.Test.YtahalimekacliaaGreatDoorJ18
import Derived.Test.YtahalimekacliaaGreatDoorJ19
import Derived.Test.YtahalimekacliaaGreatDoorJ20
import Derived.Test.YtahalimekacliaaGreatDoorJ21
import Derived.Test.YtahalimekacliaaGreatDoorJ22
import Derived.Test.YtahalimekacliaaGreatDoorJ23
import Derived.Test.YtahalimekacliaaGreatDoorJ24
import Derived.Test.YtahalimekacliaaGreatDoorJ25
import Derived.Test.YtahalimekacliaaGreatDoorJ26
import Derived.Test.YtahalimekacliaaGreatDoorJ27
import Derived.Test.YtahalimekacliaaGreatDoorJ28
import Derived.Test.YtahalimekacliaaGreatDoorJ29
import Derived.Test.YtahalimekacliaaGreatDoorJ30
import Derived.Test.YtahalimekacliaaGreatDoorJ31
import Derived.Test.YtahalimekacliaaGreatDoorJ32
import Derived.Test.YtahalimekacliaaGreatDoorJ33
import Derived.Test.YtahalimekacliaaGreatDoorJ34
import Derived.Test.YtahalimekacliaaGreatDoorJ35
import Derived.Test.YtahalimekacliaaGreatDoorJ36
import Derived.Test.YtahalimekacliaaGreatDoorJ37
import Derived.Test.YtahalimekacliaaGreatDoorJ38
import Derived.Test.YtahalimekacliaaGreatDoorJ39
import Derived.Test.YtahalimekacliaaGreatDoorJ40
import Derived.Test.YtahalimekacliaaGreatDoorJ41
import Derived.Test.YtahalimekacliaaGreatDoorJ42
import Derived.Test.YtahalimekacliaaGreatDoorJ43
import Derived.Test.YtahalimekacliaaGreatDoorJ44
import Derived.Test.YtahalimekacliaaGreatDoorJ45
import Derived.Test.YtahalimekacliaaGreatDoorJ46
set_option linter.unusedVariables false
set_option linter.unusedSimpArgs false
namespace Go.Proofs.YtahalimekacliaaGreatDoor.Lx
structure Stop (c : UInt8) : Prop where
  pt : isPt c = false
  dg : isDig c = false
  sg : ∀ t ∈ signs, c ∉ t
  cm : c ≠ 45
theorem stop_blank {c : UInt8} (h : isBl c = true) : Stop c := by
  simp only [isBl, Bool.or_eq_true, beq_iff_eq] at h
  rcases h with ((rfl | rfl) | rfl) | rfl <;> exact ⟨by decide, by decide, by decide, by decide⟩
theorem takeWhile_stop {p : UInt8 → Bool} {c : UInt8} (h : p c = false) (u b : Bs) : (u ++ c :: b).takeWhile p = u.takeWhile p := by
  induction u with
  | nil => simp [h]
  | cons x u ih => simp only [List.cons_append, List.takeWhile_cons, ih]
theorem prefix_stop {t : Bs} {c : UInt8} : ∀ {u b : Bs}, c ∉ t → t.isPrefixOf (u ++ c :: b) = t.isPrefixOf u := by
  induction t with
  | nil => intro u b _; simp
  | cons x t ih =>
    intro u b h
    cases u with
    | nil => simp [List.isPrefixOf]; intro e; simp [e] at h
    | cons y u =>
      simp only [List.cons_append, List.isPrefixOf]
      rw [ih (by simp at h; exact h.2)]
theorem first_stop {c : UInt8} (h : Stop c) (u b : Bs) : first (u ++ c :: b) = first u := by
  unfold first
  rw [takeWhile_stop h.dg, takeWhile_stop h.pt]
  have e : signs.find? (·.isPrefixOf (u ++ c :: b)) = signs.find? (·.isPrefixOf u) := by
    have : ∀ l : List Bs, (∀ t ∈ l, c ∉ t) → l.find? (·.isPrefixOf (u ++ c :: b)) = l.find? (·.isPrefixOf u) := by
      intro l
      induction l with
      | nil => intro _; rfl
      | cons t l ih =>
        intro hl
        simp only [List.find?_cons]
        rw [prefix_stop (hl t (by simp)), ih fun t ht => hl t (by simp [ht])]
    exact this _ h.sg
  rw [e]
theorem com_stop {c : UInt8} (h : Stop c) (u b : Bs) : isCom (u ++ c :: b) = isCom u := prefix_stop (by simp; exact h.cm)
def sh (n : Nat) (x : R) : R := ⟨x.k, x.t, x.m + n⟩
def glue (n : Nat) (a b : List R × Option (Nat × Nat)) : List R × Option (Nat × Nat) :=
  match a.2 with
  | none => (a.1.map (sh n) ++ b.1, b.2)
  | some (e, m) => (a.1.map (sh n), some (e, m + n))
theorem glue_cons (n : Nat) (x : R) (l : List R) (o : Option (Nat × Nat)) (b : List R × Option (Nat × Nat)) : glue n (x :: l, o) b = (sh n x :: (glue n (l, o) b).1, (glue n (l, o) b).2) := by
  cases o <;> rfl
theorem after_mem {u : Bs} (h : (10 : UInt8) ∈ u) (v : Bs) : afterLine (u ++ v) = afterLine u ++ v := by
  unfold afterLine
  induction u with
  | nil => simp at h
  | cons c u ih =>
    by_cases hc : c = 10
    · subst hc; simp
    · have : (c != 10) = true := by simpa using hc
      simp only [List.cons_append, List.dropWhile_cons, this, if_true]
      exact ih (by simpa [Ne.symm hc] using h)
theorem after_not {u : Bs} (h : (10 : UInt8) ∉ u) (v : Bs) : afterLine (u ++ 10 :: v) = v ∧ afterLine u = [] := by
  unfold afterLine
  induction u with
  | nil => simp
  | cons c u ih =>
    have hc : c ≠ 10 := by rintro rfl; simp at h
    have : (c != 10) = true := by simpa using hc
    simp only [List.cons_append, List.dropWhile_cons, this, if_true]
    exact ih (by simp at h; exact h.2)
theorem lexS_line (b : Bs) : ∀ r, lexS (r ++ 10 :: b) = glue (b.length + 1) (lexS r) (lexS b) := by
  have S := stop_blank (c := 10) (by decide)
  have hbl : ∀ u : Bs, u.dropWhile isBl = u → u ≠ [] → (u ++ 10 :: b).dropWhile isBl = u ++ 10 :: b := fun u hn hu => by
    cases u with
    | nil => exact absurd rfl hu
    | cons c t => rw [List.cons_append, List.dropWhile_cons, if_neg (by simp [drop_fix hn rfl])]
  refine lex_ind ?_ ?_ ?_ ?_ ?_
  · show lexS (10 :: b) = _
    rw [lexS_blank (by decide), lexS_nil]; rfl
  · intro c r hb ih
    rw [List.cons_append, lexS_blank hb, lexS_blank hb]; exact ih
  · intro u hn hu hc ih
    rw [lexS_com (hbl u hn hu) (by simp) (by rw [com_stop S]; exact hc), lexS_com hn hu hc]
    by_cases h : (10 : UInt8) ∈ u
    · rw [after_mem h]; exact ih
    · obtain ⟨h1, h2⟩ := after_not h b
      rw [h1, h2, lexS_nil]; rfl
  · intro u e hn hu hc he
    rw [lexS_err (hbl u hn hu) (by simp) (by rw [com_stop S]; exact hc) (by rw [first_stop S]; exact he), lexS_err hn hu hc he]
    simp [glue]
  · intro u k t hn hu hc ht hp hne ih
    rw [lexS_tok (hbl u hn hu) (by simp) (by rw [com_stop S]; exact hc) (by rw [first_stop S]; exact ht), lexS_tok hn hu hc ht]
    rw [glue_cons, ← ih, List.drop_append_of_le_length hp.length_le]
    simp [sh]
end Go.Proofs.YtahalimekacliaaGreatDoor.Lx
namespace Go.Proofs.YtahalimekacliaaGreatDoor
end Go.Proofs.YtahalimekacliaaGreatDoor
namespace Go.Proofs.YtahalimekacliaaGreatDoor
namespace Px
open Tx
theorem then_ok {r : Option Res} {f : Fo → Nat → Option Res} {l : List Fo} {j : Nat} (h : thenE r f = some (.ok (l, j))) : ∃ a i, r = some (.ok ([a], i)) ∧ f a i = some (.ok (l, j)) := by
  rcases thenE_some h with ⟨e, _, h1⟩ | h
  · cases h1
  · exact h
theorem need_ok {L : List Tok} {s : ByteArray} {i : Nat} {f : Nat → Option Res} {l : List Fo} {j : Nat} (h : needT L s i f = some (.ok (l, j))) : isT L i s = true ∧ f (i + 1) = some (.ok (l, j)) := by
  rcases needT_some h with h1 | h1
  · cases h1
  · exact h1
theorem one_ok {a : Fo} {i : Nat} {l : List Fo} {j : Nat} (h : one a i = some (.ok (l, j))) : l = [a] ∧ j = i := by
  cases h; exact ⟨rfl, rfl⟩
def LbO (p : Orc) : Prop := ∀ g I o l i, p g I o = some (.ok (l, i)) → I ≤ i ∧ (cat g.have_).size + g.have_.length ≤ (cat l).size + l.length
theorem need_i {L : List Tok} {s : ByteArray} {i : Nat} {f : Nat → Option Res} {l : List Fo} {j : Nat} (h : needT L s i f = some (.ok (l, j))) : f (i + 1) = some (.ok (l, j)) := (need_ok h).2
theorem step_lb {L : List Tok} {p : Orc} (h : LbO p) : LbO (stepP L p) := by
  intro g I o l i hq
  cases g with
  | bin n =>
    simp only [Tag.have_, cat, Fo.size, List.length_nil]
    refine ⟨?_, by omega⟩
    simp only [stepP] at hq
    split at hq
    · obtain ⟨a, j, e1, e2⟩ := then_ok hq
      have := (h _ _ _ _ _ e1).1
      have := (h _ _ _ _ _ e2).1
      omega
    · unfold operandS at hq
      split at hq
      · cases hq
      split at hq
      · cases hq
      split at hq
      · obtain ⟨rfl, rfl⟩ := one_ok hq; omega
      split at hq
      · split at hq
        · split at hq
          · obtain ⟨rfl, rfl⟩ := one_ok hq; omega
          · unfold callS at hq
            split at hq
            · cases hq
            · cases hq
            · rename_i m j hr
              have := (h _ _ _ _ _ hr).1
              obtain ⟨rfl, rfl⟩ := one_ok hq; omega
        · obtain ⟨rfl, rfl⟩ := one_ok hq; omega
      split at hq
      · unfold signS at hq
        split at hq
        · split at hq
          · split at hq
            · split at hq
              · obtain ⟨a, j, e1, e2⟩ := then_ok hq
                have := (h _ _ _ _ _ e1).1
                obtain ⟨rfl, rfl⟩ := one_ok e2; omega
              · cases hq
            · cases hq
          · obtain ⟨a, j, e1, e2⟩ := then_ok hq
            have := (h _ _ _ _ _ e1).1
            obtain ⟨rfl, rfl⟩ := one_ok e2; omega
        · split at hq
          · obtain ⟨rfl, rfl⟩ := one_ok hq; omega
          split at hq
          · obtain ⟨rfl, rfl⟩ := one_ok hq; omega
          split at hq
          · obtain ⟨a, j, e1, e2⟩ := then_ok hq
            have := (h _ _ _ _ _ e1).1
            obtain ⟨rfl, rfl⟩ := one_ok (need_i e2); omega
          split at hq
          · obtain ⟨a, j, e1, e2⟩ := then_ok hq
            obtain ⟨b, j2, e3, e4⟩ := then_ok (need_i e2)
            obtain ⟨c, j3, e5, e6⟩ := then_ok (need_i e4)
            have := (h _ _ _ _ _ e1).1
            have := (h _ _ _ _ _ e3).1
            have := (h _ _ _ _ _ e5).1
            obtain ⟨rfl, rfl⟩ := one_ok e6; omega
          · cases hq
      · cases hq
  | loop n a =>
    simp only [stepP] at hq
    split at hq
    · obtain ⟨rfl, rfl⟩ := one_ok hq; exact ⟨Nat.le_refl _, Nat.le_refl _⟩
    · rename_i op sw _
      obtain ⟨b, j, e1, e2⟩ := then_ok hq
      have h1 := (h _ _ _ _ _ e1).1
      have hs : a.size ≤ (node op 0 noS (if sw then b.app a else a.app b)).size := by cases sw <;> simp [node, Fo.size, Fo.size_app] <;> omega
      split at e2
      · obtain ⟨rfl, rfl⟩ := one_ok e2
        refine ⟨by omega, ?_⟩
        simp only [Tag.have_, cat, Fo.app_no, List.length_singleton]; omega
      · obtain ⟨h2, h3⟩ := h _ _ _ _ _ e2
        refine ⟨by omega, ?_⟩
        simp only [Tag.have_, cat, Fo.app_no, List.length_singleton] at h3 ⊢; omega
  | args l0 =>
    simp only [stepP] at hq
    obtain ⟨a, j, e1, e2⟩ := then_ok hq
    have h1 := (h _ _ _ _ _ e1).1
    split at e2
    · cases e2
      refine ⟨by omega, ?_⟩
      simp only [Tag.have_, cat_snoc, Fo.size_app, List.length_append, List.length_singleton]; omega
    split at e2
    · obtain ⟨h2, h3⟩ := h _ _ _ _ _ e2
      refine ⟨by omega, ?_⟩
      simp only [Tag.have_, cat_snoc, Fo.size_app, List.length_append, List.length_singleton] at h3 ⊢; omega
    · cases e2
theorem P_lb (L : List Tok) : ∀ f, LbO (P L f)
  | 0 => fun _ _ _ _ _ h => by cases h
  | f + 1 => step_lb (P_lb L f)
end Px
end Go.Proofs.YtahalimekacliaaGreatDoor
namespace Go.Proofs.YtahalimekacliaaGreatDoor
namespace Px
open Tx
theorem parse_of {L : List Tok} {f i j : Nat} {F : Fo} (h : P L f (.bin 0) i 0 = some (.ok ([F], j))) (h1 : F.size ≤ 5000) (h2 : F.depth ≤ 40) : parse L f i = some (.ok (F, j)) := by
  unfold parse; rw [h]; simp only
  rw [if_neg (by omega), if_neg (by omega)]
end Px
end Go.Proofs.YtahalimekacliaaGreatDoor
namespace Go.Proofs.YtahalimekacliaaGreatDoor
namespace Px
open Tx
def LocO (L L' : List Tok) (d : Nat) (p p' : Orc) : Prop := ∀ g I o l j, p g I o = some (.ok (l, j)) → LocT L L' d I j → p' g (d + I) o = some (.ok (l, d + j))
theorem then_of {r : Option Res} {f : Fo → Nat → Option Res} {a : Fo} {i : Nat} (h : r = some (.ok ([a], i))) : thenE r f = f a i := by rw [h]; rfl
theorem sign_loc {L L' : List Tok} {d : Nat} {p p' : Orc} (hp : LocO L L' d p p') (hlb : LbO p) {s : ByteArray} {I o j : Nat} {l : List Fo} (hq : signS p L s I o = some (.ok (l, j))) (h : LocT L L' d I j) : signS p' L' s (d + I) o = some (.ok (l, d + j)) := by
  have hd : ∀ m, d + I + m = d + (I + m) := fun m => by omega
  unfold signS at hq ⊢
  split at hq
  · rename_i op hop
    split at hq
    · rename_i h25
      rw [if_pos h25]
      split at hq
      · rename_i u hu
        split at hq
        · rename_i h4
          obtain ⟨a, k, e1, e2⟩ := then_ok hq
          obtain ⟨rfl, rfl⟩ := one_ok e2
          have hb := (hlb _ _ _ _ _ e1).1
          obtain ⟨u', h1, h2, h3⟩ := kt_some (h (I + 1) (by omega) (by omega)) hu
          rw [hd 1, h1]
          simp only [h2, h3]
          rw [if_pos h4, hd 2, then_of (hp _ _ _ _ _ e1 (h.mono (by omega) (Nat.le_refl _)))]
          rfl
        · cases hq
      · cases hq
    · rename_i h25
      rw [if_neg h25]
      obtain ⟨a, k, e1, e2⟩ := then_ok hq
      obtain ⟨rfl, rfl⟩ := one_ok e2
      rw [hd 1, then_of (hp _ _ _ _ _ e1 (h.mono (by omega) (Nat.le_refl _)))]
      rfl
  · split at hq
    · rename_i h1; rw [if_pos h1]; obtain ⟨rfl, rfl⟩ := one_ok hq; rfl
    rename_i h1; rw [if_neg h1]
    split at hq
    · rename_i h1; rw [if_pos h1]; obtain ⟨rfl, rfl⟩ := one_ok hq; rfl
    rename_i h1; rw [if_neg h1]
    split at hq
    · rename_i h1; rw [if_pos h1]
      obtain ⟨a, k, e1, e2⟩ := then_ok hq
      obtain ⟨e3, e4⟩ := need_ok e2
      obtain ⟨rfl, rfl⟩ := one_ok e4
      have hb := (hlb _ _ _ _ _ e1).1
      rw [hd 1, then_of (hp _ _ _ _ _ e1 (h.mono (by omega) (by omega)))]
      exact h.need (by omega) (by omega) e3 rfl
    rename_i h1; rw [if_neg h1]
    split at hq
    · rename_i h1; rw [if_pos h1]
      obtain ⟨a, k, e1, e2⟩ := then_ok hq
      obtain ⟨e3, e4⟩ := need_ok e2
      obtain ⟨b, k2, e5, e6⟩ := then_ok e4
      obtain ⟨e7, e8⟩ := need_ok e6
      obtain ⟨c, k3, e9, e10⟩ := then_ok e8
      obtain ⟨rfl, rfl⟩ := one_ok e10
      have b1 := (hlb _ _ _ _ _ e1).1
      have b2 := (hlb _ _ _ _ _ e5).1
      have b3 := (hlb _ _ _ _ _ e9).1
      rw [hd 1, then_of (hp _ _ _ _ _ e1 (h.mono (by omega) (by omega)))]
      refine h.need (by omega) (by omega) e3 ?_
      rw [then_of (hp _ _ _ _ _ e5 (h.mono (by omega) (by omega)))]
      refine h.need (by omega) (by omega) e7 ?_
      rw [then_of (hp _ _ _ _ _ e9 (h.mono (by omega) (by omega)))]
      rfl
    · cases hq
theorem operand_loc {L L' : List Tok} {d : Nat} {p p' : Orc} (hp : LocO L L' d p p') (hlb : LbO p) {I o j : Nat} {l : List Fo} (hq : operandS p L I o = some (.ok (l, j))) (h : LocT L L' d I j) : operandS p' L' (d + I) o = some (.ok (l, d + j)) := by
  have hd : ∀ m, d + I + m = d + (I + m) := fun m => by omega
  unfold operandS at hq ⊢
  split at hq
  · cases hq
  rename_i h200
  rw [if_neg h200]
  split at hq
  · cases hq
  rename_i t ht
  have hIj : I ≤ j := by
    split at hq
    · obtain ⟨rfl, rfl⟩ := one_ok hq; omega
    split at hq
    · split at hq
      · split at hq
        · obtain ⟨rfl, rfl⟩ := one_ok hq; omega
        · unfold callS at hq
          split at hq
          · cases hq
          · cases hq
          · rename_i m k hr
            have := (hlb _ _ _ _ _ hr).1
            obtain ⟨rfl, rfl⟩ := one_ok hq; omega
      · obtain ⟨rfl, rfl⟩ := one_ok hq; omega
    split at hq
    · unfold signS at hq
      split at hq
      · split at hq
        · split at hq
          · split at hq
            · obtain ⟨a, k, e1, e2⟩ := then_ok hq
              have := (hlb _ _ _ _ _ e1).1
              obtain ⟨rfl, rfl⟩ := one_ok e2; omega
            · cases hq
          · cases hq
        · obtain ⟨a, k, e1, e2⟩ := then_ok hq
          have := (hlb _ _ _ _ _ e1).1
          obtain ⟨rfl, rfl⟩ := one_ok e2; omega
      · split at hq
        · obtain ⟨rfl, rfl⟩ := one_ok hq; omega
        split at hq
        · obtain ⟨rfl, rfl⟩ := one_ok hq; omega
        split at hq
        · obtain ⟨a, k, e1, e2⟩ := then_ok hq
          have := (hlb _ _ _ _ _ e1).1
          obtain ⟨rfl, rfl⟩ := one_ok (need_i e2); omega
        split at hq
        · obtain ⟨a, k, e1, e2⟩ := then_ok hq
          have := (hlb _ _ _ _ _ e1).1
          obtain ⟨b, k2, e5, e6⟩ := then_ok (need_i e2)
          have := (hlb _ _ _ _ _ e5).1
          obtain ⟨c, k3, e9, e10⟩ := then_ok (need_i e6)
          have := (hlb _ _ _ _ _ e9).1
          obtain ⟨rfl, rfl⟩ := one_ok e10; omega
        · cases hq
    · cases hq
  obtain ⟨t', h1, h2, h3⟩ := kt_some (h I (Nat.le_refl _) hIj) ht
  rw [h1]
  simp only [h2, h3]
  split at hq
  · rename_i h4; rw [if_pos h4]; obtain ⟨rfl, rfl⟩ := one_ok hq; rfl
  rename_i h4; rw [if_neg h4]
  split at hq
  · rename_i h5; rw [if_pos h5]
    split at hq
    · rename_i h6
      split at hq
      · rename_i h7
        obtain ⟨rfl, rfl⟩ := one_ok hq
        rw [hd 1, h.isT (by omega) (by omega), if_pos h6, hd 2, h.isT (by omega) (by omega), if_pos h7]
        rfl
      · rename_i h7
        have hq0 := hq
        unfold callS at hq
        split at hq
        · cases hq
        · cases hq
        · rename_i m k hr
          have hb := (hlb _ _ _ _ _ hr).1
          obtain ⟨rfl, rfl⟩ := one_ok hq
          rw [hd 1, h.isT (by omega) (by omega), if_pos h6, hd 2, h.isT (by omega) (by omega), if_neg h7, hp _ _ _ _ _ hr (h.mono (by omega) (Nat.le_refl _))]
          rfl
    · rename_i h6
      obtain ⟨rfl, rfl⟩ := one_ok hq
      rw [hd 1, h.isT (by omega) (by omega), if_neg h6]
      rfl
  rename_i h5; rw [if_neg h5]
  split at hq
  · rename_i h6; rw [if_pos h6]; exact sign_loc hp hlb hq h
  · cases hq
theorem step_loc {L L' : List Tok} {d : Nat} {p p' : Orc} (hp : LocO L L' d p p') (hlb : LbO p) : LocO L L' d (stepP L p) (stepP L' p') := by
  intro g I o l j hq h
  cases g with
  | bin n =>
    simp only [stepP] at hq ⊢
    split at hq
    · rename_i hn
      rw [if_pos hn]
      obtain ⟨a, k, e1, e2⟩ := then_ok hq
      have b1 := (hlb _ _ _ _ _ e1).1
      have b2 := (hlb _ _ _ _ _ e2).1
      rw [then_of (hp _ _ _ _ _ e1 (h.mono (Nat.le_refl _) b2))]
      exact hp _ _ _ _ _ e2 (h.mono b1 (Nat.le_refl _))
    · rename_i hn
      rw [if_neg hn]
      exact operand_loc hp hlb hq h
  | loop n a =>
    simp only [stepP] at hq ⊢
    split at hq
    · rename_i h1
      obtain ⟨rfl, rfl⟩ := one_ok hq
      rw [h.here (Nat.le_refl _) (Nat.le_refl _), h1]
      rfl
    · rename_i op sw hop
      obtain ⟨b, k, e1, e2⟩ := then_ok hq
      have b1 := (hlb _ _ _ _ _ e1).1
      have b2 : k ≤ j := by
        split at e2
        · obtain ⟨-, rfl⟩ := one_ok e2; omega
        · exact (hlb _ _ _ _ _ e2).1
      rw [h.here (Nat.le_refl _) (by omega), hop]
      simp only
      rw [show d + I + 1 = d + (I + 1) by omega, then_of (hp _ _ _ _ _ e1 (h.mono (by omega) b2))]
      split at e2
      · rename_i h1
        obtain ⟨rfl, rfl⟩ := one_ok e2
        rw [if_pos h1]; rfl
      · rename_i h1
        rw [if_neg h1]
        exact hp _ _ _ _ _ e2 (h.mono (by omega) (Nat.le_refl _))
  | args l0 =>
    simp only [stepP] at hq ⊢
    obtain ⟨a, k, e1, e2⟩ := then_ok hq
    have b1 := (hlb _ _ _ _ _ e1).1
    have b2 : k ≤ j := by
      split at e2
      · cases e2; omega
      split at e2
      · have := (hlb _ _ _ _ _ e2).1; omega
      · cases e2
    rw [then_of (hp _ _ _ _ _ e1 (h.mono (Nat.le_refl _) b2)), h.isT b1 b2, h.isT b1 b2]
    split at e2
    · rename_i h1
      rw [if_pos h1]
      cases e2
      simp only [Nat.add_assoc]
    rename_i h1
    rw [if_neg h1]
    split at e2
    · rename_i h2
      rw [if_pos h2, Nat.add_assoc]
      exact hp _ _ _ _ _ e2 (h.mono (by omega) (Nat.le_refl _))
    · cases e2
theorem P_loc (L L' : List Tok) (d : Nat) : ∀ f, LocO L L' d (P L f) (P L' f)
  | 0 => fun _ _ _ _ _ h _ => by cases h
  | f + 1 => step_loc (P_loc L L' d f) (P_lb L f)
theorem ParR.loc {L L' : List Tok} {d i j : Nat} {F : Fo} (h : ParR L i (.ok (F, j))) (hl : LocT L L' d i j) : ParR L' (d + i) (.ok (F, d + j)) := by
  obtain ⟨f, hf⟩ := h
  obtain ⟨h1, h2, h3⟩ := parse_ok hf
  exact ⟨f, parse_of (P_loc L L' d f _ _ _ _ _ h1 hl) h2 h3⟩
section
variable {L L' : List Tok}
end
end Px
end Go.Proofs.YtahalimekacliaaGreatDoor
namespace Go.Proofs.YtahalimekacliaaGreatDoor
namespace Gx
open Tx Px
section
variable {L L' : List Tok} {d : Nat} {α β : Type}
theorem loc_lox {i j : Nat} (h : LocT L L' d i j) : Lox L L' d i j := fun m h1 h2 => h m h1 (by omega)
theorem PX.weak {s t : Nat} {f f' : Nat → Rz α} (h : PX L L' d s f f') (hs : t ≤ s) : PX L L' d t f f' := fun i a j e => ⟨by have := (h i a j e).1; omega, (h i a j e).2⟩
theorem PX.pi {s : Nat} {f f' : Nat → Rz α} (h : PX L L' d s f f') : PI L L' d f f' := fun i a j e => ⟨by have := (h i a j e).1; omega, fun hl => (h i a j e).2 (loc_lox hl)⟩
theorem PI.bdX {t : Nat} {f f' : Nat → Rz α} {g g' : α → Nat → Rz β} (h : PI L L' d f f') (ht : 1 ≤ t) (hg : ∀ a, PX L L' d t (g a) (g' a)) : PX L L' d t (fun i => bd (f i) (g · ·)) (fun i => bd (f' i) (g' · ·)) := by
  intro i b j e
  obtain ⟨a, k, e1, e2⟩ := bd_ok e
  obtain ⟨h1, h2⟩ := h i a k e1
  obtain ⟨h3, h4⟩ := hg a k b j e2
  exact ⟨by omega, fun hl => by
    dsimp only
    rw [bd_of (h2 fun m a b => hl m a (by omega))]
    exact h4 fun m a b => hl m (by omega) b⟩
theorem PI.bdI {f f' : Nat → Rz α} {g g' : α → Nat → Rz β} (h : PI L L' d f f') (hg : ∀ a, PI L L' d (g a) (g' a)) : PI L L' d (fun i => bd (f i) (g · ·)) (fun i => bd (f' i) (g' · ·)) := by
  intro i b j e
  obtain ⟨a, k, e1, e2⟩ := bd_ok e
  obtain ⟨h1, h2⟩ := h i a k e1
  obtain ⟨h3, h4⟩ := hg a k b j e2
  exact ⟨by omega, fun hl => by
    dsimp only
    rw [bd_of (h2 fun m a b => hl m a (by omega))]
    exact h4 fun m a b => hl m (by omega) b⟩
theorem ret_x (a : α) : PX L L' d 0 (fun i => rt a i) (fun i => rt a i) := fun i b j e => by
  obtain ⟨rfl, rfl⟩ := rt_ok e; exact ⟨by omega, fun _ => rfl⟩
theorem if_x {c c' : Nat → Bool} (hc : ∀ m m', (L[m]?).map kt = (L'[m']?).map kt → c' m' = c m) {s : Nat} (hs : 1 ≤ s) {f f' g g' : Nat → Rz α} (hf : PX L L' d s f f') (hg : PX L L' d s g g') :
    PX L L' d s (fun i => if c i = true then f i else g i) (fun i => if c' i = true then f' i else g' i) := by
  intro i b j e
  dsimp only at e ⊢
  split at e
  · rename_i h1
    obtain ⟨h2, h3⟩ := hf i b j e
    exact ⟨h2, fun hl => by rw [hc _ _ (hl i (Nat.le_refl _) (by omega)), if_pos h1]; exact h3 hl⟩
  · rename_i h1
    obtain ⟨h2, h3⟩ := hg i b j e
    exact ⟨h2, fun hl => by rw [hc _ _ (hl i (Nat.le_refl _) (by omega)), if_neg h1]; exact h3 hl⟩
theorem if_i {c c' : Nat → Bool} (hc : ∀ m m', (L[m]?).map kt = (L'[m']?).map kt → c' m' = c m) {f f' g g' : Nat → Rz α} (hf : PI L L' d f f') (hg : PI L L' d g g') :
    PI L L' d (fun i => if c i = true then f i else g i) (fun i => if c' i = true then f' i else g' i) := by
  intro i b j e
  dsimp only at e ⊢
  split at e
  · rename_i h1
    obtain ⟨h2, h3⟩ := hf i b j e
    exact ⟨h2, fun hl => by rw [hc _ _ (hl i (Nat.le_refl _) (by omega)), if_pos h1]; exact h3 hl⟩
  · rename_i h1
    obtain ⟨h2, h3⟩ := hg i b j e
    exact ⟨h2, fun hl => by rw [hc _ _ (hl i (Nat.le_refl _) (by omega)), if_neg h1]; exact h3 hl⟩
theorem er_x (c : Int) (s : Nat) (g' : Nat → Rz α) : PX L L' d s (fun i => er L c i) g' := fun i b j e => (er_ok e).elim
theorem nd_x (s : ByteArray) : PX L L' d 1 (nd L s) (nd L' s) :=
  if_x (fun m m' h => kt_isT h s) (Nat.le_refl _) ((ret_x PUnit.unit).next) (er_x 5 1 _)
theorem name_x : PX L L' d 1 (nameS L) (nameS L') := by
  intro i b j e
  unfold nameS at e
  cases h1 : L[i]? with
  | none => rw [h1] at e; cases e
  | some t =>
    rw [h1] at e
    simp only at e
    split at e
    · rename_i hk
      obtain ⟨rfl, rfl⟩ := rt_ok e
      refine ⟨Nat.le_refl _, fun hl => ?_⟩
      obtain ⟨t', h2, h3, h4⟩ := kt_some (hl i (Nat.le_refl _) (by omega)) h1
      unfold nameS
      rw [h2]
      simp only [h3, h4, hk, if_true]
      rfl
    · cases e
theorem ty_x : PX L L' d 1 (tyS L) (tyS L') :=
  if_x (fun m m' h => kt_isT h _) (Nat.le_refl _) ((ret_x (1 : Int)).next) (if_x (fun m m' h => kt_isT h _) (Nat.le_refl _) ((ret_x (2 : Int)).next) (er_x 5 1 _))
theorem param_x : PX L L' d 1 (paramS L) (paramS L') :=
  PX.weak (name_x.bd_ fun n => (nd_x tColon).bd_ fun _ => ty_x.bd_ fun t => ret_x (⟨n, t⟩ : Pm)) (by omega)
theorem loop_i {one one' : Nat → Rz (α × Bool)} (h : PI L L' d one one') : ∀ k acc, PI L L' d (loopS L one k acc) (loopS L' one' k acc)
  | 0, _ => (er_x 7 0 _).pi
  | k + 1, acc => h.bdI fun x i b j e => by
    split at e
    · rename_i hx
      rw [if_pos hx]; exact loop_i h k _ i b j e
    · rename_i hx
      rw [if_neg hx]; obtain ⟨rfl, rfl⟩ := rt_ok e; exact ⟨Nat.le_refl _, fun _ => rfl⟩
theorem loop_x {one one' : Nat → Rz (α × Bool)} (h : PX L L' d 1 one one') : ∀ k acc, PX L L' d 1 (loopS L one k acc) (loopS L' one' k acc)
  | 0, _ => er_x 7 1 _
  | k + 1, acc => PX.weak (h.bd_ (t := 0) fun x i b j e => by
    split at e
    · rename_i hx
      rw [if_pos hx]; exact (loop_x h k _).weak (Nat.zero_le _) i b j e
    · rename_i hx
      rw [if_neg hx]; obtain ⟨rfl, rfl⟩ := rt_ok e; exact ⟨by omega, fun _ => rfl⟩) (by omega)
theorem sep_x {one one' : Nat → Rz α} (h : PI L L' d one one') (s : ByteArray) : PX L L' d 1 (sepS L one s) (sepS L' one' s) :=
  h.bdX (Nat.le_refl _) fun x => if_x (fun m m' h => kt_isT h _) (Nat.le_refl _) ((ret_x (x, false)).next) (PX.weak ((nd_x s).bd_ fun _ => ret_x (x, true)) (by omega))
theorem between_x {one one' : Nat → Rz α} (h : PI L L' d one one') (s : ByteArray) : PX L L' d 1 (betweenS L one s) (betweenS L' one' s) :=
  PX.weak ((nd_x tLpar).bd_ fun _ => if_x (fun m m' h => kt_isT h _) (Nat.le_refl _) ((ret_x ([] : List α)).next) (loop_x (sep_x h s) 200 [])) (by omega)
theorem on_i {one one' : Nat → Rz α} {on on' : Nat → Bool} (h : PI L L' d one one') (hc : ∀ m m', (L[m]?).map kt = (L'[m']?).map kt → on' m' = on m) : PI L L' d (onS one on) (onS one' on') :=
  h.bdI fun x i b j e => by
    obtain ⟨rfl, rfl⟩ := rt_ok e
    exact ⟨Nat.le_refl _, fun hl => by rw [hc _ _ (hl j (Nat.le_refl _) (Nat.le_refl _))]; rfl⟩
theorem many_i {one one' : Nat → Rz α} {on on' : Nat → Bool} (h : PI L L' d one one') (hc : ∀ m m', (L[m]?).map kt = (L'[m']?).map kt → on' m' = on m) : PI L L' d (manyS L one on) (manyS L' one' on') :=
  if_i hc (loop_i (on_i h hc) 200 []) (ret_x ([] : List α)).pi
variable {X X' : XO}
theorem par_mono {i j : Nat} {F : Fo} (h : ParR L i (.ok (F, j))) : i ≤ j := by
  obtain ⟨f, hf⟩ := h
  exact (P_lb L f _ _ _ _ _ (parse_ok hf).1).1
theorem expr_i (hX : XAll L X) (hX' : XAll L' X') : PI L L' d (exprS X) (exprS X') := by
  intro i b j e
  unfold exprS at e
  split at e
  · cases e
  · rename_i F k hk
    obtain ⟨rfl, rfl⟩ := rt_ok e
    have h1 := hX i
    rw [hk] at h1
    refine ⟨par_mono h1, fun hl => ?_⟩
    unfold exprS
    rw [ParR.one (hX' (d + i)) (h1.loc hl)]
    rfl
theorem semi_x (a : α) : PX L L' d 1 (fun i => bd (nd L tSemi i) fun _ i => rt a i) (fun i => bd (nd L' tSemi i) fun _ i => rt a i) := (nd_x tSemi).bd_ fun _ => ret_x a
theorem item_x (hX : XAll L X) (hX' : XAll L' X') : PX L L' d 1 (itemS L X) (itemS L' X') := by
  have hE := expr_i (d := d) hX hX'
  refine if_x (fun m m' h => kt_isT h _) (Nat.le_refl _) ?_ (if_x (fun m m' h => kt_isT h _) (Nat.le_refl _) ?_ (if_x (fun m m' h => kt_isT h _) (Nat.le_refl _) ?_ (if_x (fun m m' h => kt_isT h _) (Nat.le_refl _) ?_ ?_)))
  · exact PX.weak (PX.next (hE.bdX (Nat.le_refl _) fun e => semi_x (⟨1, noS, 0, e, [], []⟩ : Im))) (by omega)
  · exact PX.weak (PX.next (hE.bdX (Nat.le_refl _) fun e => semi_x (⟨2, noS, 0, e, [], []⟩ : Im))) (by omega)
  · exact PX.weak (PX.next (param_x.bd_ fun p => (nd_x tEq).bd_ fun _ => hE.bdX (Nat.le_refl _) fun e => semi_x (⟨3, p.name, p.ty, e, [], []⟩ : Im))) (by omega)
  · exact PX.weak (PX.next (name_x.bd_ fun n => (nd_x tRequire).bd_ fun _ => hE.bdX (by omega) fun e => (nd_x tEnsure).bd_ fun _ => hE.bdX (Nat.le_refl _) fun f => semi_x (⟨4, n, 0, e, f, []⟩ : Im))) (by omega)
  · exact PX.weak (PX.next (name_x.bd_ fun n => (between_x hE tComma).bd_ fun l => semi_x (⟨5, n, 0, [], [], l⟩ : Im))) (by omega)
theorem items_x (hX : XAll L X) (hX' : XAll L' X') : PX L L' d 1 (itemsS L X) (itemsS L' X') :=
  (many_i (item_x hX hX').pi (fun m m' h => isItem_kt h)).bdX (Nat.le_refl _) fun l => PX.weak ((nd_x tEnd).bd_ fun _ => ret_x l) (by omega)
theorem eq_x (hX : XAll L X) (hX' : XAll L' X') : PX L L' d 1 (eqS L X) (eqS L' X') :=
  PX.weak (name_x.bd_ fun n => (nd_x tEq).bd_ fun _ => (expr_i hX hX').bdX (Nat.le_refl _) fun e => semi_x (⟨n, e⟩ : Eqn)) (by omega)
theorem var_i : PI L L' d (varS L) (varS L') :=
  param_x.pi.bdI fun p => (nd_x tSemi).pi.bdI fun _ i b j e => by
    obtain ⟨rfl, rfl⟩ := rt_ok e
    exact ⟨Nat.le_refl _, fun hl => by rw [named_kt (hl j (Nat.le_refl _) (Nat.le_refl _))]; rfl⟩
theorem vars_i : PI L L' d (varsS L) (varsS L') := loop_i var_i 200 []
theorem opt_i {f f' : Nat → Rz (List α)} (h : PI L L' d f f') (s : ByteArray) : PI L L' d (optS L s f) (optS L' s f') :=
  if_i (fun m m' h => kt_isT h _) h.next (ret_x ([] : List α)).pi
theorem eqs_x (hX : XAll L X) (hX' : XAll L' X') : PX L L' d 1 (eqsS L X) (eqsS L' X') :=
  (many_i (eq_x hX hX').pi (fun m m' h => named_kt h)).bdX (Nat.le_refl _) fun l => PX.weak ((nd_x tTel).bd_ fun _ => ret_x l) (by omega)
theorem head_x : PX L L' d 1 (headS L) (headS L') :=
  PX.weak (name_x.bd_ fun n => (between_x param_x.pi tSemi).bd_ fun l => (nd_x tReturns).bd_ fun _ => (nd_x tLpar).bd_ fun _ => param_x.bd_ fun o => (nd_x tRpar).bd_ fun _ => ret_x (n, l, o)) (by omega)
theorem con_x (hX : XAll L X) (hX' : XAll L' X') : PX L L' d 1 (conS L X) (conS L' X') :=
  PX.weak (name_x.bd_ fun n => (between_x param_x.pi tSemi).bd_ fun l => (items_x hX hX').bd_ fun x => ret_x (⟨true, n, l, ⟨noS, 0⟩, [], [], x⟩ : Un)) (by omega)
theorem node_x (hX : XAll L X) (hX' : XAll L' X') : PX L L' d 1 (nodeS L X) (nodeS L' X') :=
  PX.weak (head_x.bd_ (t := 1) fun h => (opt_i (items_x hX hX').pi tContract).bdX (Nat.le_refl _) fun x => (opt_i vars_i tVar).bdX (Nat.le_refl _) fun v => PX.weak ((nd_x tLet).bd_ fun _ => (eqs_x hX hX').bd_ fun q => ret_x (⟨false, h.1, h.2.1, h.2.2, v, q, x⟩ : Un)) (by omega)) (by omega)
theorem unit_x (hX : XAll L X) (hX' : XAll L' X') : PX L L' d 1 (unitS L X) (unitS L' X') :=
  if_x (fun m m' h => kt_isT h _) (Nat.le_refl _) (PX.weak (con_x hX hX').next (by omega)) (PX.weak ((nd_x tNode).bd_ fun _ => node_x hX hX') (by omega))
theorem nd_yes {s : ByteArray} {i : Nat} (h : isT L i s = true) : nd L s i = .ok (⟨⟩, i + 1) := by unfold nd; rw [if_pos h]; rfl
theorem name_of {i : Nat} {t : Tok} (h : L[i]? = some t) (hk : t.k = 1) : nameS L i = .ok (t.t, i + 1) := by unfold nameS; rw [h]; simp only [hk, if_true]; rfl
theorem isT_at {i : Nat} {t : Tok} {s : ByteArray} (h : L[i]? = some t) (hk : t.k = 3 ∨ t.k = 4) (ht : t.t = s) : isT L i s = true := by
  unfold isT hereT; rw [h]; simp [hk, ht]
theorem isT_out {i : Nat} {s : ByteArray} (h : L.length ≤ i) : isT L i s = false := by
  unfold isT hereT; rw [List.getElem?_eq_none h]; simp
theorem at_tail {k : Nat} {m b : ByteArray} (h : TailAt L k m b) : ∃ j, tailS L k = .ok ((m, b), j) := by
  obtain ⟨t, h1, h2, h3⟩ := h.name
  unfold tailS
  rw [bd_of (nd_yes h.main), bd_of (name_of h1 h2), h3]
  rw [bd_of (nd_yes h.semi)]
  rcases h.back with ⟨e1, rfl⟩ | ⟨e1, ⟨t2, e2, e3, e4⟩, e5, e6⟩
  · have h4 : backS L (k + 3) = .ok (noS, k + 3) := by unfold backS; rw [isT_out (by omega)]; rfl
    rw [show k + 1 + 1 + 1 = k + 3 by omega, bd_of h4, if_neg (by omega)]; exact ⟨_, rfl⟩
  · have h4 : backS L (k + 3) = .ok (b, k + 6) := by
      unfold backS; rw [if_pos e1, show k + 3 + 1 = k + 4 by omega, bd_of (name_of e2 e3), e4, bd_of (nd_yes e5)]; rfl
    rw [show k + 1 + 1 + 1 = k + 3 by omega, bd_of h4, if_neg (by omega)]; exact ⟨_, rfl⟩
theorem ok_prog {p : Pg} {k : Nat} (h : manyS L (unitS L X) (isUnit L) 0 = .ok (p.units, k)) (ht : TailAt L k p.main p.back) : progS L X = .ok p := by
  obtain ⟨j, hj⟩ := at_tail ht
  unfold progS progZ
  rw [bd_of h, bd_of hj]
  rfl
theorem get_app {A B : List Tok} {m : Nat} (h : m < A.length) : (A ++ B)[m]? = A[m]? := List.getElem?_append_left h
theorem prog_back {p : Pg} {x y z : Tok} (hx : x.k = 3 ∧ x.t = tFallback) (hy : y.k = 1) (hz : z.k = 4 ∧ z.t = tSemi) (hL : ∀ t ∈ L, TokOk t) (hX : XAll L X) (hX' : XAll (L ++ [x, y, z]) X') (h : progS L X = .ok p) (hb : p.back = noS) :
    progS (L ++ [x, y, z]) X' = .ok ⟨p.units, p.main, y.t⟩ := by
  obtain ⟨k, h1, hT⟩ := prog_ok h
  have hk := tail_lt hT
  have hloc : ∀ m, m < L.length → (L[m]?).map kt = ((L ++ [x, y, z])[m]?).map kt := fun m hm => by rw [get_app hm]
  have e0 : (L ++ [x, y, z])[L.length]? = some x := by simp
  have e1 : (L ++ [x, y, z])[L.length + 1]? = some y := by rw [List.getElem?_append_right (by omega)]; simp
  have e2 : (L ++ [x, y, z])[L.length + 2]? = some z := by rw [List.getElem?_append_right (by omega)]; simp
  have hlen : (L ++ [x, y, z]).length = L.length + 3 := by simp
  have h2 := (many_i (d := 0) (unit_x hX hX').pi (fun m m' h => isUnit_kt h) 0 _ k h1).2 (fun m _ hm => by rw [Nat.zero_add]; exact hloc m (by omega))
  simp only [Nat.zero_add] at h2
  generalize hL' : L ++ [x, y, z] = L' at *
  refine ok_prog (p := ⟨p.units, p.main, y.t⟩) h2 ?_
  obtain ⟨t1, g1, g2, g3⟩ := hT.name
  obtain ⟨t', g4, g5, g6⟩ := kt_some (hloc (k + 1) (by omega)) g1
  have hL3 : L.length = k + 3 := by
    rcases hT.back with ⟨h, _⟩ | ⟨_, ⟨t2, h3, h4, h5⟩, _, _⟩
    · exact h
    · exact absurd (h5.trans hb) ((hL t2 (List.mem_of_getElem? h3)).name h4)
  refine ⟨by rw [kt_isT (hloc k (by omega))]; exact hT.main, ⟨t', g4, by omega, by rw [g6, g3]⟩, by rw [kt_isT (hloc (k + 2) (by omega))]; exact hT.semi, Or.inr ⟨?_, ⟨y, ?_, hy, rfl⟩, ?_, by omega⟩⟩
  · exact isT_at (by rw [← hL3]; exact e0) (Or.inl hx.1) hx.2
  · rw [show k + 4 = L.length + 1 by omega]; exact e1
  · exact isT_at (by rw [show k + 5 = L.length + 2 by omega]; exact e2) (Or.inr hz.1) hz.2
end
end Gx
end Go.Proofs.YtahalimekacliaaGreatDoor
namespace Go.Proofs.YtahalimekacliaaGreatDoor
open Go.RowKit Go.Shelf Tx
theorem ndPart0 (u0 u1 u2 u3 u4 u5 : Value) (w : World) : (part 3 #[u0, u1, u2, u3, u4, u5] 0).run Tryz.prog w = .ok u0 w := by kernel_rfl
theorem ndPart1 (u0 u1 u2 u3 u4 u5 : Value) (w : World) : (part 3 #[u0, u1, u2, u3, u4, u5] 1).run Tryz.prog w = .ok u1 w := by kernel_rfl
theorem ndPart2 (u0 u1 u2 u3 u4 u5 : Value) (w : World) : (part 3 #[u0, u1, u2, u3, u4, u5] 2).run Tryz.prog w = .ok u2 w := by kernel_rfl
theorem ndPart3 (u0 u1 u2 u3 u4 u5 : Value) (w : World) : (part 3 #[u0, u1, u2, u3, u4, u5] 3).run Tryz.prog w = .ok u3 w := by kernel_rfl
theorem ndPart4 (u0 u1 u2 u3 u4 u5 : Value) (w : World) : (part 3 #[u0, u1, u2, u3, u4, u5] 4).run Tryz.prog w = .ok u4 w := by kernel_rfl
theorem ndPart5 (u0 u1 u2 u3 u4 u5 : Value) (w : World) : (part 9 #[u0, u1, u2, u3, u4, u5] 5).run Tryz.prog w = .ok u5 w := by kernel_rfl
theorem ndStood : Tryz.prog.stoodInHeld 86 = false := by kernel_rfl
set_option maxRecDepth 100000 in
theorem eqNd (x y : Nd) (w : World) : (Op.equalIn 10000 86 (ndV x) (ndV y)).run Tryz.prog w = .ok (decide (x = y)) w := by
  have hu := Tryz.underlying86
  have hf := fields_eq Tryz.underlying86
  have hi : ∀ (d : Nat) (p q : Int), (Op.equalIn (d + 1) 3 (.int .i64 p) (.int .i64 q)).run Tryz.prog w = .ok (p == q) w := fun d p q => run_equalIn_int w d _ _ _ p q Tryz.underlying3
  have hs : ∀ (d : Nat) (p q : ByteArray), (Op.equalIn (d + 1) 9 (.string p) (.string q)).run Tryz.prog w = .ok (decide (p = q)) w := fun d p q => by
    rw [run_equalIn_string w d _ p q Tryz.underlying9]
    congr 1
    rw [Bool.eq_iff_iff, beq_iff_eq, decide_eq_true_eq, Lib.toList_data, Lib.toList_data]
    exact ⟨bytes_ext, fun h => by rw [h]⟩
  obtain ⟨op, a, b, c, n, s⟩ := x
  obtain ⟨op', a', b', c', n', s'⟩ := y
  unfold ndV
  rw [run_equalIn_agg w 9999 _ _ _ (by rw [hf]; exact hu) ndStood, hf]
  simp only [Op.eqFields]
  have e : decide ((⟨op, a, b, c, n, s⟩ : Nd) = ⟨op', a', b', c', n', s'⟩) = ((op == op') && (a == a') && (b == b') && (c == c') && (n == n') && decide (s = s')) := by
    rw [Bool.eq_iff_iff]; simp [and_assoc]
  rw [e]
  cases h0 : (op == op') <;> cases h1 : (a == a') <;> cases h2 : (b == b') <;> cases h3 : (c == c') <;> cases h4 : (n == n') <;> cases h5 : decide (s = s') <;> simp [hi, hs, ndPart0, ndPart1, ndPart2, ndPart3, ndPart4, ndPart5, h0, h1, h2, h3, h4, h5, Result.andThen]
end Go.Proofs.YtahalimekacliaaGreatDoor
namespace Go.Proofs.YtahalimekacliaaGreatDoor
open Go.RowKit Go.Shelf Tx
theorem ret_bool' {a b : Bool} (h : a = b) : Ending.returned (.bool a) = .returned (.bool b) := by rw [h]
end Go.Proofs.YtahalimekacliaaGreatDoor
namespace Go.Proofs.YtahalimekacliaaGreatDoor
open Go.RowKit Go.Shelf Tx
set_option maxRecDepth 100000 in
set_option maxHeartbeats 4000000 in
theorem Same_any (e f : List Nd) (u v : Value) (w : World) (he : e.length ≤ 1000000000) (hf : f.length ≤ 1000000000) (hu : IsE w u e) (hv : IsE w v f) :
    Calls Tryz.prog 25 #[u, v] w fun r w' => r = .returned (.bool (decide (e = f))) ∧ ∃ k, w' = w.drewN k := by
  obtain ⟨a, c, rfl, hc, hx⟩ := hu.form
  obtain ⟨a2, c2, rfl, hc2, hx2⟩ := hv.form
  obtain ⟨n, hn⟩ : ∃ n, n = e.length := ⟨_, rfl⟩
  obtain ⟨m, hm⟩ : ∃ m, m = f.length := ⟨_, rfl⟩
  have HX := Lib.hid hx
  have HX2 := Lib.hid hx2
  rw [← hn] at he hc ⊢
  rw [← hm] at hf hc2 ⊢
  have HN := Lib.hid hn
  have HM := Lib.hid hm
  clear hu hv hx hx2 hn hm
  by_cases hl : n = m
  · subst hl
    have e0 : ((n : Int) != (n : Int)) = false := by simp
    go_enter Tryz.func25, Tryz.ntmps25
    go_wp2_with fail
    go_loopw [5] (fun i wr => ∃ t : Nat, i = .int .i64 t ∧ t ≤ n ∧ (∀ j, j < t → e[j]? = f[j]?) ∧ ∃ k, wr = w.drewN k) (fun i _ => n - (intOf i).toNat)
    case atStart => exact ⟨0, rfl, Nat.zero_le _, fun j h => by omega, 0, rfl⟩
    case round =>
      obtain ⟨t, rfl, ht, hok, k, hk⟩ := hrel
      by_cases hlt : t < n
      · obtain ⟨x, hx⟩ : ∃ x, e[t]? = some x := ⟨_, List.getElem?_eq_getElem (by have := HN.out; omega)⟩
        obtain ⟨y, hy⟩ : ∃ y, f[t]? = some y := ⟨_, List.getElem?_eq_getElem (by have := HM.out; omega)⟩
        have hbw : Below w.heap.size w wr := by rw [hk]; exact below_drawn (Below.refl _ _) k
        have hbd : Below w.heap.size w wr.drew := hbw.drew
        obtain ⟨b, o, rfl, hcell⟩ := HX.out _ hbd t x hx
        obtain ⟨c0, c1, c2, c3, c4, c5⟩ := nd_cells hcell
        obtain ⟨b2, o2, rfl, hcell2⟩ := HX2.out _ hbd t y hy
        obtain ⟨d0, d1, d2, d3, d4, d5⟩ := nd_cells hcell2
        obtain ⟨q, hq⟩ : ∃ q, q = decide (x = y) := ⟨_, rfl⟩
        have HEQ : ∀ W, (Op.equalIn 10000 86 (.agg #[.int .i64 x.op, .int .i64 x.a, .int .i64 x.b, .int .i64 x.c, .int .i64 x.n, .string x.s]) (.agg #[.int .i64 y.op, .int .i64 y.a, .int .i64 y.b, .int .i64 y.c, .int .i64 y.n, .string y.s])).run Tryz.prog W = .ok q W := fun W => by rw [hq]; exact eqNd x y W
        have HXX := Lib.hid hx
        have HYY := Lib.hid hy
        have HQ := Lib.hid hq
        have HOK := Lib.hid hok
        have HK := Lib.hid hk
        have htn : (t : Int) < (n : Int) := by omega
        have ht0 : (0 : Int) ≤ (t : Int) := by omega
        clear hx hy hq hok hk hcell hcell2 hbw hbd
        cases q
        · have HF : Hid (decide (e = f) = false) := by
            show _ = _
            rw [decide_eq_false_iff_not]
            intro h
            have h1 := HXX.out
            rw [h, HYY.out] at h1
            have h2 := HQ.out
            rw [Option.some.inj h1] at h2
            simp at h2
          go_wp2_with fail
          go_region
          all_goals
            go_wp2_with fail
            go_ret
            exact ⟨ret_bool' HF.out.symm, k + 1, by rw [HK.out]; rfl⟩
        · have HALL : Hid (∀ j, j < t + 1 → e[j]? = f[j]?) := fun j hj => by
            by_cases h : j = t
            · subst h
              rw [HXX.out, HYY.out]
              have := HQ.out
              rw [of_decide_eq_true this.symm]
            · exact HOK.out j (by omega)
          go_wp2_with fail
          go_region
          all_goals
            go_wp2_with fail
            go_roundw
            case rel => exact ⟨t + 1, by go_num, by omega, HALL.out, k + 1, by rw [HK.out]; rfl⟩
            case measure => simp [intOf]; omega
      · have hte : t = n := by omega
        subst hte
        have HF : Hid (decide (e = f) = true) := by
          show _ = _
          rw [decide_eq_true_iff]
          apply List.ext_getElem?
          intro j
          rcases Nat.lt_or_ge j t with h | h
          · exact hok j h
          · rw [List.getElem?_eq_none (by have := HN.out; omega), List.getElem?_eq_none (by have := HM.out; omega)]
        have HK := Lib.hid hk
        clear hok hk
        go_wp2_with fail
        go_ret
        exact ⟨ret_bool' HF.out.symm, k, HK.out⟩
  · have e0 : ((n : Int) != (m : Int)) = true := by rw [bne_iff_ne]; omega
    have HF : Hid (decide (e = f) = false) := by
      show _ = _
      rw [decide_eq_false_iff_not]
      intro h
      exact hl (by rw [HN.out, HM.out, h])
    clear hl
    go_enter Tryz.func25, Tryz.ntmps25
    go_wp2_with fail
    go_ret
    exact ⟨ret_bool' HF.out.symm, 0, rfl⟩
end Go.Proofs.YtahalimekacliaaGreatDoor
namespace Go.Proofs.YtahalimekacliaaGreatDoor
open Go.RowKit Go.Shelf Tx Gx
theorem keepsE (b : Nat) : Keeps (PE b) := keeps_of (PE.stays (by decide))
theorem keepsEq (b : Nat) : Keeps (PEq b) := keeps_of (PEq.stays (by decide))
set_option maxRecDepth 100000 in
set_option maxHeartbeats 4000000 in
theorem rParams_eq (b1 b2 : Nat) (l : List Pm) (u v : Value) (w : World) (hl : l.length ≤ 200) (hu : Sg 2 (PPm b1) w u l) (hv : Sg 2 (PPm b2) w v l) :
    Calls Tryz.prog 24 #[u, v] w fun r w' => r = .returned (.bool true) ∧ ∃ k, w' = w.drewN k := by
  obtain ⟨a, c, rfl, hc, hx⟩ := hu.form (keepsPm b1)
  obtain ⟨a2, c2, rfl, hc2, hx2⟩ := hv.form (keepsPm b2)
  obtain ⟨n, hn⟩ : ∃ n, n = l.length := ⟨_, rfl⟩
  have HX := Lib.hid hx
  have HX2 := Lib.hid hx2
  rw [← hn] at hl hc hc2 ⊢
  have HN := Lib.hid hn
  have e0 : ((n : Int) != (n : Int)) = false := by simp
  clear hu hv hx hx2 hn
  go_enter Tryz.func24, Tryz.ntmps24
  go_wp2_with fail
  go_loopw [5] (fun i wr => ∃ t : Nat, i = .int .i64 t ∧ t ≤ n ∧ ∃ k, wr = w.drewN k) (fun i _ => n - (intOf i).toNat)
  case atStart => exact ⟨0, rfl, Nat.zero_le _, 0, rfl⟩
  case round =>
    obtain ⟨t, rfl, ht, k, hk⟩ := hrel
    by_cases hlt : t < n
    · obtain ⟨x, hx⟩ : ∃ x, l[t]? = some x := ⟨_, List.getElem?_eq_getElem (by have := HN.out; omega)⟩
      have hbw : Below w.heap.size w wr := by rw [hk]; exact below_drawn (Below.refl _ _) k
      have hbd : Below w.heap.size w wr.drew := hbw.drew
      obtain ⟨b, o, cs, rfl, hcs, hcell⟩ := HX.out _ hbd t x hx
      obtain ⟨b', o', cs', rfl, hcs', hcell'⟩ := HX2.out _ hbd t x hx
      cases hcs
      cases hcs'
      have c0 := hcell 0 _ rfl
      have c1 := hcell 1 _ rfl
      have d0 := hcell' 0 _ rfl
      have d1 := hcell' 1 _ rfl
      simp only [Nat.add_zero] at c0 d0
      have HEQ := fun W => eqPm x.name x.ty W
      have htn : (t : Int) < (n : Int) := by omega
      have ht0 : (0 : Int) ≤ (t : Int) := by omega
      have HK := Lib.hid hk
      clear hx hk hcell hcell' hbw hbd
      go_wp2_with fail
      go_region
      all_goals
        go_wp2_with fail
        go_roundw
        case rel => exact ⟨t + 1, by go_num, by omega, k + 1, by rw [HK.out]; rfl⟩
        case measure => simp [intOf]; omega
    · have hte : t = n := by omega
      subst hte
      have HK := Lib.hid hk
      clear hk
      go_wp2_with fail
      go_ret
      exact ⟨rfl, k, HK.out⟩
set_option maxRecDepth 100000 in
set_option maxHeartbeats 4000000 in
theorem rExprs_eq (b1 b2 : Nat) (l : List (List Nd)) (u v : Value) (w : World) (hl : l.length ≤ 200) (hs : ∀ e ∈ l, e.length ≤ 5000) (hu : Sg 1 (PE b1) w u l) (hv : Sg 1 (PE b2) w v l) :
    Calls Tryz.prog 26 #[u, v] w fun r w' => r = .returned (.bool true) ∧ ∃ k, w' = w.drewN k := by
  obtain ⟨a, c, rfl, hc, hx⟩ := hu.form (keepsE b1)
  obtain ⟨a2, c2, rfl, hc2, hx2⟩ := hv.form (keepsE b2)
  obtain ⟨n, hn⟩ : ∃ n, n = l.length := ⟨_, rfl⟩
  have HX := Lib.hid hx
  have HX2 := Lib.hid hx2
  have HS := Lib.hid hs
  rw [← hn] at hl hc hc2 ⊢
  have HN := Lib.hid hn
  have e0 : ((n : Int) != (n : Int)) = false := by simp
  clear hu hv hx hx2 hn hs
  go_enter Tryz.func26, Tryz.ntmps26
  go_wp2_with fail
  go_loopw [5] (fun i wr => ∃ t : Nat, i = .int .i64 t ∧ t ≤ n ∧ ∃ k, wr = w.drewN k) (fun i _ => n - (intOf i).toNat)
  case atStart => exact ⟨0, rfl, Nat.zero_le _, 0, rfl⟩
  case round =>
    obtain ⟨t, rfl, ht, k, hk⟩ := hrel
    by_cases hlt : t < n
    · obtain ⟨x, hx⟩ : ∃ x, l[t]? = some x := ⟨_, List.getElem?_eq_getElem (by have := HN.out; omega)⟩
      have hxs := HS.out x (List.mem_of_getElem? hx)
      have hbw : Below w.heap.size w wr := by rw [hk]; exact below_drawn (Below.refl _ _) k
      obtain ⟨b, o, cs, rfl, ⟨ve, rfl, hve⟩, hcell⟩ := HX.out _ hbw t x hx
      obtain ⟨b', o', cs', rfl, ⟨vf, rfl, hvf⟩, hcell'⟩ := HX2.out _ hbw t x hx
      obtain ⟨ea, ec, rfl, -⟩ := hve.form
      obtain ⟨fa, fc, rfl, -⟩ := hvf.form
      have c0 := hcell 0 _ rfl
      have d0 := hcell' 0 _ rfl
      simp only [Nat.add_zero, Nat.mul_one] at c0 d0
      have hsame := Same_any x x _ _ wr.drew (by omega) (by omega) (Sl.below hve.isE (Below.refl _ _).drew) (Sl.below hvf.isE (Below.refl _ _).drew)
      rw [decide_eq_true rfl] at hsame
      have htn : (t : Int) < (n : Int) := by omega
      have ht0 : (0 : Int) ≤ (t : Int) := by omega
      have HK := Lib.hid hk
      generalize x.length = xn at *
      have K0 : wr.cell? ⟨b, o + t, none⟩ = some (.slice ea xn ec) ∧ wr.cell? ⟨b', o' + t, none⟩ = some (.slice fa xn fc) := ⟨c0, d0⟩
      have K1 : wr.drew.cell? ⟨b, o + t, none⟩ = some (.slice ea xn ec) ∧ wr.drew.cell? ⟨b', o' + t, none⟩ = some (.slice fa xn fc) := ⟨c0, d0⟩
      have K2 : ∀ q, (wr.drewN q).cell? ⟨b, o + t, none⟩ = some (.slice ea xn ec) ∧ (wr.drewN q).cell? ⟨b', o' + t, none⟩ = some (.slice fa xn fc) := fun q => ⟨c0, d0⟩
      clear hx hk hcell hcell' hbw hve hvf c0 d0
      go_wp2_with fail
      go_region_held3 (fun w' => w'.cell? ⟨b, o + t, none⟩ = some (.slice ea xn ec) ∧ w'.cell? ⟨b', o' + t, none⟩ = some (.slice fa xn fc))
        (with_reducible first | exact K2 _ | exact K1 | exact K0)
        ((go_at_call 25; refine hsame.mono ?_; rintro r w4 ⟨rfl, kk, rfl⟩))
      go_wp2_with fail
      go_roundw
      case rel => exact ⟨t + 1, by go_num, by omega, _, by rw [HK.out, World.drewN_drewN]⟩
      case measure => simp [intOf]; omega
    · have hte : t = n := by omega
      subst hte
      have HK := Lib.hid hk
      clear hk
      go_wp2_with fail
      go_ret
      exact ⟨rfl, k, HK.out⟩
end Go.Proofs.YtahalimekacliaaGreatDoor
namespace Go.Proofs.YtahalimekacliaaGreatDoor
open Go.RowKit Go.Shelf Tx Gx
set_option maxRecDepth 100000 in
set_option maxHeartbeats 16000000 in
theorem rSameUnit_eq (b1 b2 : Nat) (x : Un) (hfew : UnFew x) (cs cs' : List Value) (w : World) (h1 : PUn b1 w cs x) (h2 : PUn b2 w cs' x) :
    Calls Tryz.prog 13 #[.agg cs.toArray, .agg cs'.toArray] w fun r w' => r = .returned (.bool true) ∧ Below w.heap.size w w' := by
  obtain ⟨vi, vv, vq, vx, rfl, hi1, hv1, hq1, hx1⟩ := h1
  obtain ⟨vi', vv', vq', vx', rfl, hi2, hv2, hq2, hx2⟩ := h2
  obtain ⟨ia, ic, rfl, -⟩ := hi1.form
  obtain ⟨ia2, ic2, rfl, -⟩ := hi2.form
  obtain ⟨va, vc, rfl, -⟩ := hv1.form
  obtain ⟨va2, vc2, rfl, -⟩ := hv2.form
  obtain ⟨qa, qc, rfl, -⟩ := hq1.form
  obtain ⟨qa2, qc2, rfl, -⟩ := hq2.form
  obtain ⟨xa, xc, rfl, -⟩ := hx1.form
  obtain ⟨xa2, xc2, rfl, -⟩ := hx2.form
  obtain ⟨cn, n, ins, ⟨on, ot⟩, vars, eqs, items⟩ := x
  simp only at hi1 hi2 hv1 hv2 hq1 hq2 hx1 hx2 ⊢
  have HFW := Lib.hid hfew
  have SI1 := Lib.hid hi1.sg
  have SI2 := Lib.hid hi2.sg
  have SV1 := Lib.hid hv1.sg
  have SV2 := Lib.hid hv2.sg
  have SQ1 := Lib.hid hq1.sg
  have SQ2 := Lib.hid hq2.sg
  have SX1 := Lib.hid hx1.sg
  have SX2 := Lib.hid hx2.sg
  clear hi1 hi2 hv1 hv2 hq1 hq2 hx1 hx2 hfew
  obtain ⟨il, h_il⟩ : ∃ k, k = ins.length := ⟨_, rfl⟩
  rw [← h_il] at SI1 SI2 ⊢
  have HIL := Lib.hid h_il
  obtain ⟨vl, h_vl⟩ : ∃ k, k = vars.length := ⟨_, rfl⟩
  rw [← h_vl] at SV1 SV2 ⊢
  have HVL := Lib.hid h_vl
  obtain ⟨ql, h_ql⟩ : ∃ k, k = eqs.length := ⟨_, rfl⟩
  rw [← h_ql] at SQ1 SQ2 ⊢
  have HQL := Lib.hid h_ql
  obtain ⟨xl, h_xl⟩ : ∃ k, k = items.length := ⟨_, rfl⟩
  rw [← h_xl] at SX1 SX2 ⊢
  have HXL := Lib.hid h_xl
  have hqb : ql ≤ 200 := by rw [h_ql]; exact HFW.out.q
  have hxb : xl ≤ 200 := by rw [h_xl]; exact HFW.out.x
  clear h_il h_vl h_ql h_xl
  obtain ⟨W0, hW0⟩ : ∃ W, W = (w.alloc (.cells #[.bool cn, .string n, .slice ia il ic, .string on, .int .i64 ot, .slice va vl vc, .slice qa ql qc, .slice xa xl xc] 43)).alloc (.cells #[.bool cn, .string n, .slice ia2 il ic2, .string on, .int .i64 ot, .slice va2 vl vc2, .slice qa2 ql qc2, .slice xa2 xl xc2] 43) := ⟨_, rfl⟩
  have b0 : Below w.heap.size w W0 := by rw [hW0]; exact ((Below.refl _ _).alloc (Nat.le_refl _) _).alloc (by simp) _
  have K1 : Blk W0 w.heap.size #[.bool cn, .string n, .slice ia il ic, .string on, .int .i64 ot, .slice va vl vc, .slice qa ql qc, .slice xa xl xc] 43 := by rw [hW0]; exact (Blk.new w _ _).below ((Below.refl _ _).alloc (Nat.le_refl _) _)
  have K2 : Blk W0 (w.heap.size + 1) #[.bool cn, .string n, .slice ia2 il ic2, .string on, .int .i64 ot, .slice va2 vl vc2, .slice qa2 ql qc2, .slice xa2 xl xc2] 43 := by rw [hW0]; have h := Blk.new (w.alloc (.cells #[.bool cn, .string n, .slice ia il ic, .string on, .int .i64 ot, .slice va vl vc, .slice qa ql qc, .slice xa xl xc] 43)) #[.bool cn, .string n, .slice ia2 il ic2, .string on, .int .i64 ot, .slice va2 vl vc2, .slice qa2 ql qc2, .slice xa2 xl xc2] 43; simpa using h
  have HW0 := Lib.hid hW0
  have HB0 := Lib.hid b0
  have HK1 := Lib.hid K1
  have HK2 := Lib.hid K2
  have hbb : (cn != cn) = false := by simp
  have hbe : (cn == cn) = true := by simp
  have hnn : (n.toList == n.toList) = true := by simp
  have hqq : ((ql : Int) != (ql : Int)) = false := by simp
  have hxx : ((xl : Int) != (xl : Int)) = false := by simp
  have HEQ := fun W => eqPm on ot W
  obtain ⟨x1, hx1⟩ : ∃ b, b = w.heap.size := ⟨_, rfl⟩
  obtain ⟨x2, hx2⟩ : ∃ b, b = w.heap.size + 1 := ⟨_, rfl⟩
  rw [← hx1] at HK1
  rw [← hx2] at HK2
  have HX1 := Lib.hid hx1
  have HX2 := Lib.hid hx2
  have hp1 := rParams_eq b1 b2 ins _ _ W0 HFW.out.i (by exact SI1.out.below (keepsPm b1) b0) (by exact SI2.out.below (keepsPm b2) b0)
  have k0 : W0.cell? ⟨x1, 0, none⟩ = some (.bool cn) := Blk.c HK1.out rfl
  have k1 : W0.cell? ⟨x1, 1, none⟩ = some (.string n) := Blk.c HK1.out rfl
  have k2 : W0.cell? ⟨x1, 2, none⟩ = some (.slice ia il ic) := Blk.c HK1.out rfl
  have k3 : W0.cell? ⟨x1, 3, none⟩ = some (.string on) := Blk.c HK1.out rfl
  have k4 : W0.cell? ⟨x1, 4, none⟩ = some (.int .i64 ot) := Blk.c HK1.out rfl
  have k5 : W0.cell? ⟨x1, 5, none⟩ = some (.slice va vl vc) := Blk.c HK1.out rfl
  have k6 : W0.cell? ⟨x1, 6, none⟩ = some (.slice qa ql qc) := Blk.c HK1.out rfl
  have k7 : W0.cell? ⟨x1, 7, none⟩ = some (.slice xa xl xc) := Blk.c HK1.out rfl
  have m0 : W0.cell? ⟨x2, 0, none⟩ = some (.bool cn) := Blk.c HK2.out rfl
  have m1 : W0.cell? ⟨x2, 1, none⟩ = some (.string n) := Blk.c HK2.out rfl
  have m2 : W0.cell? ⟨x2, 2, none⟩ = some (.slice ia2 il ic2) := Blk.c HK2.out rfl
  have m3 : W0.cell? ⟨x2, 3, none⟩ = some (.string on) := Blk.c HK2.out rfl
  have m4 : W0.cell? ⟨x2, 4, none⟩ = some (.int .i64 ot) := Blk.c HK2.out rfl
  have m5 : W0.cell? ⟨x2, 5, none⟩ = some (.slice va2 vl vc2) := Blk.c HK2.out rfl
  have m6 : W0.cell? ⟨x2, 6, none⟩ = some (.slice qa2 ql qc2) := Blk.c HK2.out rfl
  have m7 : W0.cell? ⟨x2, 7, none⟩ = some (.slice xa2 xl xc2) := Blk.c HK2.out rfl
  clear hW0 b0 K1 K2 hx1 hx2
  go_enter Tryz.func13, Tryz.ntmps13
  go_upto_region 1 with fail
  rw [← HW0.out, ← HX2.out, ← HX1.out]
  go_wp2_with fail
  refine hp1.mono ?_
  rintro r w1 ⟨rfl, q1, hq1⟩
  have B1 : Hid (Below w.heap.size w w1) := by show Below _ _ _; rw [hq1]; exact below_drawn HB0.out _
  have b01 : Below W0.heap.size W0 w1 := by rw [hq1]; exact below_drawn (Below.refl _ _) _
  have HK1 := Lib.hid (HK1.out.below b01)
  have HK2 := Lib.hid (HK2.out.below b01)
  have hp2 := rParams_eq b1 b2 vars _ _ w1 HFW.out.v (SV1.out.below (keepsPm b1) B1.out) (SV2.out.below (keepsPm b2) B1.out)
  clear hp1 hq1 b01 k0 m0 k1 m1 k2 m2 k3 m3 k4 m4 k5 m5 k6 m6 k7 m7
  have k0 : w1.cell? ⟨x1, 0, none⟩ = some (.bool cn) := Blk.c HK1.out rfl
  have k1 : w1.cell? ⟨x1, 1, none⟩ = some (.string n) := Blk.c HK1.out rfl
  have k2 : w1.cell? ⟨x1, 2, none⟩ = some (.slice ia il ic) := Blk.c HK1.out rfl
  have k3 : w1.cell? ⟨x1, 3, none⟩ = some (.string on) := Blk.c HK1.out rfl
  have k4 : w1.cell? ⟨x1, 4, none⟩ = some (.int .i64 ot) := Blk.c HK1.out rfl
  have k5 : w1.cell? ⟨x1, 5, none⟩ = some (.slice va vl vc) := Blk.c HK1.out rfl
  have k6 : w1.cell? ⟨x1, 6, none⟩ = some (.slice qa ql qc) := Blk.c HK1.out rfl
  have k7 : w1.cell? ⟨x1, 7, none⟩ = some (.slice xa xl xc) := Blk.c HK1.out rfl
  have m0 : w1.cell? ⟨x2, 0, none⟩ = some (.bool cn) := Blk.c HK2.out rfl
  have m1 : w1.cell? ⟨x2, 1, none⟩ = some (.string n) := Blk.c HK2.out rfl
  have m2 : w1.cell? ⟨x2, 2, none⟩ = some (.slice ia2 il ic2) := Blk.c HK2.out rfl
  have m3 : w1.cell? ⟨x2, 3, none⟩ = some (.string on) := Blk.c HK2.out rfl
  have m4 : w1.cell? ⟨x2, 4, none⟩ = some (.int .i64 ot) := Blk.c HK2.out rfl
  have m5 : w1.cell? ⟨x2, 5, none⟩ = some (.slice va2 vl vc2) := Blk.c HK2.out rfl
  have m6 : w1.cell? ⟨x2, 6, none⟩ = some (.slice qa2 ql qc2) := Blk.c HK2.out rfl
  have m7 : w1.cell? ⟨x2, 7, none⟩ = some (.slice xa2 xl xc2) := Blk.c HK2.out rfl
  go_wp2_with fail
  refine hp2.mono ?_
  rintro r w2 ⟨rfl, q2, hq2⟩
  have B2 : Hid (Below w.heap.size w w2) := by show Below _ _ _; rw [hq2]; exact below_drawn B1.out _
  have b12 : Below w1.heap.size w1 w2 := by rw [hq2]; exact below_drawn (Below.refl _ _) _
  have HK1 := Lib.hid (HK1.out.below b12)
  have HK2 := Lib.hid (HK2.out.below b12)
  clear hp2 hq2 b12 k0 m0 k1 m1 k2 m2 k3 m3 k4 m4 k5 m5 k6 m6 k7 m7
  have k0 : w2.cell? ⟨x1, 0, none⟩ = some (.bool cn) := Blk.c HK1.out rfl
  have k1 : w2.cell? ⟨x1, 1, none⟩ = some (.string n) := Blk.c HK1.out rfl
  have k2 : w2.cell? ⟨x1, 2, none⟩ = some (.slice ia il ic) := Blk.c HK1.out rfl
  have k3 : w2.cell? ⟨x1, 3, none⟩ = some (.string on) := Blk.c HK1.out rfl
  have k4 : w2.cell? ⟨x1, 4, none⟩ = some (.int .i64 ot) := Blk.c HK1.out rfl
  have k5 : w2.cell? ⟨x1, 5, none⟩ = some (.slice va vl vc) := Blk.c HK1.out rfl
  have k6 : w2.cell? ⟨x1, 6, none⟩ = some (.slice qa ql qc) := Blk.c HK1.out rfl
  have k7 : w2.cell? ⟨x1, 7, none⟩ = some (.slice xa xl xc) := Blk.c HK1.out rfl
  have m0 : w2.cell? ⟨x2, 0, none⟩ = some (.bool cn) := Blk.c HK2.out rfl
  have m1 : w2.cell? ⟨x2, 1, none⟩ = some (.string n) := Blk.c HK2.out rfl
  have m2 : w2.cell? ⟨x2, 2, none⟩ = some (.slice ia2 il ic2) := Blk.c HK2.out rfl
  have m3 : w2.cell? ⟨x2, 3, none⟩ = some (.string on) := Blk.c HK2.out rfl
  have m4 : w2.cell? ⟨x2, 4, none⟩ = some (.int .i64 ot) := Blk.c HK2.out rfl
  have m5 : w2.cell? ⟨x2, 5, none⟩ = some (.slice va2 vl vc2) := Blk.c HK2.out rfl
  have m6 : w2.cell? ⟨x2, 6, none⟩ = some (.slice qa2 ql qc2) := Blk.c HK2.out rfl
  have m7 : w2.cell? ⟨x2, 7, none⟩ = some (.slice xa2 xl xc2) := Blk.c HK2.out rfl
  go_wp2_with fail
  go_loopw [5] (fun i wr => ∃ t : Nat, i = .int .i64 t ∧ t ≤ ql ∧ ∃ k, wr = w2.drewN k) (fun i _ => ql - (intOf i).toNat)
  case atStart => exact ⟨0, rfl, Nat.zero_le _, 0, rfl⟩
  case round =>
    obtain ⟨t, rfl, ht, k, hk⟩ := hrel
    have bw : Below w2.heap.size w2 wr := by rw [hk]; exact below_drawn (Below.refl _ _) k
    have HK1 := Lib.hid (HK1.out.below bw)
    have HK2 := Lib.hid (HK2.out.below bw)
    have HBR : Hid (Below w.heap.size w wr) := below_next B2.out bw
    have HK := Lib.hid hk
    clear bw hk k0 m0 k1 m1 k2 m2 k3 m3 k4 m4 k5 m5 k6 m6 k7 m7
    have k0 : wr.cell? ⟨x1, 0, none⟩ = some (.bool cn) := Blk.c HK1.out rfl
    have k1 : wr.cell? ⟨x1, 1, none⟩ = some (.string n) := Blk.c HK1.out rfl
    have k2 : wr.cell? ⟨x1, 2, none⟩ = some (.slice ia il ic) := Blk.c HK1.out rfl
    have k3 : wr.cell? ⟨x1, 3, none⟩ = some (.string on) := Blk.c HK1.out rfl
    have k4 : wr.cell? ⟨x1, 4, none⟩ = some (.int .i64 ot) := Blk.c HK1.out rfl
    have k5 : wr.cell? ⟨x1, 5, none⟩ = some (.slice va vl vc) := Blk.c HK1.out rfl
    have k6 : wr.cell? ⟨x1, 6, none⟩ = some (.slice qa ql qc) := Blk.c HK1.out rfl
    have k7 : wr.cell? ⟨x1, 7, none⟩ = some (.slice xa xl xc) := Blk.c HK1.out rfl
    have m0 : wr.cell? ⟨x2, 0, none⟩ = some (.bool cn) := Blk.c HK2.out rfl
    have m1 : wr.cell? ⟨x2, 1, none⟩ = some (.string n) := Blk.c HK2.out rfl
    have m2 : wr.cell? ⟨x2, 2, none⟩ = some (.slice ia2 il ic2) := Blk.c HK2.out rfl
    have m3 : wr.cell? ⟨x2, 3, none⟩ = some (.string on) := Blk.c HK2.out rfl
    have m4 : wr.cell? ⟨x2, 4, none⟩ = some (.int .i64 ot) := Blk.c HK2.out rfl
    have m5 : wr.cell? ⟨x2, 5, none⟩ = some (.slice va2 vl vc2) := Blk.c HK2.out rfl
    have m6 : wr.cell? ⟨x2, 6, none⟩ = some (.slice qa2 ql qc2) := Blk.c HK2.out rfl
    have m7 : wr.cell? ⟨x2, 7, none⟩ = some (.slice xa2 xl xc2) := Blk.c HK2.out rfl
    by_cases hlt : t < ql
    · obtain ⟨x, hx⟩ : ∃ x, eqs[t]? = some x := ⟨_, List.getElem?_eq_getElem (by have := HQL.out; omega)⟩
      have hxs := HFW.out.qe x (List.mem_of_getElem? hx)
      obtain ⟨a_, c_, e_, -, hx1⟩ := SQ1.out.form (keepsEq b1)
      rw [← HQL.out] at e_
      cases e_
      obtain ⟨a_, c_, e_, -, hx2⟩ := SQ2.out.form (keepsEq b2)
      rw [← HQL.out] at e_
      cases e_
      obtain ⟨b, o, cs, rfl, ⟨ve, rfl, hve⟩, hcell⟩ := hx1 wr HBR.out t x hx
      obtain ⟨b', o', cs', rfl, ⟨vf, rfl, hvf⟩, hcell'⟩ := hx2 wr HBR.out t x hx
      obtain ⟨ea, ec, rfl, -⟩ := hve.form
      obtain ⟨fa, fc, rfl, -⟩ := hvf.form
      have c0 := hcell 0 _ rfl
      have c1 := hcell 1 _ rfl
      have d0 := hcell' 0 _ rfl
      have d1 := hcell' 1 _ rfl
      simp only [Nat.add_zero] at c0 d0
      have hsame := Same_any x.e x.e _ _ wr.drew (by omega) (by omega) (Sl.below hve.isE (Below.refl _ _).drew) (Sl.below hvf.isE (Below.refl _ _).drew)
      rw [decide_eq_true rfl] at hsame
      have htn2 : (t : Int) < (ql : Int) := by omega
      have ht0 : (0 : Int) ≤ (t : Int) := by omega
      have hee : (x.name.toList == x.name.toList) = true := by simp
      generalize x.e.length = xn at *
      generalize x.name = nm at *
      have KK0 : wr.cell? ⟨x1, 6, none⟩ = some (.slice (some ⟨b, o, none⟩) ql qc) ∧ wr.cell? ⟨x2, 6, none⟩ = some (.slice (some ⟨b', o', none⟩) ql qc2) ∧ wr.cell? ⟨b, o + t * 2, none⟩ = some (.string nm) ∧ wr.cell? ⟨b, o + t * 2 + 1, none⟩ = some (.slice ea xn ec) ∧ wr.cell? ⟨b', o' + t * 2, none⟩ = some (.string nm) ∧ wr.cell? ⟨b', o' + t * 2 + 1, none⟩ = some (.slice fa xn fc) := ⟨k6, m6, c0, c1, d0, d1⟩
      have KK1 : wr.drew.cell? ⟨x1, 6, none⟩ = some (.slice (some ⟨b, o, none⟩) ql qc) ∧ wr.drew.cell? ⟨x2, 6, none⟩ = some (.slice (some ⟨b', o', none⟩) ql qc2) ∧ wr.drew.cell? ⟨b, o + t * 2, none⟩ = some (.string nm) ∧ wr.drew.cell? ⟨b, o + t * 2 + 1, none⟩ = some (.slice ea xn ec) ∧ wr.drew.cell? ⟨b', o' + t * 2, none⟩ = some (.string nm) ∧ wr.drew.cell? ⟨b', o' + t * 2 + 1, none⟩ = some (.slice fa xn fc) := ⟨k6, m6, c0, c1, d0, d1⟩
      have KK2 : ∀ q, (wr.drewN q).cell? ⟨x1, 6, none⟩ = some (.slice (some ⟨b, o, none⟩) ql qc) ∧ (wr.drewN q).cell? ⟨x2, 6, none⟩ = some (.slice (some ⟨b', o', none⟩) ql qc2) ∧ (wr.drewN q).cell? ⟨b, o + t * 2, none⟩ = some (.string nm) ∧ (wr.drewN q).cell? ⟨b, o + t * 2 + 1, none⟩ = some (.slice ea xn ec) ∧ (wr.drewN q).cell? ⟨b', o' + t * 2, none⟩ = some (.string nm) ∧ (wr.drewN q).cell? ⟨b', o' + t * 2 + 1, none⟩ = some (.slice fa xn fc) := fun q => ⟨k6, m6, c0, c1, d0, d1⟩
      clear hx hcell hcell' hve hvf hx1 hx2 hxs
      go_wp2_with fail
      go_region_held3 (fun w' => w'.cell? ⟨x1, 6, none⟩ = some (.slice (some ⟨b, o, none⟩) ql qc) ∧ w'.cell? ⟨x2, 6, none⟩ = some (.slice (some ⟨b', o', none⟩) ql qc2) ∧ w'.cell? ⟨b, o + t * 2, none⟩ = some (.string nm) ∧ w'.cell? ⟨b, o + t * 2 + 1, none⟩ = some (.slice ea xn ec) ∧ w'.cell? ⟨b', o' + t * 2, none⟩ = some (.string nm) ∧ w'.cell? ⟨b', o' + t * 2 + 1, none⟩ = some (.slice fa xn fc))
        (with_reducible first | exact KK2 _ | exact KK1 | exact KK0)
        ((go_at_call 25; refine hsame.mono ?_; rintro r w4 ⟨rfl, kk, rfl⟩))
      go_wp2_with fail
      go_roundw
      case rel => exact ⟨t + 1, by go_num, by omega, _, by rw [HK.out, World.drewN_drewN]⟩
      case measure => simp [intOf]; omega
    · have hte : t = ql := by omega
      subst hte
      go_wp2_with fail
      obtain ⟨w3, rfl⟩ : ∃ W : World, W = wr := ⟨_, rfl⟩
      clear k0 m0 k1 m1 k2 m2 k3 m3 k4 m4 k5 m5 k6 m6 k7 m7
      go_loopw [6] (fun i wr2 => ∃ u : Nat, i = .int .i64 u ∧ u ≤ xl ∧ Below w3.heap.size w3 wr2) (fun i _ => xl - (intOf i).toNat)
      case atStart => exact ⟨0, rfl, Nat.zero_le _, Below.refl _ _⟩
      case round =>
        obtain ⟨u, rfl, hu, bw⟩ := hrel
        have HK1 := Lib.hid (HK1.out.below bw)
        have HK2 := Lib.hid (HK2.out.below bw)
        have HBW : Hid (Below w.heap.size w wr) := below_next HBR.out bw
        have HBU := Lib.hid bw
        clear bw
        have k0 : wr.cell? ⟨x1, 0, none⟩ = some (.bool cn) := Blk.c HK1.out rfl
        have k1 : wr.cell? ⟨x1, 1, none⟩ = some (.string n) := Blk.c HK1.out rfl
        have k2 : wr.cell? ⟨x1, 2, none⟩ = some (.slice ia il ic) := Blk.c HK1.out rfl
        have k3 : wr.cell? ⟨x1, 3, none⟩ = some (.string on) := Blk.c HK1.out rfl
        have k4 : wr.cell? ⟨x1, 4, none⟩ = some (.int .i64 ot) := Blk.c HK1.out rfl
        have k5 : wr.cell? ⟨x1, 5, none⟩ = some (.slice va vl vc) := Blk.c HK1.out rfl
        have k6 : wr.cell? ⟨x1, 6, none⟩ = some (.slice qa t qc) := Blk.c HK1.out rfl
        have k7 : wr.cell? ⟨x1, 7, none⟩ = some (.slice xa xl xc) := Blk.c HK1.out rfl
        have m0 : wr.cell? ⟨x2, 0, none⟩ = some (.bool cn) := Blk.c HK2.out rfl
        have m1 : wr.cell? ⟨x2, 1, none⟩ = some (.string n) := Blk.c HK2.out rfl
        have m2 : wr.cell? ⟨x2, 2, none⟩ = some (.slice ia2 il ic2) := Blk.c HK2.out rfl
        have m3 : wr.cell? ⟨x2, 3, none⟩ = some (.string on) := Blk.c HK2.out rfl
        have m4 : wr.cell? ⟨x2, 4, none⟩ = some (.int .i64 ot) := Blk.c HK2.out rfl
        have m5 : wr.cell? ⟨x2, 5, none⟩ = some (.slice va2 vl vc2) := Blk.c HK2.out rfl
        have m6 : wr.cell? ⟨x2, 6, none⟩ = some (.slice qa2 t qc2) := Blk.c HK2.out rfl
        have m7 : wr.cell? ⟨x2, 7, none⟩ = some (.slice xa2 xl xc2) := Blk.c HK2.out rfl
        by_cases hlu : u < xl
        · obtain ⟨y, hy⟩ : ∃ y, items[u]? = some y := ⟨_, List.getElem?_eq_getElem (by have := HXL.out; omega)⟩
          have hys := HFW.out.xe y (List.mem_of_getElem? hy)
          obtain ⟨a_, c_, e_, -, hx1⟩ := SX1.out.form (keepsIm b1)
          rw [← HXL.out] at e_
          cases e_
          obtain ⟨a_, c_, e_, -, hx2⟩ := SX2.out.form (keepsIm b2)
          rw [← HXL.out] at e_
          cases e_
          obtain ⟨b, o, cs, rfl, ⟨ve, vf, vg, rfl, hve, hvf, hvg⟩, hcell⟩ := hx1 wr HBW.out u y hy
          obtain ⟨b', o', cs', rfl, ⟨ve', vf', vg', rfl, hve', hvf', hvg'⟩, hcell'⟩ := hx2 wr HBW.out u y hy
          obtain ⟨ea, ec, rfl, -⟩ := hve.form
          obtain ⟨fa, fc, rfl, -⟩ := hvf.form
          obtain ⟨ga, gc, rfl, -⟩ := hvg.form
          obtain ⟨ea2, ec2, rfl, -⟩ := hve'.form
          obtain ⟨fa2, fc2, rfl, -⟩ := hvf'.form
          obtain ⟨ga2, gc2, rfl, -⟩ := hvg'.form
          have c0 := hcell 0 _ rfl
          have d0 := hcell' 0 _ rfl
          have c1 := hcell 1 _ rfl
          have d1 := hcell' 1 _ rfl
          have c2 := hcell 2 _ rfl
          have d2 := hcell' 2 _ rfl
          have c3 := hcell 3 _ rfl
          have d3 := hcell' 3 _ rfl
          have c4 := hcell 4 _ rfl
          have d4 := hcell' 4 _ rfl
          have c5 := hcell 5 _ rfl
          have d5 := hcell' 5 _ rfl
          simp only [Nat.add_zero] at c0 d0
          have HYS := Lib.hid hys
          have HE1 := Lib.hid hve
          have HE2 := Lib.hid hve'
          have HF1 := Lib.hid hvf
          have HF2 := Lib.hid hvf'
          have HG1 := Lib.hid hvg.sg
          have HG2 := Lib.hid hvg'.sg
          have hun : (u : Int) < (xl : Int) := by omega
          have hu0 : (0 : Int) ≤ (u : Int) := by omega
          have htt : (y.name.toList == y.name.toList) = true := by simp
          have hkk : (y.kind != y.kind) = false := by simp
          have hyy : (y.ty != y.ty) = false := by simp
          clear hy hcell hcell' hve hvf hvg hve' hvf' hvg' hx1 hx2 hys
          obtain ⟨W1, hW1⟩ : ∃ W, W = wr.alloc (.cells #[.int .i64 y.kind, .string y.name, .int .i64 y.ty, .slice ea y.e.length ec, .slice fa y.f.length fc, .slice ga y.args.length gc] 54) := ⟨_, rfl⟩
          obtain ⟨W2, hW2⟩ : ∃ W, W = W1.alloc (.cells #[.int .i64 y.kind, .string y.name, .int .i64 y.ty, .slice ea2 y.e.length ec2, .slice fa2 y.f.length fc2, .slice ga2 y.args.length gc2] 54) := ⟨_, rfl⟩
          have b1_ : Below wr.heap.size wr W1 := by rw [hW1]; exact (Below.refl _ _).alloc (Nat.le_refl _) _
          have b2_ : Below W1.heap.size W1 W2 := by rw [hW2]; exact (Below.refl _ _).alloc (Nat.le_refl _) _
          have Y1 : Hid (Blk W2 wr.heap.size #[.int .i64 y.kind, .string y.name, .int .i64 y.ty, .slice ea y.e.length ec, .slice fa y.f.length fc, .slice ga y.args.length gc] 54) := by show Blk _ _ _ _; exact (show Blk W1 wr.heap.size _ _ by rw [hW1]; exact Blk.new wr _ _).below b2_
          have Y2 : Hid (Blk W2 W1.heap.size #[.int .i64 y.kind, .string y.name, .int .i64 y.ty, .slice ea2 y.e.length ec2, .slice fa2 y.f.length fc2, .slice ga2 y.args.length gc2] 54) := by show Blk _ _ _ _; rw [hW2]; exact Blk.new W1 _ _
          have b12 : Hid (Below wr.heap.size wr W2) := below_next b1_ b2_
          have HW1 := Lib.hid hW1
          have HW2 := Lib.hid hW2
          have HX27 : ∀ j v, wr.cell? ⟨x2, j, none⟩ = some v → W1.cell? ⟨x2, j, none⟩ = some v := fun j v h => (b1_.cell (World.block_lt_of_cell? wr _ h)).trans h
          have HXD : ∀ j v, wr.cell? ⟨b', j, none⟩ = some v → W1.cell? ⟨b', j, none⟩ = some v := fun j v h => (b1_.cell (World.block_lt_of_cell? wr _ h)).trans h
          have m7 := HX27 _ _ m7
          have d0 := HXD _ _ d0
          have d1 := HXD _ _ d1
          have d2 := HXD _ _ d2
          have d3 := HXD _ _ d3
          have d4 := HXD _ _ d4
          have d5 := HXD _ _ d5
          have hs1 := Same_any y.e y.e _ _ W2 (by have := HYS.out.e; omega) (by have := HYS.out.e; omega) (Sl.below HE1.out.isE b12.out) (Sl.below HE2.out.isE b12.out)
          rw [decide_eq_true rfl] at hs1
          have HS2 : Hid (∀ W, Below W2.heap.size W2 W → Calls Tryz.prog 25 #[.slice fa y.f.length fc, .slice fa2 y.f.length fc2] W fun r w' => r = .returned (.bool true) ∧ ∃ k, w' = W.drewN k) := fun W hW => by
            have h := Same_any y.f y.f _ _ W (by have := HYS.out.f; omega) (by have := HYS.out.f; omega) (Sl.below HF1.out.isE (below_next b12.out hW)) (Sl.below HF2.out.isE (below_next b12.out hW))
            rw [decide_eq_true rfl] at h
            exact h
          have HS3 : Hid (∀ W, Below W2.heap.size W2 W → Calls Tryz.prog 26 #[.slice ga y.args.length gc, .slice ga2 y.args.length gc2] W fun r w' => r = .returned (.bool true) ∧ ∃ k, w' = W.drewN k) := fun W hW =>
            rExprs_eq b1 b2 y.args _ _ W HYS.out.n HYS.out.a (HG1.out.below (keepsE b1) (below_next b12.out hW)) (HG2.out.below (keepsE b2) (below_next b12.out hW))
          clear hW1 hW2 b1_ b2_ HX27 HXD
          generalize y.e.length = el at *
          generalize y.f.length = fl at *
          generalize y.args.length = gl at *
          generalize y.kind = kd at *
          generalize y.name = nm at *
          generalize y.ty = ty at *
          go_upto_region 12 with fail
          rw [← HW1.out]
          go_upto_region 13 with fail
          rw [← HW2.out]
          obtain ⟨y1, hy1⟩ : ∃ b, b = wr.heap.size := ⟨_, rfl⟩
          obtain ⟨y2, hy2⟩ : ∃ b, b = W1.heap.size := ⟨_, rfl⟩
          rw [← hy1] at Y1 ⊢
          rw [← hy2] at Y2 ⊢
          clear hy1 hy2
          clear k0 m0 k1 m1 k2 m2 k3 m3 k4 m4 k5 m5 k6 m6 k7 m7 c0 c1 c2 c3 c4 c5 d0 d1 d2 d3 d4 d5
          have c0 : W2.cell? ⟨y1, 0, none⟩ = some (.int .i64 kd) := Blk.c Y1.out rfl
          have c1 : W2.cell? ⟨y1, 1, none⟩ = some (.string nm) := Blk.c Y1.out rfl
          have c2 : W2.cell? ⟨y1, 2, none⟩ = some (.int .i64 ty) := Blk.c Y1.out rfl
          have c3 : W2.cell? ⟨y1, 3, none⟩ = some (.slice ea el ec) := Blk.c Y1.out rfl
          have c4 : W2.cell? ⟨y1, 4, none⟩ = some (.slice fa fl fc) := Blk.c Y1.out rfl
          have c5 : W2.cell? ⟨y1, 5, none⟩ = some (.slice ga gl gc) := Blk.c Y1.out rfl
          have d0 : W2.cell? ⟨y2, 0, none⟩ = some (.int .i64 kd) := Blk.c Y2.out rfl
          have d1 : W2.cell? ⟨y2, 1, none⟩ = some (.string nm) := Blk.c Y2.out rfl
          have d2 : W2.cell? ⟨y2, 2, none⟩ = some (.int .i64 ty) := Blk.c Y2.out rfl
          have d3 : W2.cell? ⟨y2, 3, none⟩ = some (.slice ea2 el ec2) := Blk.c Y2.out rfl
          have d4 : W2.cell? ⟨y2, 4, none⟩ = some (.slice fa2 fl fc2) := Blk.c Y2.out rfl
          have d5 : W2.cell? ⟨y2, 5, none⟩ = some (.slice ga2 gl gc2) := Blk.c Y2.out rfl
          go_wp2_with fail
          refine hs1.mono ?_
          rintro r w5 ⟨rfl, q_, hq_⟩
          have Bw5 : Hid (Below W2.heap.size W2 w5) := by show Below _ _ _; rw [hq_]; exact below_drawn (Below.refl _ _) _
          clear hs1 hq_ c0 c1 c2 c3 c4 c5 d0 d1 d2 d3 d4 d5
          have c0 : w5.cell? ⟨y1, 0, none⟩ = some (.int .i64 kd) := Blk.c (Y1.out.below Bw5.out) rfl
          have c1 : w5.cell? ⟨y1, 1, none⟩ = some (.string nm) := Blk.c (Y1.out.below Bw5.out) rfl
          have c2 : w5.cell? ⟨y1, 2, none⟩ = some (.int .i64 ty) := Blk.c (Y1.out.below Bw5.out) rfl
          have c3 : w5.cell? ⟨y1, 3, none⟩ = some (.slice ea el ec) := Blk.c (Y1.out.below Bw5.out) rfl
          have c4 : w5.cell? ⟨y1, 4, none⟩ = some (.slice fa fl fc) := Blk.c (Y1.out.below Bw5.out) rfl
          have c5 : w5.cell? ⟨y1, 5, none⟩ = some (.slice ga gl gc) := Blk.c (Y1.out.below Bw5.out) rfl
          have d0 : w5.cell? ⟨y2, 0, none⟩ = some (.int .i64 kd) := Blk.c (Y2.out.below Bw5.out) rfl
          have d1 : w5.cell? ⟨y2, 1, none⟩ = some (.string nm) := Blk.c (Y2.out.below Bw5.out) rfl
          have d2 : w5.cell? ⟨y2, 2, none⟩ = some (.int .i64 ty) := Blk.c (Y2.out.below Bw5.out) rfl
          have d3 : w5.cell? ⟨y2, 3, none⟩ = some (.slice ea2 el ec2) := Blk.c (Y2.out.below Bw5.out) rfl
          have d4 : w5.cell? ⟨y2, 4, none⟩ = some (.slice fa2 fl fc2) := Blk.c (Y2.out.below Bw5.out) rfl
          have d5 : w5.cell? ⟨y2, 5, none⟩ = some (.slice ga2 gl gc2) := Blk.c (Y2.out.below Bw5.out) rfl
          have hs2 := HS2.out w5 Bw5.out
          go_wp2_with fail
          refine hs2.mono ?_
          rintro r w6 ⟨rfl, q_, hq_⟩
          have Bw6 : Hid (Below W2.heap.size W2 w6) := by show Below _ _ _; rw [hq_]; exact below_drawn Bw5.out _
          clear hs2 hq_ c0 c1 c2 c3 c4 c5 d0 d1 d2 d3 d4 d5
          have c0 : w6.cell? ⟨y1, 0, none⟩ = some (.int .i64 kd) := Blk.c (Y1.out.below Bw6.out) rfl
          have c1 : w6.cell? ⟨y1, 1, none⟩ = some (.string nm) := Blk.c (Y1.out.below Bw6.out) rfl
          have c2 : w6.cell? ⟨y1, 2, none⟩ = some (.int .i64 ty) := Blk.c (Y1.out.below Bw6.out) rfl
          have c3 : w6.cell? ⟨y1, 3, none⟩ = some (.slice ea el ec) := Blk.c (Y1.out.below Bw6.out) rfl
          have c4 : w6.cell? ⟨y1, 4, none⟩ = some (.slice fa fl fc) := Blk.c (Y1.out.below Bw6.out) rfl
          have c5 : w6.cell? ⟨y1, 5, none⟩ = some (.slice ga gl gc) := Blk.c (Y1.out.below Bw6.out) rfl
          have d0 : w6.cell? ⟨y2, 0, none⟩ = some (.int .i64 kd) := Blk.c (Y2.out.below Bw6.out) rfl
          have d1 : w6.cell? ⟨y2, 1, none⟩ = some (.string nm) := Blk.c (Y2.out.below Bw6.out) rfl
          have d2 : w6.cell? ⟨y2, 2, none⟩ = some (.int .i64 ty) := Blk.c (Y2.out.below Bw6.out) rfl
          have d3 : w6.cell? ⟨y2, 3, none⟩ = some (.slice ea2 el ec2) := Blk.c (Y2.out.below Bw6.out) rfl
          have d4 : w6.cell? ⟨y2, 4, none⟩ = some (.slice fa2 fl fc2) := Blk.c (Y2.out.below Bw6.out) rfl
          have d5 : w6.cell? ⟨y2, 5, none⟩ = some (.slice ga2 gl gc2) := Blk.c (Y2.out.below Bw6.out) rfl
          have hs3 := HS3.out w6 Bw6.out
          go_wp2_with fail
          refine hs3.mono ?_
          rintro r w7 ⟨rfl, q_, hq_⟩
          have Bw7 : Hid (Below W2.heap.size W2 w7) := by show Below _ _ _; rw [hq_]; exact below_drawn Bw6.out _
          clear hs3 hq_ c0 c1 c2 c3 c4 c5 d0 d1 d2 d3 d4 d5
          have c0 : w7.cell? ⟨y1, 0, none⟩ = some (.int .i64 kd) := Blk.c (Y1.out.below Bw7.out) rfl
          have c1 : w7.cell? ⟨y1, 1, none⟩ = some (.string nm) := Blk.c (Y1.out.below Bw7.out) rfl
          have c2 : w7.cell? ⟨y1, 2, none⟩ = some (.int .i64 ty) := Blk.c (Y1.out.below Bw7.out) rfl
          have c3 : w7.cell? ⟨y1, 3, none⟩ = some (.slice ea el ec) := Blk.c (Y1.out.below Bw7.out) rfl
          have c4 : w7.cell? ⟨y1, 4, none⟩ = some (.slice fa fl fc) := Blk.c (Y1.out.below Bw7.out) rfl
          have c5 : w7.cell? ⟨y1, 5, none⟩ = some (.slice ga gl gc) := Blk.c (Y1.out.below Bw7.out) rfl
          have d0 : w7.cell? ⟨y2, 0, none⟩ = some (.int .i64 kd) := Blk.c (Y2.out.below Bw7.out) rfl
          have d1 : w7.cell? ⟨y2, 1, none⟩ = some (.string nm) := Blk.c (Y2.out.below Bw7.out) rfl
          have d2 : w7.cell? ⟨y2, 2, none⟩ = some (.int .i64 ty) := Blk.c (Y2.out.below Bw7.out) rfl
          have d3 : w7.cell? ⟨y2, 3, none⟩ = some (.slice ea2 el ec2) := Blk.c (Y2.out.below Bw7.out) rfl
          have d4 : w7.cell? ⟨y2, 4, none⟩ = some (.slice fa2 fl fc2) := Blk.c (Y2.out.below Bw7.out) rfl
          have d5 : w7.cell? ⟨y2, 5, none⟩ = some (.slice ga2 gl gc2) := Blk.c (Y2.out.below Bw7.out) rfl
          go_wp2_with fail
          go_roundw
          case rel => exact ⟨u + 1, by go_num, by omega, below_next HBU.out (below_next b12.out Bw7.out)⟩
          case measure => simp [intOf]; omega
        · have hue : u = xl := by omega
          subst hue
          go_wp2_with fail
          go_ret
          exact ⟨rfl, HBW.out⟩
end Go.Proofs.YtahalimekacliaaGreatDoor
namespace Go.Proofs.YtahalimekacliaaGreatDoor
open Go.RowKit Go.Shelf Tx Gx
set_option maxRecDepth 100000 in
set_option maxHeartbeats 8000000 in
theorem rSamePg_eq (b1 b2 : Nat) (us : List Un) (mn bk : ByteArray) (n : Nat) (hn : n = us.length) (hl : us.length ≤ 200) (hfew : ∀ y ∈ us, UnFew y) (ua ua2 : Option Addr) (uc uc2 : Nat) (w : World) (h1 : Sg 8 (PUn b1) w (.slice ua n uc) us) (h2 : Sg 8 (PUn b2) w (.slice ua2 n uc2) us) :
    Calls Tryz.prog 12 #[.agg #[.slice ua n uc, .string mn, .string bk], .agg #[.slice ua2 n uc2, .string mn, .string bk]] w fun r w' => r = .returned (.bool true) ∧ Below w.heap.size w w' := by
  have HS1 := Lib.hid h1
  have HS2 := Lib.hid h2
  have HN := Lib.hid hn
  have HFW := Lib.hid hfew
  have hnb : n ≤ 200 := by omega
  clear h1 h2 hn hfew hl
  obtain ⟨W0, hW0⟩ : ∃ W, W = (w.alloc (.cells #[.slice ua n uc, .string mn, .string bk] 31)).alloc (.cells #[.slice ua2 n uc2, .string mn, .string bk] 31) := ⟨_, rfl⟩
  have b0 : Below w.heap.size w W0 := by rw [hW0]; exact ((Below.refl _ _).alloc (Nat.le_refl _) _).alloc (by simp) _
  have K1 : Blk W0 w.heap.size #[.slice ua n uc, .string mn, .string bk] 31 := by rw [hW0]; exact (Blk.new w _ _).below ((Below.refl _ _).alloc (Nat.le_refl _) _)
  have K2 : Blk W0 (w.heap.size + 1) #[.slice ua2 n uc2, .string mn, .string bk] 31 := by rw [hW0]; have h := Blk.new (w.alloc (.cells #[.slice ua n uc, .string mn, .string bk] 31)) #[.slice ua2 n uc2, .string mn, .string bk] 31; simpa using h
  have HW0 := Lib.hid hW0
  have HB0 := Lib.hid b0
  have HK1 := Lib.hid K1
  have HK2 := Lib.hid K2
  have hmm : (mn.toList == mn.toList) = true := by simp
  have hkk : (bk.toList == bk.toList) = true := by simp
  have hnn : ((n : Int) != (n : Int)) = false := by simp
  obtain ⟨x1, hx1⟩ : ∃ b, b = w.heap.size := ⟨_, rfl⟩
  obtain ⟨x2, hx2⟩ : ∃ b, b = w.heap.size + 1 := ⟨_, rfl⟩
  rw [← hx1] at HK1
  rw [← hx2] at HK2
  have HX1 := Lib.hid hx1
  have HX2 := Lib.hid hx2
  have k0 : W0.cell? ⟨x1, 0, none⟩ = some (.slice ua n uc) := Blk.c HK1.out rfl
  have k1 : W0.cell? ⟨x1, 1, none⟩ = some (.string mn) := Blk.c HK1.out rfl
  have k2 : W0.cell? ⟨x1, 2, none⟩ = some (.string bk) := Blk.c HK1.out rfl
  have m0 : W0.cell? ⟨x2, 0, none⟩ = some (.slice ua2 n uc2) := Blk.c HK2.out rfl
  have m1 : W0.cell? ⟨x2, 1, none⟩ = some (.string mn) := Blk.c HK2.out rfl
  have m2 : W0.cell? ⟨x2, 2, none⟩ = some (.string bk) := Blk.c HK2.out rfl
  clear hW0 b0 K1 K2 hx1 hx2
  go_enter Tryz.func12, Tryz.ntmps12
  go_upto_region 1 with fail
  rw [← HW0.out, ← HX2.out, ← HX1.out]
  go_wp2_with fail
  go_loopw [5] (fun i wr => ∃ t : Nat, i = .int .i64 t ∧ t ≤ n ∧ Below W0.heap.size W0 wr) (fun i _ => n - (intOf i).toNat)
  case atStart => exact ⟨0, rfl, Nat.zero_le _, Below.refl _ _⟩
  case round =>
    obtain ⟨t, rfl, ht, bw⟩ := hrel
    have HK1 := Lib.hid (HK1.out.below bw)
    have HK2 := Lib.hid (HK2.out.below bw)
    have HBR : Hid (Below w.heap.size w wr) := below_next HB0.out bw
    have HBU := Lib.hid bw
    clear bw k0 k1 k2 m0 m1 m2
    have k0 : wr.cell? ⟨x1, 0, none⟩ = some (.slice ua n uc) := Blk.c HK1.out rfl
    have k1 : wr.cell? ⟨x1, 1, none⟩ = some (.string mn) := Blk.c HK1.out rfl
    have k2 : wr.cell? ⟨x1, 2, none⟩ = some (.string bk) := Blk.c HK1.out rfl
    have m0 : wr.cell? ⟨x2, 0, none⟩ = some (.slice ua2 n uc2) := Blk.c HK2.out rfl
    have m1 : wr.cell? ⟨x2, 1, none⟩ = some (.string mn) := Blk.c HK2.out rfl
    have m2 : wr.cell? ⟨x2, 2, none⟩ = some (.string bk) := Blk.c HK2.out rfl
    by_cases hlt : t < n
    · obtain ⟨x, hx⟩ : ∃ x, us[t]? = some x := ⟨_, List.getElem?_eq_getElem (by have := HN.out; omega)⟩
      have hxs := HFW.out x (List.mem_of_getElem? hx)
      obtain ⟨a_, c_, e_, -, hx1⟩ := HS1.out.form (keepsUn b1)
      rw [← HN.out] at e_
      cases e_
      obtain ⟨a_, c_, e_, -, hx2⟩ := HS2.out.form (keepsUn b2)
      rw [← HN.out] at e_
      cases e_
      obtain ⟨b, o, cs, rfl, hp1, hcell⟩ := hx1 wr HBR.out t x hx
      obtain ⟨b', o', cs', rfl, hp2, hcell'⟩ := hx2 wr HBR.out t x hx
      have hcall := rSameUnit_eq b1 b2 x hxs cs cs' wr.drew (keepsUn b1 _ _ _ _ hp1 (Below.refl _ _).drew) (keepsUn b2 _ _ _ _ hp2 (Below.refl _ _).drew)
      obtain ⟨vi, vv, vq, vx, rfl, hi1, hv1, hq1, hx1_⟩ := hp1
      obtain ⟨vi', vv', vq', vx', rfl, hi2, hv2, hq2, hx2_⟩ := hp2
      obtain ⟨ia, ic, rfl, -⟩ := hi1.form
      obtain ⟨ia2, ic2, rfl, -⟩ := hi2.form
      obtain ⟨va, vc, rfl, -⟩ := hv1.form
      obtain ⟨va2, vc2, rfl, -⟩ := hv2.form
      obtain ⟨qa, qc, rfl, -⟩ := hq1.form
      obtain ⟨qa2, qc2, rfl, -⟩ := hq2.form
      obtain ⟨xa, xc, rfl, -⟩ := hx1_.form
      obtain ⟨xa2, xc2, rfl, -⟩ := hx2_.form
      have c0 := hcell 0 _ rfl
      have d0 := hcell' 0 _ rfl
      have c1 := hcell 1 _ rfl
      have d1 := hcell' 1 _ rfl
      have c2 := hcell 2 _ rfl
      have d2 := hcell' 2 _ rfl
      have c3 := hcell 3 _ rfl
      have d3 := hcell' 3 _ rfl
      have c4 := hcell 4 _ rfl
      have d4 := hcell' 4 _ rfl
      have c5 := hcell 5 _ rfl
      have d5 := hcell' 5 _ rfl
      have c6 := hcell 6 _ rfl
      have d6 := hcell' 6 _ rfl
      have c7 := hcell 7 _ rfl
      have d7 := hcell' 7 _ rfl
      simp only [Nat.add_zero] at c0 d0
      clear hi1 hi2 hv1 hv2 hq1 hq2 hx1_ hx2_ hcell hcell' hx1 hx2 hx hxs
      obtain ⟨cn, nm, ins, ⟨on, ot⟩, vars, eqs, items⟩ := x
      simp only at hcall c0 c1 c2 c3 c4 c5 c6 c7 d0 d1 d2 d3 d4 d5 d6 d7
      generalize ins.length = il at *
      generalize vars.length = vl at *
      generalize eqs.length = ql at *
      generalize items.length = xl at *
      have HK : Hid (∀ W, Below wr.heap.size wr W → W.cell? ⟨x1, 0, none⟩ = some (.slice (some ⟨b, o, none⟩) n uc) ∧ W.cell? ⟨x2, 0, none⟩ = some (.slice (some ⟨b', o', none⟩) n uc2) ∧ W.cell? ⟨b, o + t * 8, none⟩ = some (.bool cn) ∧ W.cell? ⟨b, o + t * 8 + 1, none⟩ = some (.string nm) ∧ W.cell? ⟨b, o + t * 8 + 2, none⟩ = some (.slice ia il ic) ∧ W.cell? ⟨b, o + t * 8 + 3, none⟩ = some (.string on) ∧ W.cell? ⟨b, o + t * 8 + 4, none⟩ = some (.int .i64 ot) ∧ W.cell? ⟨b, o + t * 8 + 5, none⟩ = some (.slice va vl vc) ∧ W.cell? ⟨b, o + t * 8 + 6, none⟩ = some (.slice qa ql qc) ∧ W.cell? ⟨b, o + t * 8 + 7, none⟩ = some (.slice xa xl xc) ∧ W.cell? ⟨b', o' + t * 8, none⟩ = some (.bool cn) ∧ W.cell? ⟨b', o' + t * 8 + 1, none⟩ = some (.string nm) ∧ W.cell? ⟨b', o' + t * 8 + 2, none⟩ = some (.slice ia2 il ic2) ∧ W.cell? ⟨b', o' + t * 8 + 3, none⟩ = some (.string on) ∧ W.cell? ⟨b', o' + t * 8 + 4, none⟩ = some (.int .i64 ot) ∧ W.cell? ⟨b', o' + t * 8 + 5, none⟩ = some (.slice va2 vl vc2) ∧ W.cell? ⟨b', o' + t * 8 + 6, none⟩ = some (.slice qa2 ql qc2) ∧ W.cell? ⟨b', o' + t * 8 + 7, none⟩ = some (.slice xa2 xl xc2)) := fun W hW =>
        ⟨(hW.cell (World.block_lt_of_cell? wr _ k0)).trans k0, (hW.cell (World.block_lt_of_cell? wr _ m0)).trans m0, (hW.cell (World.block_lt_of_cell? wr _ c0)).trans c0, (hW.cell (World.block_lt_of_cell? wr _ c1)).trans c1, (hW.cell (World.block_lt_of_cell? wr _ c2)).trans c2, (hW.cell (World.block_lt_of_cell? wr _ c3)).trans c3, (hW.cell (World.block_lt_of_cell? wr _ c4)).trans c4, (hW.cell (World.block_lt_of_cell? wr _ c5)).trans c5, (hW.cell (World.block_lt_of_cell? wr _ c6)).trans c6, (hW.cell (World.block_lt_of_cell? wr _ c7)).trans c7, (hW.cell (World.block_lt_of_cell? wr _ d0)).trans d0, (hW.cell (World.block_lt_of_cell? wr _ d1)).trans d1, (hW.cell (World.block_lt_of_cell? wr _ d2)).trans d2, (hW.cell (World.block_lt_of_cell? wr _ d3)).trans d3, (hW.cell (World.block_lt_of_cell? wr _ d4)).trans d4, (hW.cell (World.block_lt_of_cell? wr _ d5)).trans d5, (hW.cell (World.block_lt_of_cell? wr _ d6)).trans d6, (hW.cell (World.block_lt_of_cell? wr _ d7)).trans d7⟩
      have htn : (t : Int) < (n : Int) := by omega
      have ht0 : (0 : Int) ≤ (t : Int) := by omega
      have KK0 := HK.out wr (Below.refl _ _)
      have KK1 := HK.out wr.drew (Below.refl _ _).drew
      clear c0 c1 c2 c3 c4 c5 c6 c7 d0 d1 d2 d3 d4 d5 d6 d7
      go_wp2_with fail
      go_region_held3 (fun w' => w'.cell? ⟨x1, 0, none⟩ = some (.slice (some ⟨b, o, none⟩) n uc) ∧ w'.cell? ⟨x2, 0, none⟩ = some (.slice (some ⟨b', o', none⟩) n uc2) ∧ w'.cell? ⟨b, o + t * 8, none⟩ = some (.bool cn) ∧ w'.cell? ⟨b, o + t * 8 + 1, none⟩ = some (.string nm) ∧ w'.cell? ⟨b, o + t * 8 + 2, none⟩ = some (.slice ia il ic) ∧ w'.cell? ⟨b, o + t * 8 + 3, none⟩ = some (.string on) ∧ w'.cell? ⟨b, o + t * 8 + 4, none⟩ = some (.int .i64 ot) ∧ w'.cell? ⟨b, o + t * 8 + 5, none⟩ = some (.slice va vl vc) ∧ w'.cell? ⟨b, o + t * 8 + 6, none⟩ = some (.slice qa ql qc) ∧ w'.cell? ⟨b, o + t * 8 + 7, none⟩ = some (.slice xa xl xc) ∧ w'.cell? ⟨b', o' + t * 8, none⟩ = some (.bool cn) ∧ w'.cell? ⟨b', o' + t * 8 + 1, none⟩ = some (.string nm) ∧ w'.cell? ⟨b', o' + t * 8 + 2, none⟩ = some (.slice ia2 il ic2) ∧ w'.cell? ⟨b', o' + t * 8 + 3, none⟩ = some (.string on) ∧ w'.cell? ⟨b', o' + t * 8 + 4, none⟩ = some (.int .i64 ot) ∧ w'.cell? ⟨b', o' + t * 8 + 5, none⟩ = some (.slice va2 vl vc2) ∧ w'.cell? ⟨b', o' + t * 8 + 6, none⟩ = some (.slice qa2 ql qc2) ∧ w'.cell? ⟨b', o' + t * 8 + 7, none⟩ = some (.slice xa2 xl xc2))
        (with_reducible first | exact KK2 | exact KK1 | exact KK0)
        ((go_at_call 13; refine hcall.mono ?_; rintro r w4 ⟨rfl, hb4⟩; have B4 : Below wr.heap.size wr w4 := below_next ((Below.refl wr.heap.size wr).drew) hb4; have KK2 := HK.out w4 B4))
      go_wp2_with fail
      go_roundw
      case rel => exact ⟨t + 1, by go_num, by omega, below_next HBU.out B4⟩
      case measure => simp [intOf]; omega
    · have hte : t = n := by omega
      subst hte
      go_wp2_with fail
      go_ret
      exact ⟨rfl, HBR.out⟩
end Go.Proofs.YtahalimekacliaaGreatDoor
namespace Go.Proofs.YtahalimekacliaaGreatDoor
open Go.RowKit Go.Shelf Tx Px Gx
theorem app_toks {s t : ByteArray} {b : List UInt8} (ht : t.data.toList = s.data.toList ++ 10 :: b) (h : (Lx.lexS s.data.toList).2 = none) (hb : (Lx.lexS b).2 = none) :
    (Lx.lexS t.data.toList).2 = none ∧ toks t.size (Lx.lexS t.data.toList).1 = toks s.size (Lx.lexS s.data.toList).1 ++ toks t.size (Lx.lexS b).1 := by
  have hsz : t.size = s.size + (b.length + 1) := by rw [← size_toList, ht, ← size_toList]; simp
  rw [ht, Lx.lexS_line]
  unfold Lx.glue
  rw [h]
  refine ⟨hb, ?_⟩
  show toks t.size ((Lx.lexS s.data.toList).1.map (Lx.sh (b.length + 1)) ++ (Lx.lexS b).1) = _
  unfold toks
  rw [List.map_append, List.map_map]
  congr 1
  apply List.map_congr_left
  intro x _
  show (⟨x.k, ⟨x.t.toArray⟩, t.size - (x.m + (b.length + 1))⟩ : Tok) = ⟨x.k, ⟨x.t.toArray⟩, s.size - x.m⟩
  rw [hsz, Nat.add_sub_add_right]
def fbL : List UInt8 := [102, 97, 108, 108, 98, 97, 99, 107, 32, 122, 122, 59]
theorem fb_lex : Lx.lexS fbL = ([⟨3, [102, 97, 108, 108, 98, 97, 99, 107], 12⟩, ⟨1, [122, 122], 3⟩, ⟨4, [59], 1⟩], none) := by kernel_rfl
theorem back_S {s t : ByteArray} {p : Pg} (h : PgS s (.ok p)) (hb : p.back = noS) (ht : t.data.toList = s.data.toList ++ 10 :: fbL) : PgS t (.ok ⟨p.units, p.main, ⟨#[122, 122]⟩⟩) := by
  obtain ⟨h1, X, hX, h2⟩ := h.lexok
  obtain ⟨h3, h4⟩ := app_toks ht h1 (by rw [fb_lex])
  rw [fb_lex] at h4
  obtain ⟨Y, hY⟩ := XAll.ex (toks_is t)
  unfold PgS
  rw [h3]
  refine ⟨Y, hY, ?_⟩
  rw [h4] at hY ⊢
  exact (prog_back (x := tok t.size ⟨3, [102, 97, 108, 108, 98, 97, 99, 107], 12⟩) (y := tok t.size ⟨1, [122, 122], 3⟩) (z := tok t.size ⟨4, [59], 1⟩) ⟨rfl, rfl⟩ rfl ⟨rfl, rfl⟩ (toks_is s) hX hY h2 hb).symm
theorem concat_fb (s : ByteArray) : (s ++ (⟨#[10, 102, 97, 108, 108, 98, 97, 99, 107, 32, 122, 122, 59]⟩ : ByteArray)).data.toList = s.data.toList ++ 10 :: fbL := by simp [fbL]
theorem size_fb (s : ByteArray) : (s ++ (⟨#[10, 102, 97, 108, 108, 98, 97, 99, 107, 32, 122, 122, 59]⟩ : ByteArray)).size = s.size + 13 := by rw [← size_toList, concat_fb, ← size_toList]; simp [fbL]
set_option maxRecDepth 100000 in
set_option maxHeartbeats 8000000 in
theorem progBack_any (s : ByteArray) (hs : s.size ≤ maxLen) (w : World) (G : Gl w) :
    Calls Tryz.prog 7 #[.string s] w fun e w' => e = .returned (.bool true) ∧ Below w.heap.size w w' := by
  have hlive := fun W (hW : Below w.heap.size w W) => live06_any W (G.below hW)
  unfold maxLen at hs
  by_cases hbig : 1000 < s.size
  · have hl := hlive w (Below.refl _ _)
    have hb1 : (1000 : Int) < (s.size : Int) := by omega
    clear hlive G
    go_enter Tryz.func7, Tryz.ntmps7
    go_wp2_with fail
    refine hl.mono ?_
    rintro e w1 ⟨rfl, hb⟩
    have HB := Lib.hid hb
    clear hl hb
    go_wp2_with fail
    go_ret
    exact ⟨rfl, HB.out⟩
  · have hb1 : ¬ (1000 : Int) < (s.size : Int) := by omega
    obtain ⟨r, hr⟩ := PgS.all s
    have hrd := pProg_any s (by omega) r hr w G
    have HLV := Lib.hid hlive
    have HR := Lib.hid hr
    have HPR := Lib.hid (fun (t : ByteArray) (ht : t.size ≤ 100000) (q : Except (Int × Int) Pg) (hq : PgS t q) W (hW : Below w.heap.size w W) => pProg_any t ht q hq W (G.below hW))
    have HSZ : Hid (s.size ≤ 1000) := by show _ ≤ _; omega
    clear hlive G hr
    go_enter Tryz.func7, Tryz.ntmps7
    go_upto_region 3 with fail
    go_wp2_with fail
    refine hrd.mono ?_
    rintro e w1 ⟨hb1', hpost⟩
    have HBW1 := Lib.hid hb1'
    clear hrd hb1'
    match r, hpost with
    | .error (c, p), ⟨hc, he⟩ =>
      subst he
      have hc0 : (c != 0) = true := by simp [hc]
      clear hc hpost
      go_upto_region 4 with fail
      refine wp_letW ?_
      intro W1 hW1
      have b1 : Below w1.heap.size w1 W1 := by rw [hW1]; exact ((Below.refl _ _).alloc (Nat.le_refl _) _).alloc (by simp) _
      have P1 : Hid (Blk W1 w1.heap.size #[.slice none 0 0, .string ⟨#[]⟩, .string ⟨#[]⟩] 31) := by show Blk _ _ _ _; rw [hW1]; exact (Blk.new w1 _ _).below ((Below.refl _ _).alloc (Nat.le_refl _) _)
      have F1 : Hid (Blk W1 (w1.heap.size + 1) #[.int .i64 c, .int .i64 p] 25) := by show Blk _ _ _ _; rw [hW1]; have h := Blk.new (w1.alloc (.cells #[.slice none 0 0, .string ⟨#[]⟩, .string ⟨#[]⟩] 31)) #[.int .i64 c, .int .i64 p] 25; simpa using h
      obtain ⟨x1, hx1⟩ : ∃ b, b = w1.heap.size := ⟨_, rfl⟩
      rw [← hx1] at P1 F1 ⊢
      clear hW1 hx1
      have B1 : Hid (Below w.heap.size w W1) := below_next HBW1.out b1
      obtain ⟨u0, u1, -, -⟩ := two_cells F1.out
      have hl2 := HLV.out W1 B1.out
      clear b1
      go_wp2_with fail
      refine hl2.mono ?_
      rintro e w9 ⟨rfl, hb9⟩
      have HB9 := Lib.hid (below_next B1.out hb9)
      clear hl2 hb9
      go_wp2_with fail
      go_ret
      exact ⟨rfl, HB9.out⟩
    | .ok p, ⟨va, n, vc, he, hU⟩ =>
      cases he
      have hn : n = p.units.length := by
        obtain ⟨a_, c_, h_, _⟩ := hU.form
        cases h_; rfl
      have HN := Lib.hid hn
      have HU := Lib.hid hU.sg
      have HFW := Lib.hid HR.out.few
      clear hU hn hpost
      go_upto_region 4 with fail
      refine wp_letW ?_
      intro W1 hW1
      have b1 : Below w1.heap.size w1 W1 := by rw [hW1]; exact ((Below.refl _ _).alloc (Nat.le_refl _) _).alloc (by simp) _
      have P1 : Hid (Blk W1 w1.heap.size #[.slice va n vc, .string p.main, .string p.back] 31) := by show Blk _ _ _ _; rw [hW1]; exact (Blk.new w1 _ _).below ((Below.refl _ _).alloc (Nat.le_refl _) _)
      have F1 : Hid (Blk W1 (w1.heap.size + 1) #[.int .i64 0, .int .i64 0] 25) := by show Blk _ _ _ _; rw [hW1]; have h := Blk.new (w1.alloc (.cells #[.slice va n vc, .string p.main, .string p.back] 31)) #[.int .i64 0, .int .i64 0] 25; simpa using h
      obtain ⟨x1, hx1⟩ : ∃ b, b = w1.heap.size := ⟨_, rfl⟩
      rw [← hx1] at P1 F1 ⊢
      clear hW1 hx1
      have B1 : Hid (Below w.heap.size w W1) := below_next HBW1.out b1
      have HBB1 := Lib.hid b1
      obtain ⟨u0, u1, -, -⟩ := two_cells F1.out
      have p2 : W1.cell? ⟨x1, 2, none⟩ = some (.string p.back) := Blk.c P1.out rfl
      by_cases hbk : p.back = noS
      · have e0 : p.back.toList.isEmpty = true := by rw [hbk, List.isEmpty_iff, Lib.toList_data]; rfl
        have hS2 : PgS (s ++ (⟨#[10, 102, 97, 108, 108, 98, 97, 99, 107, 32, 122, 122, 59]⟩ : ByteArray)) (.ok ⟨p.units, p.main, ⟨#[122, 122]⟩⟩) := back_S HR.out hbk (concat_fb s)
        have hprs := HPR.out _ (by rw [size_fb]; have := HSZ.out; omega) _ hS2 W1 B1.out
        have HBK := Lib.hid hbk
        clear b1 hS2 hbk
        go_upto_region 6 with fail
        go_wp2_with fail
        refine hprs.mono ?_
        rintro e w2 ⟨hb2, va2, n2, vc2, rfl, hU2⟩
        have hn2 : n2 = p.units.length := by
          obtain ⟨a_, c_, h_, _⟩ := hU2.form
          cases h_; rfl
        obtain rfl : n2 = n := by rw [hn2]; exact HN.out.symm
        have HU2 := Lib.hid hU2.sg
        have HB2 := Lib.hid hb2
        clear hprs hU2 hn2 hb2 u0 u1 p2 e0
        go_upto_region 7 with fail
        refine wp_letW ?_
        intro W2 hW2
        have b2 : Below w2.heap.size w2 W2 := by rw [hW2]; exact ((Below.refl _ _).alloc (Nat.le_refl _) _).alloc (by simp) _
        have P2 : Hid (Blk W2 w2.heap.size #[.slice va2 n2 vc2, .string p.main, .string ⟨#[122, 122]⟩] 31) := by show Blk _ _ _ _; rw [hW2]; exact (Blk.new w2 _ _).below ((Below.refl _ _).alloc (Nat.le_refl _) _)
        have F2 : Hid (Blk W2 (w2.heap.size + 1) #[.int .i64 0, .int .i64 0] 25) := by show Blk _ _ _ _; rw [hW2]; have h := Blk.new (w2.alloc (.cells #[.slice va2 n2 vc2, .string p.main, .string ⟨#[122, 122]⟩] 31)) #[.int .i64 0, .int .i64 0] 25; simpa using h
        obtain ⟨x2, hx2⟩ : ∃ b, b = w2.heap.size := ⟨_, rfl⟩
        rw [← hx2] at P2 F2 ⊢
        have HX2 := Lib.hid hx2
        clear hW2
        have B2 : Hid (Below w.heap.size w W2) := below_next B1.out (below_next HB2.out b2)
        have HBB2 := Lib.hid b2
        obtain ⟨u0, u1, -, -⟩ := two_cells F2.out
        have q2 : W2.cell? ⟨x2, 2, none⟩ = some (.string ⟨#[122, 122]⟩) := Blk.c P2.out rfl
        have qf2 : W2.frozen? ⟨x2, 2, none⟩ = false := Blk.z P2.out rfl
        have hx2w : w1.heap.size ≤ x2 ∧ x2 < W2.heap.size := ⟨by rw [hx2]; have := HBB1.out.size; have := HB2.out.size; omega, P2.out.lt⟩
        have hx12 : x1 ≠ x2 := by have := P1.out.lt; have := HB2.out.size; omega
        have P12 := Lib.hid (P1.out.below (below_next HB2.out b2))
        clear b2 hx2
        go_upto_region 10 with fail
        refine wp_letW ?_
        intro W3 hW3
        have F23 : Fr (fun k => k = x2) W2 W3 := by rw [hW3]; exact Fr.set_at W2 x2 2 _
        have PB : Blk W3 x2 #[.slice va2 n2 vc2, .string p.main, .string ⟨#[]⟩] 31 := by rw [hW3]; have h := Blk.setAt P2.out 2 (.string ⟨#[]⟩); simpa using h
        have PA : Blk W3 x1 #[.slice va n2 vc, .string p.main, .string p.back] 31 := F23.blk' P12.out hx12
        have b13 : Below w1.heap.size w1 W3 := by rw [hW3]; exact (below_next HBB1.out (below_next HB2.out HBB2.out)).setCell hx2w.1 _
        have hu2 := HU2.out.below (keepsUn _) HBB2.out
        have B3 : Hid (Below w.heap.size w W3) := below_next HBW1.out b13
        have hw2s : w2.heap.size ≤ x2 := by rw [HX2.out]; exact Nat.le_refl _
        have b23 : Below w2.heap.size w2 W3 := by rw [hW3]; exact HBB2.out.setCell hw2s _
        have PA : Blk W3 x1 #[.slice va n2 vc, .string p.main, .string ⟨#[]⟩] 31 := by rw [HBK.out] at PA; exact PA
        have hsame := rSamePg_eq _ _ p.units p.main ⟨#[]⟩ n2 HN.out HFW.out.n HFW.out.u va va2 vc vc2 W3 (HU.out.below (keepsUn _) b13) (HU2.out.below (keepsUn _) b23)
        have pa0 : W3.cell? ⟨x1, 0, none⟩ = some (.slice va n2 vc) := by unfold Blk at PA; simp [World.cell?, PA]
        have pb0 : W3.cell? ⟨x2, 0, none⟩ = some (.slice va2 n2 vc2) := by unfold Blk at PB; simp [World.cell?, PB]
        have pa1 : W3.cell? ⟨x1, 1, none⟩ = some (.string p.main) := by unfold Blk at PA; simp [World.cell?, PA]
        have pb1 : W3.cell? ⟨x2, 1, none⟩ = some (.string p.main) := by unfold Blk at PB; simp [World.cell?, PB]
        have pa2 : W3.cell? ⟨x1, 2, none⟩ = some (.string ⟨#[]⟩) := by unfold Blk at PA; simp [World.cell?, PA]
        have pb2 : W3.cell? ⟨x2, 2, none⟩ = some (.string ⟨#[]⟩) := by unfold Blk at PB; simp [World.cell?, PB]
        clear hW3 F23 PA PB b13 hu2 b23
        go_wp2_with fail
        refine hsame.mono ?_
        rintro e w5 ⟨rfl, hb5⟩
        have B5 : Hid (Below w.heap.size w w5) := below_next B3.out hb5
        have hl2 := HLV.out w5 B5.out
        clear hsame hb5
        go_wp2_with fail
        refine hl2.mono ?_
        rintro e w9 ⟨rfl, hb9⟩
        have HB9 := Lib.hid (below_next B5.out hb9)
        clear hl2 hb9
        go_wp2_with fail
        go_ret
        exact ⟨rfl, HB9.out⟩
      · have e0 : p.back.toList.isEmpty = false := by
          rw [List.isEmpty_eq_false_iff, Lib.toList_data]
          exact fun h => hbk (bytes_ext (by rw [h]; rfl))
        have hl2 := HLV.out W1 B1.out
        clear b1 hbk
        go_wp2_with fail
        refine hl2.mono ?_
        rintro e w9 ⟨rfl, hb9⟩
        have HB9 := Lib.hid (below_next B1.out hb9)
        clear hl2 hb9
        go_wp2_with fail
        go_ret
        exact ⟨rfl, HB9.out⟩
end Go.Proofs.YtahalimekacliaaGreatDoor
