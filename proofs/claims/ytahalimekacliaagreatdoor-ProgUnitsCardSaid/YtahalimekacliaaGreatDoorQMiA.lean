/- What the law of MiA needs of its own. -/
import Derived.WalkKit
import Derived.WalkSpells
import Derived.Deep.Onto
import Derived.Deep.AppendLies
import Derived.Deep.Draws
import Derived.OwnWalk
import Derived.Test.YtahalimekacliaaGreatDoorProg
import Derived.Shelf.Abstract
import Derived.Lib.Strings
import Derived.WalkLawsBesides
import Derived.Outline
import Derived.Laws.EntriesVeiled
import Derived.Deep.RegionHeld3
import Derived.Deep.QuietTactic
import Derived.BigQuiet
import Derived.StillTailTactics
import Derived.RegionTactic
import Derived.Lib.Hide
import Derived.Deep.DeepCutAuto
import Derived.Deep.CutBlock
import Derived.Laws.MakeOwn
import Derived.Laws.OwnMore
import Derived.OneCell
import Derived.Maps.Own
import Derived.Lib.AtoiAll
import Derived.Lib.AtoiAllCases
import Derived.Shelf.Spec.SearchS
import Derived.Shelf.GgClosure.StringsIndexFunc
import Derived.Lib.SlBy
import Derived.Lib.SlTrimSet
import Derived.Lib.CutLaws
import Derived.Lib.IndexLaws
import Derived.Lib.IndexBytes
import Derived.Shelf.Strings.SlTrimAscii
import Derived.Shelf.Small.Utf8
import Derived.Shelf.Small.Strs
import Derived.Shelf.Strconv.Atoi
import Derived.Shelf.Strconv.Itoa0
import Derived.Shelf.Strconv.Itoa1
import Derived.Shelf.LaysM
import Derived.Shelf.Strconv.Itoa2
import Derived.Shelf.Strconv.Itoa3
import Derived.Shelf.Strconv.AtoiErrFast
import Derived.Shelf.Strconv.ParseIntEmpty
import Derived.Shelf.Strconv.AtoiFail
import Derived.Shelf.Strconv.Clone
import Derived.Shelf.Strconv.SyntaxError
import Derived.Shelf.LaysC
import Derived.Shelf.Strconv.ToError
import Derived.Shelf.Strconv.AtoiErr
import Derived.Shelf.Strconv.ErrVar
import Derived.Shelf.Strconv.Lower
import Derived.Shelf.Strconv.ParseUint10
import Derived.Shelf.Strconv.ParseUint10Empty
import Derived.Shelf.Strconv.ParseUint10Any
import Derived.Shelf.Strconv.ParseInt10
import Derived.Shelf.Strconv.AtoiLong
import Derived.Shelf.Strconv.AtoiInnerAll
import Derived.Shelf.Strconv.RangeError
import Derived.Shelf.Strconv.ToErrorRange
import Derived.Shelf.Strconv.AtoiAll
import Derived.Shelf.Strconv.ErrVarAll
import Derived.Shelf.Strconv.ParseUintEmpty
import Derived.Shelf.Strconv.ParseUint10b64
import Derived.Shelf.Strconv.ParseUint10b32
import Derived.Shelf.Strconv.ParseUint10b16
import Derived.Shelf.Strings.Search1
import Derived.Shelf.Strings.Search2
import Derived.Shelf.Strings.Cut
import Derived.Shelf.Strings.Shaped
import Derived.Ground.GgwProg
import Derived.Shelf.GgClosure.StringsIndexFuncTop
import Derived.Shelf.Strings.Prefix
import Derived.Shelf.Strings.Runes
import Derived.Shelf.Strings.AsciiSet
import Derived.Shelf.Unicode.DecodeSlow
import Derived.Ground.SlgfProg
import Derived.Shelf.SlicesE.IndexFunc
import Derived.Defers
import Derived.Test.YtahalimekacliaaGreatDoorRows
import Derived.Test.YtahalimekacliaaGreatDoorTie
import Derived.Lib.LaidU8
import Derived.SliceStrings
import Derived.HandedShaped
import Derived.ProofKit
import Derived.OpenShut
import Derived.Lay
import Derived.SevenTiedAt
import Derived.Deep.Slices
import Derived.Test.YtahalimekacliaaGreatDoorJ1
import Derived.Test.YtahalimekacliaaGreatDoorJ2
import Derived.Test.YtahalimekacliaaGreatDoorJ3
import Derived.Test.YtahalimekacliaaGreatDoorJ4
import Derived.Test.YtahalimekacliaaGreatDoorJ5
import Derived.Test.YtahalimekacliaaGreatDoorJ6
import Derived.Test.YtahalimekacliaaGreatDoorJ7
import Derived.Test.YtahalimekacliaaGreatDoorJ8
import Derived.Test.YtahalimekacliaaGreatDoorJ9
import Derived.Test.YtahalimekacliaaGreatDoorJ10
import Derived.Test.YtahalimekacliaaGreatDoorJ11
import Derived.Test.YtahalimekacliaaGreatDoorJ12
import Derived.Test.YtahalimekacliaaGreatDoorJ13
import Derived.Test.YtahalimekacliaaGreatDoorJ14
import Derived.Test.YtahalimekacliaaGreatDoorJ15
import Derived.Test.YtahalimekacliaaGreatDoorJ16
import Derived.Test.YtahalimekacliaaGreatDoorJ17
import Derived.Test.YtahalimekacliaaGreatDoorJ18
import Derived.Test.YtahalimekacliaaGreatDoorJ19
import Derived.Test.YtahalimekacliaaGreatDoorJ20
import Derived.Test.YtahalimekacliaaGreatDoorJ21
import Derived.Test.YtahalimekacliaaGreatDoorJ22
import Derived.Test.YtahalimekacliaaGreatDoorJ23
import Derived.Test.YtahalimekacliaaGreatDoorJ24
import Derived.Test.YtahalimekacliaaGreatDoorJ25
import Derived.Test.YtahalimekacliaaGreatDoorJ26
import Derived.Test.YtahalimekacliaaGreatDoorJ27
import Derived.Test.YtahalimekacliaaGreatDoorJ28
import Derived.Test.YtahalimekacliaaGreatDoorJ29
import Derived.Test.YtahalimekacliaaGreatDoorJ30
import Derived.Test.YtahalimekacliaaGreatDoorJ31
import Derived.Test.YtahalimekacliaaGreatDoorJ32
import Derived.Test.YtahalimekacliaaGreatDoorJ33
import Derived.Test.YtahalimekacliaaGreatDoorJ34
import Derived.Test.YtahalimekacliaaGreatDoorJ35
import Derived.Test.YtahalimekacliaaGreatDoorJ36
import Derived.Test.YtahalimekacliaaGreatDoorJ37
import Derived.Test.YtahalimekacliaaGreatDoorJ38
import Derived.Test.YtahalimekacliaaGreatDoorJ39
import Derived.Test.YtahalimekacliaaGreatDoorJ40
import Derived.Test.YtahalimekacliaaGreatDoorJ41
import Derived.Test.YtahalimekacliaaGreatDoorJ42
import Derived.Test.YtahalimekacliaaGreatDoorJ43
import Derived.Test.YtahalimekacliaaGreatDoorJ44
import Derived.Test.YtahalimekacliaaGreatDoorJ45
import Derived.Test.YtahalimekacliaaGreatDoorJ46
set_option linter.unusedVariables false
set_option linter.unusedSimpArgs false
namespace Go.Proofs.YtahalimekacliaaGreatDoor.Lx
structure Stop (c : UInt8) : Prop where
  pt : isPt c = false
  dg : isDig c = false
  sg : ∀ t ∈ signs, c ∉ t
  cm : c ≠ 45
theorem stop_blank {c : UInt8} (h : isBl c = true) : Stop c := by
  simp only [isBl, Bool.or_eq_true, beq_iff_eq] at h
  rcases h with ((rfl | rfl) | rfl) | rfl <;> exact ⟨by decide, by decide, by decide, by decide⟩
theorem takeWhile_stop {p : UInt8 → Bool} {c : UInt8} (h : p c = false) (u b : Bs) : (u ++ c :: b).takeWhile p = u.takeWhile p := by
  induction u with
  | nil => simp [h]
  | cons x u ih => simp only [List.cons_append, List.takeWhile_cons, ih]
theorem prefix_stop {t : Bs} {c : UInt8} : ∀ {u b : Bs}, c ∉ t → t.isPrefixOf (u ++ c :: b) = t.isPrefixOf u := by
  induction t with
  | nil => intro u b _; simp
  | cons x t ih =>
    intro u b h
    cases u with
    | nil => simp [List.isPrefixOf]; intro e; simp [e] at h
    | cons y u =>
      simp only [List.cons_append, List.isPrefixOf]
      rw [ih (by simp at h; exact h.2)]
theorem first_stop {c : UInt8} (h : Stop c) (u b : Bs) : first (u ++ c :: b) = first u := by
  unfold first
  rw [takeWhile_stop h.dg, takeWhile_stop h.pt]
  have e : signs.find? (·.isPrefixOf (u ++ c :: b)) = signs.find? (·.isPrefixOf u) := by
    have : ∀ l : List Bs, (∀ t ∈ l, c ∉ t) → l.find? (·.isPrefixOf (u ++ c :: b)) = l.find? (·.isPrefixOf u) := by
      intro l
      induction l with
      | nil => intro _; rfl
      | cons t l ih =>
        intro hl
        simp only [List.find?_cons]
        rw [prefix_stop (hl t (by simp)), ih fun t ht => hl t (by simp [ht])]
    exact this _ h.sg
  rw [e]
theorem com_stop {c : UInt8} (h : Stop c) (u b : Bs) : isCom (u ++ c :: b) = isCom u := prefix_stop (by simp; exact h.cm)
def sh (n : Nat) (x : R) : R := ⟨x.k, x.t, x.m + n⟩
def glue (n : Nat) (a b : List R × Option (Nat × Nat)) : List R × Option (Nat × Nat) :=
  match a.2 with
  | none => (a.1.map (sh n) ++ b.1, b.2)
  | some (e, m) => (a.1.map (sh n), some (e, m + n))
theorem glue_cons (n : Nat) (x : R) (l : List R) (o : Option (Nat × Nat)) (b : List R × Option (Nat × Nat)) : glue n (x :: l, o) b = (sh n x :: (glue n (l, o) b).1, (glue n (l, o) b).2) := by
  cases o <;> rfl
theorem after_mem {u : Bs} (h : (10 : UInt8) ∈ u) (v : Bs) : afterLine (u ++ v) = afterLine u ++ v := by
  unfold afterLine
  induction u with
  | nil => simp at h
  | cons c u ih =>
    by_cases hc : c = 10
    · subst hc; simp
    · have : (c != 10) = true := by simpa using hc
      simp only [List.cons_append, List.dropWhile_cons, this, if_true]
      exact ih (by simpa [Ne.symm hc] using h)
theorem after_not {u : Bs} (h : (10 : UInt8) ∉ u) (v : Bs) : afterLine (u ++ 10 :: v) = v ∧ afterLine u = [] := by
  unfold afterLine
  induction u with
  | nil => simp
  | cons c u ih =>
    have hc : c ≠ 10 := by rintro rfl; simp at h
    have : (c != 10) = true := by simpa using hc
    simp only [List.cons_append, List.dropWhile_cons, this, if_true]
    exact ih (by simp at h; exact h.2)
theorem lexS_line (b : Bs) : ∀ r, lexS (r ++ 10 :: b) = glue (b.length + 1) (lexS r) (lexS b) := by
  have S := stop_blank (c := 10) (by decide)
  have hbl : ∀ u : Bs, u.dropWhile isBl = u → u ≠ [] → (u ++ 10 :: b).dropWhile isBl = u ++ 10 :: b := fun u hn hu => by
    cases u with
    | nil => exact absurd rfl hu
    | cons c t => rw [List.cons_append, List.dropWhile_cons, if_neg (by simp [drop_fix hn rfl])]
  refine lex_ind ?_ ?_ ?_ ?_ ?_
  · show lexS (10 :: b) = _
    rw [lexS_blank (by decide), lexS_nil]; rfl
  · intro c r hb ih
    rw [List.cons_append, lexS_blank hb, lexS_blank hb]; exact ih
  · intro u hn hu hc ih
    rw [lexS_com (hbl u hn hu) (by simp) (by rw [com_stop S]; exact hc), lexS_com hn hu hc]
    by_cases h : (10 : UInt8) ∈ u
    · rw [after_mem h]; exact ih
    · obtain ⟨h1, h2⟩ := after_not h b
      rw [h1, h2, lexS_nil]; rfl
  · intro u e hn hu hc he
    rw [lexS_err (hbl u hn hu) (by simp) (by rw [com_stop S]; exact hc) (by rw [first_stop S]; exact he), lexS_err hn hu hc he]
    simp [glue]
  · intro u k t hn hu hc ht hp hne ih
    rw [lexS_tok (hbl u hn hu) (by simp) (by rw [com_stop S]; exact hc) (by rw [first_stop S]; exact ht), lexS_tok hn hu hc ht]
    rw [glue_cons, ← ih, List.drop_append_of_le_length hp.length_le]
    simp [sh]
end Go.Proofs.YtahalimekacliaaGreatDoor.Lx
namespace Go.Proofs.YtahalimekacliaaGreatDoor
end Go.Proofs.YtahalimekacliaaGreatDoor
namespace Go.Proofs.YtahalimekacliaaGreatDoor
namespace Px
open Tx
theorem then_ok {r : Option Res} {f : Fo → Nat → Option Res} {l : List Fo} {j : Nat} (h : thenE r f = some (.ok (l, j))) : ∃ a i, r = some (.ok ([a], i)) ∧ f a i = some (.ok (l, j)) := by
  rcases thenE_some h with ⟨e, _, h1⟩ | h
  · cases h1
  · exact h
theorem need_ok {L : List Tok} {s : ByteArray} {i : Nat} {f : Nat → Option Res} {l : List Fo} {j : Nat} (h : needT L s i f = some (.ok (l, j))) : isT L i s = true ∧ f (i + 1) = some (.ok (l, j)) := by
  rcases needT_some h with h1 | h1
  · cases h1
  · exact h1
theorem one_ok {a : Fo} {i : Nat} {l : List Fo} {j : Nat} (h : one a i = some (.ok (l, j))) : l = [a] ∧ j = i := by
  cases h; exact ⟨rfl, rfl⟩
def LbO (p : Orc) : Prop := ∀ g I o l i, p g I o = some (.ok (l, i)) → I ≤ i ∧ (cat g.have_).size + g.have_.length ≤ (cat l).size + l.length
theorem need_i {L : List Tok} {s : ByteArray} {i : Nat} {f : Nat → Option Res} {l : List Fo} {j : Nat} (h : needT L s i f = some (.ok (l, j))) : f (i + 1) = some (.ok (l, j)) := (need_ok h).2
theorem step_lb {L : List Tok} {p : Orc} (h : LbO p) : LbO (stepP L p) := by
  intro g I o l i hq
  cases g with
  | bin n =>
    simp only [Tag.have_, cat, Fo.size, List.length_nil]
    refine ⟨?_, by omega⟩
    simp only [stepP] at hq
    split at hq
    · obtain ⟨a, j, e1, e2⟩ := then_ok hq
      have := (h _ _ _ _ _ e1).1
      have := (h _ _ _ _ _ e2).1
      omega
    · unfold operandS at hq
      split at hq
      · cases hq
      split at hq
      · cases hq
      split at hq
      · obtain ⟨rfl, rfl⟩ := one_ok hq; omega
      split at hq
      · split at hq
        · split at hq
          · obtain ⟨rfl, rfl⟩ := one_ok hq; omega
          · unfold callS at hq
            split at hq
            · cases hq
            · cases hq
            · rename_i m j hr
              have := (h _ _ _ _ _ hr).1
              obtain ⟨rfl, rfl⟩ := one_ok hq; omega
        · obtain ⟨rfl, rfl⟩ := one_ok hq; omega
      split at hq
      · unfold signS at hq
        split at hq
        · split at hq
          · split at hq
            · split at hq
              · obtain ⟨a, j, e1, e2⟩ := then_ok hq
                have := (h _ _ _ _ _ e1).1
                obtain ⟨rfl, rfl⟩ := one_ok e2; omega
              · cases hq
            · cases hq
          · obtain ⟨a, j, e1, e2⟩ := then_ok hq
            have := (h _ _ _ _ _ e1).1
            obtain ⟨rfl, rfl⟩ := one_ok e2; omega
        · split at hq
          · obtain ⟨rfl, rfl⟩ := one_ok hq; omega
          split at hq
          · obtain ⟨rfl, rfl⟩ := one_ok hq; omega
          split at hq
          · obtain ⟨a, j, e1, e2⟩ := then_ok hq
            have := (h _ _ _ _ _ e1).1
            obtain ⟨rfl, rfl⟩ := one_ok (need_i e2); omega
          split at hq
          · obtain ⟨a, j, e1, e2⟩ := then_ok hq
            obtain ⟨b, j2, e3, e4⟩ := then_ok (need_i e2)
            obtain ⟨c, j3, e5, e6⟩ := then_ok (need_i e4)
            have := (h _ _ _ _ _ e1).1
            have := (h _ _ _ _ _ e3).1
            have := (h _ _ _ _ _ e5).1
            obtain ⟨rfl, rfl⟩ := one_ok e6; omega
          · cases hq
      · cases hq
  | loop n a =>
    simp only [stepP] at hq
    split at hq
    · obtain ⟨rfl, rfl⟩ := one_ok hq; exact ⟨Nat.le_refl _, Nat.le_refl _⟩
    · rename_i op sw _
      obtain ⟨b, j, e1, e2⟩ := then_ok hq
      have h1 := (h _ _ _ _ _ e1).1
      have hs : a.size ≤ (node op 0 noS (if sw then b.app a else a.app b)).size := by cases sw <;> simp [node, Fo.size, Fo.size_app] <;> omega
      split at e2
      · obtain ⟨rfl, rfl⟩ := one_ok e2
        refine ⟨by omega, ?_⟩
        simp only [Tag.have_, cat, Fo.app_no, List.length_singleton]; omega
      · obtain ⟨h2, h3⟩ := h _ _ _ _ _ e2
        refine ⟨by omega, ?_⟩
        simp only [Tag.have_, cat, Fo.app_no, List.length_singleton] at h3 ⊢; omega
  | args l0 =>
    simp only [stepP] at hq
    obtain ⟨a, j, e1, e2⟩ := then_ok hq
    have h1 := (h _ _ _ _ _ e1).1
    split at e2
    · cases e2
      refine ⟨by omega, ?_⟩
      simp only [Tag.have_, cat_snoc, Fo.size_app, List.length_append, List.length_singleton]; omega
    split at e2
    · obtain ⟨h2, h3⟩ := h _ _ _ _ _ e2
      refine ⟨by omega, ?_⟩
      simp only [Tag.have_, cat_snoc, Fo.size_app, List.length_append, List.length_singleton] at h3 ⊢; omega
    · cases e2
theorem P_lb (L : List Tok) : ∀ f, LbO (P L f)
  | 0 => fun _ _ _ _ _ h => by cases h
  | f + 1 => step_lb (P_lb L f)
end Px
end Go.Proofs.YtahalimekacliaaGreatDoor
namespace Go.Proofs.YtahalimekacliaaGreatDoor
namespace Px
open Tx
theorem parse_of {L : List Tok} {f i j : Nat} {F : Fo} (h : P L f (.bin 0) i 0 = some (.ok ([F], j))) (h1 : F.size ≤ 5000) (h2 : F.depth ≤ 40) : parse L f i = some (.ok (F, j)) := by
  unfold parse; rw [h]; simp only
  rw [if_neg (by omega), if_neg (by omega)]
end Px
end Go.Proofs.YtahalimekacliaaGreatDoor
namespace Go.Proofs.YtahalimekacliaaGreatDoor
namespace Px
open Tx
def LocO (L L' : List Tok) (d : Nat) (p p' : Orc) : Prop := ∀ g I o l j, p g I o = some (.ok (l, j)) → LocT L L' d I j → p' g (d + I) o = some (.ok (l, d + j))
theorem then_of {r : Option Res} {f : Fo → Nat → Option Res} {a : Fo} {i : Nat} (h : r = some (.ok ([a], i))) : thenE r f = f a i := by rw [h]; rfl
theorem sign_loc {L L' : List Tok} {d : Nat} {p p' : Orc} (hp : LocO L L' d p p') (hlb : LbO p) {s : ByteArray} {I o j : Nat} {l : List Fo} (hq : signS p L s I o = some (.ok (l, j))) (h : LocT L L' d I j) : signS p' L' s (d + I) o = some (.ok (l, d + j)) := by
  have hd : ∀ m, d + I + m = d + (I + m) := fun m => by omega
  unfold signS at hq ⊢
  split at hq
  · rename_i op hop
    split at hq
    · rename_i h25
      rw [if_pos h25]
      split at hq
      · rename_i u hu
        split at hq
        · rename_i h4
          obtain ⟨a, k, e1, e2⟩ := then_ok hq
          obtain ⟨rfl, rfl⟩ := one_ok e2
          have hb := (hlb _ _ _ _ _ e1).1
          obtain ⟨u', h1, h2, h3⟩ := kt_some (h (I + 1) (by omega) (by omega)) hu
          rw [hd 1, h1]
          simp only [h2, h3]
          rw [if_pos h4, hd 2, then_of (hp _ _ _ _ _ e1 (h.mono (by omega) (Nat.le_refl _)))]
          rfl
        · cases hq
      · cases hq
    · rename_i h25
      rw [if_neg h25]
      obtain ⟨a, k, e1, e2⟩ := then_ok hq
      obtain ⟨rfl, rfl⟩ := one_ok e2
      rw [hd 1, then_of (hp _ _ _ _ _ e1 (h.mono (by omega) (Nat.le_refl _)))]
      rfl
  · split at hq
    · rename_i h1; rw [if_pos h1]; obtain ⟨rfl, rfl⟩ := one_ok hq; rfl
    rename_i h1; rw [if_neg h1]
    split at hq
    · rename_i h1; rw [if_pos h1]; obtain ⟨rfl, rfl⟩ := one_ok hq; rfl
    rename_i h1; rw [if_neg h1]
    split at hq
    · rename_i h1; rw [if_pos h1]
      obtain ⟨a, k, e1, e2⟩ := then_ok hq
      obtain ⟨e3, e4⟩ := need_ok e2
      obtain ⟨rfl, rfl⟩ := one_ok e4
      have hb := (hlb _ _ _ _ _ e1).1
      rw [hd 1, then_of (hp _ _ _ _ _ e1 (h.mono (by omega) (by omega)))]
      exact h.need (by omega) (by omega) e3 rfl
    rename_i h1; rw [if_neg h1]
    split at hq
    · rename_i h1; rw [if_pos h1]
      obtain ⟨a, k, e1, e2⟩ := then_ok hq
      obtain ⟨e3, e4⟩ := need_ok e2
      obtain ⟨b, k2, e5, e6⟩ := then_ok e4
      obtain ⟨e7, e8⟩ := need_ok e6
      obtain ⟨c, k3, e9, e10⟩ := then_ok e8
      obtain ⟨rfl, rfl⟩ := one_ok e10
      have b1 := (hlb _ _ _ _ _ e1).1
      have b2 := (hlb _ _ _ _ _ e5).1
      have b3 := (hlb _ _ _ _ _ e9).1
      rw [hd 1, then_of (hp _ _ _ _ _ e1 (h.mono (by omega) (by omega)))]
      refine h.need (by omega) (by omega) e3 ?_
      rw [then_of (hp _ _ _ _ _ e5 (h.mono (by omega) (by omega)))]
      refine h.need (by omega) (by omega) e7 ?_
      rw [then_of (hp _ _ _ _ _ e9 (h.mono (by omega) (by omega)))]
      rfl
    · cases hq
theorem operand_loc {L L' : List Tok} {d : Nat} {p p' : Orc} (hp : LocO L L' d p p') (hlb : LbO p) {I o j : Nat} {l : List Fo} (hq : operandS p L I o = some (.ok (l, j))) (h : LocT L L' d I j) : operandS p' L' (d + I) o = some (.ok (l, d + j)) := by
  have hd : ∀ m, d + I + m = d + (I + m) := fun m => by omega
  unfold operandS at hq ⊢
  split at hq
  · cases hq
  rename_i h200
  rw [if_neg h200]
  split at hq
  · cases hq
  rename_i t ht
  have hIj : I ≤ j := by
    split at hq
    · obtain ⟨rfl, rfl⟩ := one_ok hq; omega
    split at hq
    · split at hq
      · split at hq
        · obtain ⟨rfl, rfl⟩ := one_ok hq; omega
        · unfold callS at hq
          split at hq
          · cases hq
          · cases hq
          · rename_i m k hr
            have := (hlb _ _ _ _ _ hr).1
            obtain ⟨rfl, rfl⟩ := one_ok hq; omega
      · obtain ⟨rfl, rfl⟩ := one_ok hq; omega
    split at hq
    · unfold signS at hq
      split at hq
      · split at hq
        · split at hq
          · split at hq
            · obtain ⟨a, k, e1, e2⟩ := then_ok hq
              have := (hlb _ _ _ _ _ e1).1
              obtain ⟨rfl, rfl⟩ := one_ok e2; omega
            · cases hq
          · cases hq
        · obtain ⟨a, k, e1, e2⟩ := then_ok hq
          have := (hlb _ _ _ _ _ e1).1
          obtain ⟨rfl, rfl⟩ := one_ok e2; omega
      · split at hq
        · obtain ⟨rfl, rfl⟩ := one_ok hq; omega
        split at hq
        · obtain ⟨rfl, rfl⟩ := one_ok hq; omega
        split at hq
        · obtain ⟨a, k, e1, e2⟩ := then_ok hq
          have := (hlb _ _ _ _ _ e1).1
          obtain ⟨rfl, rfl⟩ := one_ok (need_i e2); omega
        split at hq
        · obtain ⟨a, k, e1, e2⟩ := then_ok hq
          have := (hlb _ _ _ _ _ e1).1
          obtain ⟨b, k2, e5, e6⟩ := then_ok (need_i e2)
          have := (hlb _ _ _ _ _ e5).1
          obtain ⟨c, k3, e9, e10⟩ := then_ok (need_i e6)
          have := (hlb _ _ _ _ _ e9).1
          obtain ⟨rfl, rfl⟩ := one_ok e10; omega
        · cases hq
    · cases hq
  obtain ⟨t', h1, h2, h3⟩ := kt_some (h I (Nat.le_refl _) hIj) ht
  rw [h1]
  simp only [h2, h3]
  split at hq
  · rename_i h4; rw [if_pos h4]; obtain ⟨rfl, rfl⟩ := one_ok hq; rfl
  rename_i h4; rw [if_neg h4]
  split at hq
  · rename_i h5; rw [if_pos h5]
    split at hq
    · rename_i h6
      split at hq
      · rename_i h7
        obtain ⟨rfl, rfl⟩ := one_ok hq
        rw [hd 1, h.isT (by omega) (by omega), if_pos h6, hd 2, h.isT (by omega) (by omega), if_pos h7]
        rfl
      · rename_i h7
        have hq0 := hq
        unfold callS at hq
        split at hq
        · cases hq
        · cases hq
        · rename_i m k hr
          have hb := (hlb _ _ _ _ _ hr).1
          obtain ⟨rfl, rfl⟩ := one_ok hq
          rw [hd 1, h.isT (by omega) (by omega), if_pos h6, hd 2, h.isT (by omega) (by omega), if_neg h7, hp _ _ _ _ _ hr (h.mono (by omega) (Nat.le_refl _))]
          rfl
    · rename_i h6
      obtain ⟨rfl, rfl⟩ := one_ok hq
      rw [hd 1, h.isT (by omega) (by omega), if_neg h6]
      rfl
  rename_i h5; rw [if_neg h5]
  split at hq
  · rename_i h6; rw [if_pos h6]; exact sign_loc hp hlb hq h
  · cases hq
theorem step_loc {L L' : List Tok} {d : Nat} {p p' : Orc} (hp : LocO L L' d p p') (hlb : LbO p) : LocO L L' d (stepP L p) (stepP L' p') := by
  intro g I o l j hq h
  cases g with
  | bin n =>
    simp only [stepP] at hq ⊢
    split at hq
    · rename_i hn
      rw [if_pos hn]
      obtain ⟨a, k, e1, e2⟩ := then_ok hq
      have b1 := (hlb _ _ _ _ _ e1).1
      have b2 := (hlb _ _ _ _ _ e2).1
      rw [then_of (hp _ _ _ _ _ e1 (h.mono (Nat.le_refl _) b2))]
      exact hp _ _ _ _ _ e2 (h.mono b1 (Nat.le_refl _))
    · rename_i hn
      rw [if_neg hn]
      exact operand_loc hp hlb hq h
  | loop n a =>
    simp only [stepP] at hq ⊢
    split at hq
    · rename_i h1
      obtain ⟨rfl, rfl⟩ := one_ok hq
      rw [h.here (Nat.le_refl _) (Nat.le_refl _), h1]
      rfl
    · rename_i op sw hop
      obtain ⟨b, k, e1, e2⟩ := then_ok hq
      have b1 := (hlb _ _ _ _ _ e1).1
      have b2 : k ≤ j := by
        split at e2
        · obtain ⟨-, rfl⟩ := one_ok e2; omega
        · exact (hlb _ _ _ _ _ e2).1
      rw [h.here (Nat.le_refl _) (by omega), hop]
      simp only
      rw [show d + I + 1 = d + (I + 1) by omega, then_of (hp _ _ _ _ _ e1 (h.mono (by omega) b2))]
      split at e2
      · rename_i h1
        obtain ⟨rfl, rfl⟩ := one_ok e2
        rw [if_pos h1]; rfl
      · rename_i h1
        rw [if_neg h1]
        exact hp _ _ _ _ _ e2 (h.mono (by omega) (Nat.le_refl _))
  | args l0 =>
    simp only [stepP] at hq ⊢
    obtain ⟨a, k, e1, e2⟩ := then_ok hq
    have b1 := (hlb _ _ _ _ _ e1).1
    have b2 : k ≤ j := by
      split at e2
      · cases e2; omega
      split at e2
      · have := (hlb _ _ _ _ _ e2).1; omega
      · cases e2
    rw [then_of (hp _ _ _ _ _ e1 (h.mono (Nat.le_refl _) b2)), h.isT b1 b2, h.isT b1 b2]
    split at e2
    · rename_i h1
      rw [if_pos h1]
      cases e2
      simp only [Nat.add_assoc]
    rename_i h1
    rw [if_neg h1]
    split at e2
    · rename_i h2
      rw [if_pos h2, Nat.add_assoc]
      exact hp _ _ _ _ _ e2 (h.mono (by omega) (Nat.le_refl _))
    · cases e2
theorem P_loc (L L' : List Tok) (d : Nat) : ∀ f, LocO L L' d (P L f) (P L' f)
  | 0 => fun _ _ _ _ _ h _ => by cases h
  | f + 1 => step_loc (P_loc L L' d f) (P_lb L f)
theorem ParR.loc {L L' : List Tok} {d i j : Nat} {F : Fo} (h : ParR L i (.ok (F, j))) (hl : LocT L L' d i j) : ParR L' (d + i) (.ok (F, d + j)) := by
  obtain ⟨f, hf⟩ := h
  obtain ⟨h1, h2, h3⟩ := parse_ok hf
  exact ⟨f, parse_of (P_loc L L' d f _ _ _ _ _ h1 hl) h2 h3⟩
section
variable {L L' : List Tok}
end
end Px
end Go.Proofs.YtahalimekacliaaGreatDoor
namespace Go.Proofs.YtahalimekacliaaGreatDoor
namespace Gx
open Tx Px
section
variable {L L' : List Tok} {d : Nat} {α β : Type}
theorem loc_lox {i j : Nat} (h : LocT L L' d i j) : Lox L L' d i j := fun m h1 h2 => h m h1 (by omega)
theorem PX.weak {s t : Nat} {f f' : Nat → Rz α} (h : PX L L' d s f f') (hs : t ≤ s) : PX L L' d t f f' := fun i a j e => ⟨by have := (h i a j e).1; omega, (h i a j e).2⟩
theorem PX.pi {s : Nat} {f f' : Nat → Rz α} (h : PX L L' d s f f') : PI L L' d f f' := fun i a j e => ⟨by have := (h i a j e).1; omega, fun hl => (h i a j e).2 (loc_lox hl)⟩
theorem PI.bdX {t : Nat} {f f' : Nat → Rz α} {g g' : α → Nat → Rz β} (h : PI L L' d f f') (ht : 1 ≤ t) (hg : ∀ a, PX L L' d t (g a) (g' a)) : PX L L' d t (fun i => bd (f i) (g · ·)) (fun i => bd (f' i) (g' · ·)) := by
  intro i b j e
  obtain ⟨a, k, e1, e2⟩ := bd_ok e
  obtain ⟨h1, h2⟩ := h i a k e1
  obtain ⟨h3, h4⟩ := hg a k b j e2
  exact ⟨by omega, fun hl => by
    dsimp only
    rw [bd_of (h2 fun m a b => hl m a (by omega))]
    exact h4 fun m a b => hl m (by omega) b⟩
theorem PI.bdI {f f' : Nat → Rz α} {g g' : α → Nat → Rz β} (h : PI L L' d f f') (hg : ∀ a, PI L L' d (g a) (g' a)) : PI L L' d (fun i => bd (f i) (g · ·)) (fun i => bd (f' i) (g' · ·)) := by
  intro i b j e
  obtain ⟨a, k, e1, e2⟩ := bd_ok e
  obtain ⟨h1, h2⟩ := h i a k e1
  obtain ⟨h3, h4⟩ := hg a k b j e2
  exact ⟨by omega, fun hl => by
    dsimp only
    rw [bd_of (h2 fun m a b => hl m a (by omega))]
    exact h4 fun m a b => hl m (by omega) b⟩
theorem ret_x (a : α) : PX L L' d 0 (fun i => rt a i) (fun i => rt a i) := fun i b j e => by
  obtain ⟨rfl, rfl⟩ := rt_ok e; exact ⟨by omega, fun _ => rfl⟩
theorem if_x {c c' : Nat → Bool} (hc : ∀ m m', (L[m]?).map kt = (L'[m']?).map kt → c' m' = c m) {s : Nat} (hs : 1 ≤ s) {f f' g g' : Nat → Rz α} (hf : PX L L' d s f f') (hg : PX L L' d s g g') :
    PX L L' d s (fun i => if c i = true then f i else g i) (fun i => if c' i = true then f' i else g' i) := by
  intro i b j e
  dsimp only at e ⊢
  split at e
  · rename_i h1
    obtain ⟨h2, h3⟩ := hf i b j e
    exact ⟨h2, fun hl => by rw [hc _ _ (hl i (Nat.le_refl _) (by omega)), if_pos h1]; exact h3 hl⟩
  · rename_i h1
    obtain ⟨h2, h3⟩ := hg i b j e
    exact ⟨h2, fun hl => by rw [hc _ _ (hl i (Nat.le_refl _) (by omega)), if_neg h1]; exact h3 hl⟩
theorem if_i {c c' : Nat → Bool} (hc : ∀ m m', (L[m]?).map kt = (L'[m']?).map kt → c' m' = c m) {f f' g g' : Nat → Rz α} (hf : PI L L' d f f') (hg : PI L L' d g g') :
    PI L L' d (fun i => if c i = true then f i else g i) (fun i => if c' i = true then f' i else g' i) := by
  intro i b j e
  dsimp only at e ⊢
  split at e
  · rename_i h1
    obtain ⟨h2, h3⟩ := hf i b j e
    exact ⟨h2, fun hl => by rw [hc _ _ (hl i (Nat.le_refl _) (by omega)), if_pos h1]; exact h3 hl⟩
  · rename_i h1
    obtain ⟨h2, h3⟩ := hg i b j e
    exact ⟨h2, fun hl => by rw [hc _ _ (hl i (Nat.le_refl _) (by omega)), if_neg h1]; exact h3 hl⟩
theorem er_x (c : Int) (s : Nat) (g' : Nat → Rz α) : PX L L' d s (fun i => er L c i) g' := fun i b j e => (er_ok e).elim
theorem nd_x (s : ByteArray) : PX L L' d 1 (nd L s) (nd L' s) :=
  if_x (fun m m' h => kt_isT h s) (Nat.le_refl _) ((ret_x PUnit.unit).next) (er_x 5 1 _)
theorem name_x : PX L L' d 1 (nameS L) (nameS L') := by
  intro i b j e
  unfold nameS at e
  cases h1 : L[i]? with
  | none => rw [h1] at e; cases e
  | some t =>
    rw [h1] at e
    simp only at e
    split at e
    · rename_i hk
      obtain ⟨rfl, rfl⟩ := rt_ok e
      refine ⟨Nat.le_refl _, fun hl => ?_⟩
      obtain ⟨t', h2, h3, h4⟩ := kt_some (hl i (Nat.le_refl _) (by omega)) h1
      unfold nameS
      rw [h2]
      simp only [h3, h4, hk, if_true]
      rfl
    · cases e
theorem ty_x : PX L L' d 1 (tyS L) (tyS L') :=
  if_x (fun m m' h => kt_isT h _) (Nat.le_refl _) ((ret_x (1 : Int)).next) (if_x (fun m m' h => kt_isT h _) (Nat.le_refl _) ((ret_x (2 : Int)).next) (er_x 5 1 _))
theorem param_x : PX L L' d 1 (paramS L) (paramS L') :=
  PX.weak (name_x.bd_ fun n => (nd_x tColon).bd_ fun _ => ty_x.bd_ fun t => ret_x (⟨n, t⟩ : Pm)) (by omega)
theorem loop_i {one one' : Nat → Rz (α × Bool)} (h : PI L L' d one one') : ∀ k acc, PI L L' d (loopS L one k acc) (loopS L' one' k acc)
  | 0, _ => (er_x 7 0 _).pi
  | k + 1, acc => h.bdI fun x i b j e => by
    split at e
    · rename_i hx
      rw [if_pos hx]; exact loop_i h k _ i b j e
    · rename_i hx
      rw [if_neg hx]; obtain ⟨rfl, rfl⟩ := rt_ok e; exact ⟨Nat.le_refl _, fun _ => rfl⟩
theorem loop_x {one one' : Nat → Rz (α × Bool)} (h : PX L L' d 1 one one') : ∀ k acc, PX L L' d 1 (loopS L one k acc) (loopS L' one' k acc)
  | 0, _ => er_x 7 1 _
  | k + 1, acc => PX.weak (h.bd_ (t := 0) fun x i b j e => by
    split at e
    · rename_i hx
      rw [if_pos hx]; exact (loop_x h k _).weak (Nat.zero_le _) i b j e
    · rename_i hx
      rw [if_neg hx]; obtain ⟨rfl, rfl⟩ := rt_ok e; exact ⟨by omega, fun _ => rfl⟩) (by omega)
theorem sep_x {one one' : Nat → Rz α} (h : PI L L' d one one') (s : ByteArray) : PX L L' d 1 (sepS L one s) (sepS L' one' s) :=
  h.bdX (Nat.le_refl _) fun x => if_x (fun m m' h => kt_isT h _) (Nat.le_refl _) ((ret_x (x, false)).next) (PX.weak ((nd_x s).bd_ fun _ => ret_x (x, true)) (by omega))
theorem between_x {one one' : Nat → Rz α} (h : PI L L' d one one') (s : ByteArray) : PX L L' d 1 (betweenS L one s) (betweenS L' one' s) :=
  PX.weak ((nd_x tLpar).bd_ fun _ => if_x (fun m m' h => kt_isT h _) (Nat.le_refl _) ((ret_x ([] : List α)).next) (loop_x (sep_x h s) 200 [])) (by omega)
theorem on_i {one one' : Nat → Rz α} {on on' : Nat → Bool} (h : PI L L' d one one') (hc : ∀ m m', (L[m]?).map kt = (L'[m']?).map kt → on' m' = on m) : PI L L' d (onS one on) (onS one' on') :=
  h.bdI fun x i b j e => by
    obtain ⟨rfl, rfl⟩ := rt_ok e
    exact ⟨Nat.le_refl _, fun hl => by rw [hc _ _ (hl j (Nat.le_refl _) (Nat.le_refl _))]; rfl⟩
theorem many_i {one one' : Nat → Rz α} {on on' : Nat → Bool} (h : PI L L' d one one') (hc : ∀ m m', (L[m]?).map kt = (L'[m']?).map kt → on' m' = on m) : PI L L' d (manyS L one on) (manyS L' one' on') :=
  if_i hc (loop_i (on_i h hc) 200 []) (ret_x ([] : List α)).pi
variable {X X' : XO}
theorem par_mono {i j : Nat} {F : Fo} (h : ParR L i (.ok (F, j))) : i ≤ j := by
  obtain ⟨f, hf⟩ := h
  exact (P_lb L f _ _ _ _ _ (parse_ok hf).1).1
theorem expr_i (hX : XAll L X) (hX' : XAll L' X') : PI L L' d (exprS X) (exprS X') := by
  intro i b j e
  unfold exprS at e
  split at e
  · cases e
  · rename_i F k hk
    obtain ⟨rfl, rfl⟩ := rt_ok e
    have h1 := hX i
    rw [hk] at h1
    refine ⟨par_mono h1, fun hl => ?_⟩
    unfold exprS
    rw [ParR.one (hX' (d + i)) (h1.loc hl)]
    rfl
theorem semi_x (a : α) : PX L L' d 1 (fun i => bd (nd L tSemi i) fun _ i => rt a i) (fun i => bd (nd L' tSemi i) fun _ i => rt a i) := (nd_x tSemi).bd_ fun _ => ret_x a
theorem item_x (hX : XAll L X) (hX' : XAll L' X') : PX L L' d 1 (itemS L X) (itemS L' X') := by
  have hE := expr_i (d := d) hX hX'
  refine if_x (fun m m' h => kt_isT h _) (Nat.le_refl _) ?_ (if_x (fun m m' h => kt_isT h _) (Nat.le_refl _) ?_ (if_x (fun m m' h => kt_isT h _) (Nat.le_refl _) ?_ (if_x (fun m m' h => kt_isT h _) (Nat.le_refl _) ?_ ?_)))
  · exact PX.weak (PX.next (hE.bdX (Nat.le_refl _) fun e => semi_x (⟨1, noS, 0, e, [], []⟩ : Im))) (by omega)
  · exact PX.weak (PX.next (hE.bdX (Nat.le_refl _) fun e => semi_x (⟨2, noS, 0, e, [], []⟩ : Im))) (by omega)
  · exact PX.weak (PX.next (param_x.bd_ fun p => (nd_x tEq).bd_ fun _ => hE.bdX (Nat.le_refl _) fun e => semi_x (⟨3, p.name, p.ty, e, [], []⟩ : Im))) (by omega)
  · exact PX.weak (PX.next (name_x.bd_ fun n => (nd_x tRequire).bd_ fun _ => hE.bdX (by omega) fun e => (nd_x tEnsure).bd_ fun _ => hE.bdX (Nat.le_refl _) fun f => semi_x (⟨4, n, 0, e, f, []⟩ : Im))) (by omega)
  · exact PX.weak (PX.next (name_x.bd_ fun n => (between_x hE tComma).bd_ fun l => semi_x (⟨5, n, 0, [], [], l⟩ : Im))) (by omega)
theorem items_x (hX : XAll L X) (hX' : XAll L' X') : PX L L' d 1 (itemsS L X) (itemsS L' X') :=
  (many_i (item_x hX hX').pi (fun m m' h => isItem_kt h)).bdX (Nat.le_refl _) fun l => PX.weak ((nd_x tEnd).bd_ fun _ => ret_x l) (by omega)
theorem eq_x (hX : XAll L X) (hX' : XAll L' X') : PX L L' d 1 (eqS L X) (eqS L' X') :=
  PX.weak (name_x.bd_ fun n => (nd_x tEq).bd_ fun _ => (expr_i hX hX').bdX (Nat.le_refl _) fun e => semi_x (⟨n, e⟩ : Eqn)) (by omega)
theorem var_i : PI L L' d (varS L) (varS L') :=
  param_x.pi.bdI fun p => (nd_x tSemi).pi.bdI fun _ i b j e => by
    obtain ⟨rfl, rfl⟩ := rt_ok e
    exact ⟨Nat.le_refl _, fun hl => by rw [named_kt (hl j (Nat.le_refl _) (Nat.le_refl _))]; rfl⟩
theorem vars_i : PI L L' d (varsS L) (varsS L') := loop_i var_i 200 []
theorem opt_i {f f' : Nat → Rz (List α)} (h : PI L L' d f f') (s : ByteArray) : PI L L' d (optS L s f) (optS L' s f') :=
  if_i (fun m m' h => kt_isT h _) h.next (ret_x ([] : List α)).pi
theorem eqs_x (hX : XAll L X) (hX' : XAll L' X') : PX L L' d 1 (eqsS L X) (eqsS L' X') :=
  (many_i (eq_x hX hX').pi (fun m m' h => named_kt h)).bdX (Nat.le_refl _) fun l => PX.weak ((nd_x tTel).bd_ fun _ => ret_x l) (by omega)
theorem head_x : PX L L' d 1 (headS L) (headS L') :=
  PX.weak (name_x.bd_ fun n => (between_x param_x.pi tSemi).bd_ fun l => (nd_x tReturns).bd_ fun _ => (nd_x tLpar).bd_ fun _ => param_x.bd_ fun o => (nd_x tRpar).bd_ fun _ => ret_x (n, l, o)) (by omega)
theorem con_x (hX : XAll L X) (hX' : XAll L' X') : PX L L' d 1 (conS L X) (conS L' X') :=
  PX.weak (name_x.bd_ fun n => (between_x param_x.pi tSemi).bd_ fun l => (items_x hX hX').bd_ fun x => ret_x (⟨true, n, l, ⟨noS, 0⟩, [], [], x⟩ : Un)) (by omega)
theorem node_x (hX : XAll L X) (hX' : XAll L' X') : PX L L' d 1 (nodeS L X) (nodeS L' X') :=
  PX.weak (head_x.bd_ (t := 1) fun h => (opt_i (items_x hX hX').pi tContract).bdX (Nat.le_refl _) fun x => (opt_i vars_i tVar).bdX (Nat.le_refl _) fun v => PX.weak ((nd_x tLet).bd_ fun _ => (eqs_x hX hX').bd_ fun q => ret_x (⟨false, h.1, h.2.1, h.2.2, v, q, x⟩ : Un)) (by omega)) (by omega)
theorem unit_x (hX : XAll L X) (hX' : XAll L' X') : PX L L' d 1 (unitS L X) (unitS L' X') :=
  if_x (fun m m' h => kt_isT h _) (Nat.le_refl _) (PX.weak (con_x hX hX').next (by omega)) (PX.weak ((nd_x tNode).bd_ fun _ => node_x hX hX') (by omega))
def Ch (one : Nat → Rz α) (on : Nat → Bool) : List α → Nat → Nat → Prop
  | [], i, j => i = j
  | x :: l, i, j => on i = true ∧ ∃ k, one i = .ok (x, k) ∧ Ch one on l k j
theorem loop_chain {one : Nat → Rz α} {on : Nat → Bool} : ∀ (n : Nat) (acc : List α) (i : Nat) (l : List α) (j : Nat), loopS L (onS one on) n acc i = .ok (l, j) → ∃ x r k, l = acc ++ x :: r ∧ (x :: r).length ≤ n ∧ one i = .ok (x, k) ∧ Ch one on r k j ∧ on j = false
  | 0, acc, i, l, j, h => (er_ok h).elim
  | n + 1, acc, i, l, j, h => by
    obtain ⟨⟨x, b⟩, k, h1, h2⟩ := bd_ok h
    obtain ⟨y, k', h3, h4⟩ := bd_ok h1
    obtain ⟨e, rfl⟩ := rt_ok h4
    cases e
    dsimp only at h2
    split at h2
    · rename_i hon
      obtain ⟨z, r, m, rfl, h5, h6, h7, h8⟩ := loop_chain n _ _ _ _ h2
      exact ⟨x, z :: r, k, by simp, by simp at h5 ⊢; omega, h3, ⟨hon, m, h6, h7⟩, h8⟩
    · rename_i hon
      obtain ⟨rfl, rfl⟩ := rt_ok h2
      exact ⟨x, [], j, by simp, by simp, h3, rfl, by simpa using hon⟩
theorem many_chain {one : Nat → Rz α} {on : Nat → Bool} {i j : Nat} {l : List α} (h : manyS L one on i = .ok (l, j)) : Ch one on l i j ∧ on j = false ∧ l.length ≤ 200 := by
  unfold manyS at h
  split at h
  · rename_i hon
    obtain ⟨x, r, k, rfl, h1, h2, h3, h4⟩ := loop_chain 200 [] i l j h
    exact ⟨⟨hon, k, h2, h3⟩, h4, h1⟩
  · rename_i hon
    obtain ⟨rfl, rfl⟩ := rt_ok h
    exact ⟨rfl, by simpa using hon, by simp⟩
theorem chain_loop {one : Nat → Rz α} {on : Nat → Bool} : ∀ (r : List α) (n : Nat) (acc : List α) (x : α) (i k j : Nat), (x :: r).length ≤ n → one i = .ok (x, k) → Ch one on r k j → on j = false → loopS L (onS one on) n acc i = .ok (acc ++ x :: r, j)
  | [], n, acc, x, i, k, j, hn, h1, h2, h3 => by
    cases h2
    match n, hn with
    | n + 1, hn =>
      have h4 : onS one on i = .ok ((x, on k), k) := by unfold onS; rw [bd_of h1]; rfl
      show bd (onS one on i) _ = _
      rw [bd_of h4, h3]
      rfl
  | y :: r, n, acc, x, i, k, j, hn, h1, ⟨h2, m, h5, h6⟩, h3 => by
    match n, hn with
    | n + 1, hn =>
      have h4 : onS one on i = .ok ((x, on k), k) := by unfold onS; rw [bd_of h1]; rfl
      show bd (onS one on i) _ = _
      rw [bd_of h4, h2]
      simp only [if_true]
      rw [chain_loop r n _ y k m j (by simp at hn ⊢; omega) h5 h6 h3]
      simp
theorem chain_many {one : Nat → Rz α} {on : Nat → Bool} {i j : Nat} {l : List α} (h : Ch one on l i j) (hon : on j = false) (hl : l.length ≤ 200) : manyS L one on i = .ok (l, j) := by
  unfold manyS
  match l, h with
  | [], h => cases h; rw [hon]; rfl
  | x :: r, ⟨h1, k, h2, h3⟩ => rw [h1, if_pos rfl]; exact chain_loop r 200 [] x i k j hl h2 h3 hon
theorem chain_app {one : Nat → Rz α} {on : Nat → Bool} : ∀ (a b : List α) (i j k : Nat), Ch one on a i j → Ch one on b j k → Ch one on (a ++ b) i k
  | [], b, i, j, k, h1, h2 => by cases h1; exact h2
  | x :: a, b, i, j, k, ⟨h1, m, h3, h4⟩, h2 => ⟨h1, m, h3, chain_app a b m j k h4 h2⟩
theorem chain_le {one one' : Nat → Rz α} {on : Nat → Bool} (h : PX L L' d 1 one one') : ∀ (a : List α) (i j : Nat), Ch one on a i j → i ≤ j
  | [], i, j, e => by cases e; exact Nat.le_refl _
  | x :: a, i, j, ⟨_, k, h1, h2⟩ => by
    have := (h i x k h1).1
    have := chain_le h a k j h2
    omega
theorem chain_x {one one' : Nat → Rz α} {on on' : Nat → Bool} (h : PX L L' d 1 one one') (hc : ∀ m m', (L[m]?).map kt = (L'[m']?).map kt → on' m' = on m) : ∀ (a : List α) (i j : Nat), Ch one on a i j → Lox L L' d i j → Ch one' on' a (d + i) (d + j)
  | [], i, j, e, _ => by cases e; rfl
  | x :: a, i, j, ⟨h1, k, h2, h3⟩, hl => by
    obtain ⟨h4, h5⟩ := h i x k h2
    have h6 := chain_le h a k j h3
    exact ⟨by rw [hc _ _ (hl i (Nat.le_refl _) (by omega))]; exact h1, d + k, h5 fun m p q => hl m p (by omega), chain_x h hc a k j h3 fun m p q => hl m (by omega) q⟩
theorem nd_yes {s : ByteArray} {i : Nat} (h : isT L i s = true) : nd L s i = .ok (⟨⟩, i + 1) := by unfold nd; rw [if_pos h]; rfl
theorem name_of {i : Nat} {t : Tok} (h : L[i]? = some t) (hk : t.k = 1) : nameS L i = .ok (t.t, i + 1) := by unfold nameS; rw [h]; simp only [hk, if_true]; rfl
theorem isT_at_no {i : Nat} {t : Tok} {s : ByteArray} (h : L[i]? = some t) (ht : t.t ≠ s) : isT L i s = false := by
  unfold isT hereT; rw [h]; simp only [decide_eq_false_iff_not]; split
  · simpa using ht
  · simp
theorem isT_out {i : Nat} {s : ByteArray} (h : L.length ≤ i) : isT L i s = false := by
  unfold isT hereT; rw [List.getElem?_eq_none h]; simp
theorem at_tail {k : Nat} {m b : ByteArray} (h : TailAt L k m b) : ∃ j, tailS L k = .ok ((m, b), j) := by
  obtain ⟨t, h1, h2, h3⟩ := h.name
  unfold tailS
  rw [bd_of (nd_yes h.main), bd_of (name_of h1 h2), h3]
  rw [bd_of (nd_yes h.semi)]
  rcases h.back with ⟨e1, rfl⟩ | ⟨e1, ⟨t2, e2, e3, e4⟩, e5, e6⟩
  · have h4 : backS L (k + 3) = .ok (noS, k + 3) := by unfold backS; rw [isT_out (by omega)]; rfl
    rw [show k + 1 + 1 + 1 = k + 3 by omega, bd_of h4, if_neg (by omega)]; exact ⟨_, rfl⟩
  · have h4 : backS L (k + 3) = .ok (b, k + 6) := by
      unfold backS; rw [if_pos e1, show k + 3 + 1 = k + 4 by omega, bd_of (name_of e2 e3), e4, bd_of (nd_yes e5)]; rfl
    rw [show k + 1 + 1 + 1 = k + 3 by omega, bd_of h4, if_neg (by omega)]; exact ⟨_, rfl⟩
theorem ok_prog {p : Pg} {k : Nat} (h : manyS L (unitS L X) (isUnit L) 0 = .ok (p.units, k)) (ht : TailAt L k p.main p.back) : progS L X = .ok p := by
  obtain ⟨j, hj⟩ := at_tail ht
  unfold progS progZ
  rw [bd_of h, bd_of hj]
  rfl
end
theorem prog_units {A B L1 L2 L3 : List Tok} {X1 X2 X3 : XO} {p q : Pg} {x y z : Tok} (hx : x.k = 3 ∧ x.t = tMain) (h1 : L1 = A ++ [x, y, z]) (h2 : ∀ m, m < A.length → (L1[m]?).map kt = (L3[m]?).map kt) (h3 : ∀ m, (L2[m]?).map kt = (L3[A.length + m]?).map kt) (h4 : L3.length = A.length + L2.length)
    (hX1 : XAll L1 X1) (hX2 : XAll L2 X2) (hX3 : XAll L3 X3) (hp : progS L1 X1 = .ok p) (hq : progS L2 X2 = .ok q) (hn : p.units.length + q.units.length ≤ 200) :
    p.main = y.t ∧ p.back = noS ∧ progS L3 X3 = .ok ⟨p.units ++ q.units, q.main, q.back⟩ := by
  obtain ⟨k, a1, a2⟩ := prog_ok hp
  obtain ⟨m, b1, b2⟩ := prog_ok hq
  have hlen : L1.length = A.length + 3 := by rw [h1]; simp
  have hx0 : L1[A.length]? = some x := by rw [h1]; simp
  have hy0 : L1[A.length + 1]? = some y := by rw [h1, List.getElem?_append_right (by omega)]; simp
  have hk : k = A.length ∧ p.back = noS := by
    rcases a2.back with ⟨e1, e2⟩ | ⟨e1, _, _, e6⟩
    · exact ⟨by omega, e2⟩
    · rw [show k + 3 = A.length by omega, isT_at_no hx0 (by rw [hx.2]; decide)] at e1; cases e1
  obtain ⟨rfl, hb⟩ := hk
  refine ⟨?_, hb, ?_⟩
  · obtain ⟨t, g1, _, g3⟩ := a2.name
    rw [hy0] at g1; cases g1; exact g3.symm
  · obtain ⟨c1, -, c2⟩ := many_chain a1
    obtain ⟨d1, d2, d3⟩ := many_chain b1
    have c3 := chain_x (d := 0) (unit_x hX1 hX3) (fun m m' h => isUnit_kt h) _ _ _ c1 (fun m _ hm => by rw [Nat.zero_add]; exact h2 m hm)
    have d4 := chain_x (d := A.length) (unit_x hX2 hX3) (fun m m' h => isUnit_kt h) _ _ _ d1 (fun m _ _ => h3 m)
    simp only [Nat.zero_add, Nat.add_zero] at c3 d4
    have hall := chain_many (L := L3) (chain_app _ _ _ _ _ c3 d4) (by rw [isUnit_kt (h3 m)]; exact d2) (by rw [List.length_append]; exact hn)
    refine ok_prog (p := ⟨p.units ++ q.units, q.main, q.back⟩) hall ?_
    obtain ⟨t, g1, g2, g3⟩ := b2.name
    obtain ⟨t', g4, g5, g6⟩ := kt_some (h3 (m + 1)) g1
    refine ⟨by rw [kt_isT (h3 m)]; exact b2.main, ⟨t', by rw [Nat.add_assoc]; exact g4, by omega, by rw [g6, g3]⟩, by rw [Nat.add_assoc, kt_isT (h3 (m + 2))]; exact b2.semi, ?_⟩
    rcases b2.back with ⟨e1, e2⟩ | ⟨e1, ⟨t2, e2, e3, e4⟩, e5, e6⟩
    · exact Or.inl ⟨by omega, e2⟩
    · obtain ⟨t3, g7, g8, g9⟩ := kt_some (h3 (m + 4)) e2
      exact Or.inr ⟨by rw [Nat.add_assoc, kt_isT (h3 (m + 3))]; exact e1, ⟨t3, by rw [Nat.add_assoc]; exact g7, by omega, by rw [g9, e4]⟩, by rw [Nat.add_assoc, kt_isT (h3 (m + 5))]; exact e5, by omega⟩
end Gx
end Go.Proofs.YtahalimekacliaaGreatDoor
namespace Go.Proofs.YtahalimekacliaaGreatDoor
open Go.RowKit Go.Shelf Tx
theorem ndPart0 (u0 u1 u2 u3 u4 u5 : Value) (w : World) : (part 3 #[u0, u1, u2, u3, u4, u5] 0).run Tryz.prog w = .ok u0 w := by kernel_rfl
theorem ndPart1 (u0 u1 u2 u3 u4 u5 : Value) (w : World) : (part 3 #[u0, u1, u2, u3, u4, u5] 1).run Tryz.prog w = .ok u1 w := by kernel_rfl
theorem ndPart2 (u0 u1 u2 u3 u4 u5 : Value) (w : World) : (part 3 #[u0, u1, u2, u3, u4, u5] 2).run Tryz.prog w = .ok u2 w := by kernel_rfl
theorem ndPart3 (u0 u1 u2 u3 u4 u5 : Value) (w : World) : (part 3 #[u0, u1, u2, u3, u4, u5] 3).run Tryz.prog w = .ok u3 w := by kernel_rfl
theorem ndPart4 (u0 u1 u2 u3 u4 u5 : Value) (w : World) : (part 3 #[u0, u1, u2, u3, u4, u5] 4).run Tryz.prog w = .ok u4 w := by kernel_rfl
theorem ndPart5 (u0 u1 u2 u3 u4 u5 : Value) (w : World) : (part 9 #[u0, u1, u2, u3, u4, u5] 5).run Tryz.prog w = .ok u5 w := by kernel_rfl
theorem ndStood : Tryz.prog.stoodInHeld 86 = false := by kernel_rfl
set_option maxRecDepth 100000 in
theorem eqNd (x y : Nd) (w : World) : (Op.equalIn 10000 86 (ndV x) (ndV y)).run Tryz.prog w = .ok (decide (x = y)) w := by
  have hu := Tryz.underlying86
  have hf := fields_eq Tryz.underlying86
  have hi : ∀ (d : Nat) (p q : Int), (Op.equalIn (d + 1) 3 (.int .i64 p) (.int .i64 q)).run Tryz.prog w = .ok (p == q) w := fun d p q => run_equalIn_int w d _ _ _ p q Tryz.underlying3
  have hs : ∀ (d : Nat) (p q : ByteArray), (Op.equalIn (d + 1) 9 (.string p) (.string q)).run Tryz.prog w = .ok (decide (p = q)) w := fun d p q => by
    rw [run_equalIn_string w d _ p q Tryz.underlying9]
    congr 1
    rw [Bool.eq_iff_iff, beq_iff_eq, decide_eq_true_eq, Lib.toList_data, Lib.toList_data]
    exact ⟨bytes_ext, fun h => by rw [h]⟩
  obtain ⟨op, a, b, c, n, s⟩ := x
  obtain ⟨op', a', b', c', n', s'⟩ := y
  unfold ndV
  rw [run_equalIn_agg w 9999 _ _ _ (by rw [hf]; exact hu) ndStood, hf]
  simp only [Op.eqFields]
  have e : decide ((⟨op, a, b, c, n, s⟩ : Nd) = ⟨op', a', b', c', n', s'⟩) = ((op == op') && (a == a') && (b == b') && (c == c') && (n == n') && decide (s = s')) := by
    rw [Bool.eq_iff_iff]; simp [and_assoc]
  rw [e]
  cases h0 : (op == op') <;> cases h1 : (a == a') <;> cases h2 : (b == b') <;> cases h3 : (c == c') <;> cases h4 : (n == n') <;> cases h5 : decide (s = s') <;> simp [hi, hs, ndPart0, ndPart1, ndPart2, ndPart3, ndPart4, ndPart5, h0, h1, h2, h3, h4, h5, Result.andThen]
end Go.Proofs.YtahalimekacliaaGreatDoor
namespace Go.Proofs.YtahalimekacliaaGreatDoor
open Go.RowKit Go.Shelf Tx
theorem ret_bool' {a b : Bool} (h : a = b) : Ending.returned (.bool a) = .returned (.bool b) := by rw [h]
end Go.Proofs.YtahalimekacliaaGreatDoor
namespace Go.Proofs.YtahalimekacliaaGreatDoor
open Go.RowKit Go.Shelf Tx
set_option maxRecDepth 100000 in
set_option maxHeartbeats 4000000 in
theorem Same_any (e f : List Nd) (u v : Value) (w : World) (he : e.length ≤ 1000000000) (hf : f.length ≤ 1000000000) (hu : IsE w u e) (hv : IsE w v f) :
    Calls Tryz.prog 25 #[u, v] w fun r w' => r = .returned (.bool (decide (e = f))) ∧ ∃ k, w' = w.drewN k := by
  obtain ⟨a, c, rfl, hc, hx⟩ := hu.form
  obtain ⟨a2, c2, rfl, hc2, hx2⟩ := hv.form
  obtain ⟨n, hn⟩ : ∃ n, n = e.length := ⟨_, rfl⟩
  obtain ⟨m, hm⟩ : ∃ m, m = f.length := ⟨_, rfl⟩
  have HX := Lib.hid hx
  have HX2 := Lib.hid hx2
  rw [← hn] at he hc ⊢
  rw [← hm] at hf hc2 ⊢
  have HN := Lib.hid hn
  have HM := Lib.hid hm
  clear hu hv hx hx2 hn hm
  by_cases hl : n = m
  · subst hl
    have e0 : ((n : Int) != (n : Int)) = false := by simp
    go_enter Tryz.func25, Tryz.ntmps25
    go_wp2_with fail
    go_loopw [5] (fun i wr => ∃ t : Nat, i = .int .i64 t ∧ t ≤ n ∧ (∀ j, j < t → e[j]? = f[j]?) ∧ ∃ k, wr = w.drewN k) (fun i _ => n - (intOf i).toNat)
    case atStart => exact ⟨0, rfl, Nat.zero_le _, fun j h => by omega, 0, rfl⟩
    case round =>
      obtain ⟨t, rfl, ht, hok, k, hk⟩ := hrel
      by_cases hlt : t < n
      · obtain ⟨x, hx⟩ : ∃ x, e[t]? = some x := ⟨_, List.getElem?_eq_getElem (by have := HN.out; omega)⟩
        obtain ⟨y, hy⟩ : ∃ y, f[t]? = some y := ⟨_, List.getElem?_eq_getElem (by have := HM.out; omega)⟩
        have hbw : Below w.heap.size w wr := by rw [hk]; exact below_drawn (Below.refl _ _) k
        have hbd : Below w.heap.size w wr.drew := hbw.drew
        obtain ⟨b, o, rfl, hcell⟩ := HX.out _ hbd t x hx
        obtain ⟨c0, c1, c2, c3, c4, c5⟩ := nd_cells hcell
        obtain ⟨b2, o2, rfl, hcell2⟩ := HX2.out _ hbd t y hy
        obtain ⟨d0, d1, d2, d3, d4, d5⟩ := nd_cells hcell2
        obtain ⟨q, hq⟩ : ∃ q, q = decide (x = y) := ⟨_, rfl⟩
        have HEQ : ∀ W, (Op.equalIn 10000 86 (.agg #[.int .i64 x.op, .int .i64 x.a, .int .i64 x.b, .int .i64 x.c, .int .i64 x.n, .string x.s]) (.agg #[.int .i64 y.op, .int .i64 y.a, .int .i64 y.b, .int .i64 y.c, .int .i64 y.n, .string y.s])).run Tryz.prog W = .ok q W := fun W => by rw [hq]; exact eqNd x y W
        have HXX := Lib.hid hx
        have HYY := Lib.hid hy
        have HQ := Lib.hid hq
        have HOK := Lib.hid hok
        have HK := Lib.hid hk
        have htn : (t : Int) < (n : Int) := by omega
        have ht0 : (0 : Int) ≤ (t : Int) := by omega
        clear hx hy hq hok hk hcell hcell2 hbw hbd
        cases q
        · have HF : Hid (decide (e = f) = false) := by
            show _ = _
            rw [decide_eq_false_iff_not]
            intro h
            have h1 := HXX.out
            rw [h, HYY.out] at h1
            have h2 := HQ.out
            rw [Option.some.inj h1] at h2
            simp at h2
          go_wp2_with fail
          go_region
          all_goals
            go_wp2_with fail
            go_ret
            exact ⟨ret_bool' HF.out.symm, k + 1, by rw [HK.out]; rfl⟩
        · have HALL : Hid (∀ j, j < t + 1 → e[j]? = f[j]?) := fun j hj => by
            by_cases h : j = t
            · subst h
              rw [HXX.out, HYY.out]
              have := HQ.out
              rw [of_decide_eq_true this.symm]
            · exact HOK.out j (by omega)
          go_wp2_with fail
          go_region
          all_goals
            go_wp2_with fail
            go_roundw
            case rel => exact ⟨t + 1, by go_num, by omega, HALL.out, k + 1, by rw [HK.out]; rfl⟩
            case measure => simp [intOf]; omega
      · have hte : t = n := by omega
        subst hte
        have HF : Hid (decide (e = f) = true) := by
          show _ = _
          rw [decide_eq_true_iff]
          apply List.ext_getElem?
          intro j
          rcases Nat.lt_or_ge j t with h | h
          · exact hok j h
          · rw [List.getElem?_eq_none (by have := HN.out; omega), List.getElem?_eq_none (by have := HM.out; omega)]
        have HK := Lib.hid hk
        clear hok hk
        go_wp2_with fail
        go_ret
        exact ⟨ret_bool' HF.out.symm, k, HK.out⟩
  · have e0 : ((n : Int) != (m : Int)) = true := by rw [bne_iff_ne]; omega
    have HF : Hid (decide (e = f) = false) := by
      show _ = _
      rw [decide_eq_false_iff_not]
      intro h
      exact hl (by rw [HN.out, HM.out, h])
    clear hl
    go_enter Tryz.func25, Tryz.ntmps25
    go_wp2_with fail
    go_ret
    exact ⟨ret_bool' HF.out.symm, 0, rfl⟩
end Go.Proofs.YtahalimekacliaaGreatDoor
namespace Go.Proofs.YtahalimekacliaaGreatDoor
open Go.RowKit Go.Shelf Tx Gx
theorem keepsE (b : Nat) : Keeps (PE b) := keeps_of (PE.stays (by decide))
theorem keepsEq (b : Nat) : Keeps (PEq b) := keeps_of (PEq.stays (by decide))
set_option maxRecDepth 100000 in
set_option maxHeartbeats 4000000 in
theorem rParams_eq (b1 b2 : Nat) (l : List Pm) (u v : Value) (w : World) (hl : l.length ≤ 200) (hu : Sg 2 (PPm b1) w u l) (hv : Sg 2 (PPm b2) w v l) :
    Calls Tryz.prog 24 #[u, v] w fun r w' => r = .returned (.bool true) ∧ ∃ k, w' = w.drewN k := by
  obtain ⟨a, c, rfl, hc, hx⟩ := hu.form (keepsPm b1)
  obtain ⟨a2, c2, rfl, hc2, hx2⟩ := hv.form (keepsPm b2)
  obtain ⟨n, hn⟩ : ∃ n, n = l.length := ⟨_, rfl⟩
  have HX := Lib.hid hx
  have HX2 := Lib.hid hx2
  rw [← hn] at hl hc hc2 ⊢
  have HN := Lib.hid hn
  have e0 : ((n : Int) != (n : Int)) = false := by simp
  clear hu hv hx hx2 hn
  go_enter Tryz.func24, Tryz.ntmps24
  go_wp2_with fail
  go_loopw [5] (fun i wr => ∃ t : Nat, i = .int .i64 t ∧ t ≤ n ∧ ∃ k, wr = w.drewN k) (fun i _ => n - (intOf i).toNat)
  case atStart => exact ⟨0, rfl, Nat.zero_le _, 0, rfl⟩
  case round =>
    obtain ⟨t, rfl, ht, k, hk⟩ := hrel
    by_cases hlt : t < n
    · obtain ⟨x, hx⟩ : ∃ x, l[t]? = some x := ⟨_, List.getElem?_eq_getElem (by have := HN.out; omega)⟩
      have hbw : Below w.heap.size w wr := by rw [hk]; exact below_drawn (Below.refl _ _) k
      have hbd : Below w.heap.size w wr.drew := hbw.drew
      obtain ⟨b, o, cs, rfl, hcs, hcell⟩ := HX.out _ hbd t x hx
      obtain ⟨b', o', cs', rfl, hcs', hcell'⟩ := HX2.out _ hbd t x hx
      cases hcs
      cases hcs'
      have c0 := hcell 0 _ rfl
      have c1 := hcell 1 _ rfl
      have d0 := hcell' 0 _ rfl
      have d1 := hcell' 1 _ rfl
      simp only [Nat.add_zero] at c0 d0
      have HEQ := fun W => eqPm x.name x.ty W
      have htn : (t : Int) < (n : Int) := by omega
      have ht0 : (0 : Int) ≤ (t : Int) := by omega
      have HK := Lib.hid hk
      clear hx hk hcell hcell' hbw hbd
      go_wp2_with fail
      go_region
      all_goals
        go_wp2_with fail
        go_roundw
        case rel => exact ⟨t + 1, by go_num, by omega, k + 1, by rw [HK.out]; rfl⟩
        case measure => simp [intOf]; omega
    · have hte : t = n := by omega
      subst hte
      have HK := Lib.hid hk
      clear hk
      go_wp2_with fail
      go_ret
      exact ⟨rfl, k, HK.out⟩
set_option maxRecDepth 100000 in
set_option maxHeartbeats 4000000 in
theorem rExprs_eq (b1 b2 : Nat) (l : List (List Nd)) (u v : Value) (w : World) (hl : l.length ≤ 200) (hs : ∀ e ∈ l, e.length ≤ 5000) (hu : Sg 1 (PE b1) w u l) (hv : Sg 1 (PE b2) w v l) :
    Calls Tryz.prog 26 #[u, v] w fun r w' => r = .returned (.bool true) ∧ ∃ k, w' = w.drewN k := by
  obtain ⟨a, c, rfl, hc, hx⟩ := hu.form (keepsE b1)
  obtain ⟨a2, c2, rfl, hc2, hx2⟩ := hv.form (keepsE b2)
  obtain ⟨n, hn⟩ : ∃ n, n = l.length := ⟨_, rfl⟩
  have HX := Lib.hid hx
  have HX2 := Lib.hid hx2
  have HS := Lib.hid hs
  rw [← hn] at hl hc hc2 ⊢
  have HN := Lib.hid hn
  have e0 : ((n : Int) != (n : Int)) = false := by simp
  clear hu hv hx hx2 hn hs
  go_enter Tryz.func26, Tryz.ntmps26
  go_wp2_with fail
  go_loopw [5] (fun i wr => ∃ t : Nat, i = .int .i64 t ∧ t ≤ n ∧ ∃ k, wr = w.drewN k) (fun i _ => n - (intOf i).toNat)
  case atStart => exact ⟨0, rfl, Nat.zero_le _, 0, rfl⟩
  case round =>
    obtain ⟨t, rfl, ht, k, hk⟩ := hrel
    by_cases hlt : t < n
    · obtain ⟨x, hx⟩ : ∃ x, l[t]? = some x := ⟨_, List.getElem?_eq_getElem (by have := HN.out; omega)⟩
      have hxs := HS.out x (List.mem_of_getElem? hx)
      have hbw : Below w.heap.size w wr := by rw [hk]; exact below_drawn (Below.refl _ _) k
      obtain ⟨b, o, cs, rfl, ⟨ve, rfl, hve⟩, hcell⟩ := HX.out _ hbw t x hx
      obtain ⟨b', o', cs', rfl, ⟨vf, rfl, hvf⟩, hcell'⟩ := HX2.out _ hbw t x hx
      obtain ⟨ea, ec, rfl, -⟩ := hve.form
      obtain ⟨fa, fc, rfl, -⟩ := hvf.form
      have c0 := hcell 0 _ rfl
      have d0 := hcell' 0 _ rfl
      simp only [Nat.add_zero, Nat.mul_one] at c0 d0
      have hsame := Same_any x x _ _ wr.drew (by omega) (by omega) (Sl.below hve.isE (Below.refl _ _).drew) (Sl.below hvf.isE (Below.refl _ _).drew)
      rw [decide_eq_true rfl] at hsame
      have htn : (t : Int) < (n : Int) := by omega
      have ht0 : (0 : Int) ≤ (t : Int) := by omega
      have HK := Lib.hid hk
      generalize x.length = xn at *
      have K0 : wr.cell? ⟨b, o + t, none⟩ = some (.slice ea xn ec) ∧ wr.cell? ⟨b', o' + t, none⟩ = some (.slice fa xn fc) := ⟨c0, d0⟩
      have K1 : wr.drew.cell? ⟨b, o + t, none⟩ = some (.slice ea xn ec) ∧ wr.drew.cell? ⟨b', o' + t, none⟩ = some (.slice fa xn fc) := ⟨c0, d0⟩
      have K2 : ∀ q, (wr.drewN q).cell? ⟨b, o + t, none⟩ = some (.slice ea xn ec) ∧ (wr.drewN q).cell? ⟨b', o' + t, none⟩ = some (.slice fa xn fc) := fun q => ⟨c0, d0⟩
      clear hx hk hcell hcell' hbw hve hvf c0 d0
      go_wp2_with fail
      go_region_held3 (fun w' => w'.cell? ⟨b, o + t, none⟩ = some (.slice ea xn ec) ∧ w'.cell? ⟨b', o' + t, none⟩ = some (.slice fa xn fc))
        (with_reducible first | exact K2 _ | exact K1 | exact K0)
        ((go_at_call 25; refine hsame.mono ?_; rintro r w4 ⟨rfl, kk, rfl⟩))
      go_wp2_with fail
      go_roundw
      case rel => exact ⟨t + 1, by go_num, by omega, _, by rw [HK.out, World.drewN_drewN]⟩
      case measure => simp [intOf]; omega
    · have hte : t = n := by omega
      subst hte
      have HK := Lib.hid hk
      clear hk
      go_wp2_with fail
      go_ret
      exact ⟨rfl, k, HK.out⟩
end Go.Proofs.YtahalimekacliaaGreatDoor
namespace Go.Proofs.YtahalimekacliaaGreatDoor
open Go.RowKit Go.Shelf Tx Gx
set_option maxRecDepth 100000 in
set_option maxHeartbeats 16000000 in
theorem rSameUnit_eq (b1 b2 : Nat) (x : Un) (hfew : UnFew x) (cs cs' : List Value) (w : World) (h1 : PUn b1 w cs x) (h2 : PUn b2 w cs' x) :
    Calls Tryz.prog 13 #[.agg cs.toArray, .agg cs'.toArray] w fun r w' => r = .returned (.bool true) ∧ Below w.heap.size w w' := by
  obtain ⟨vi, vv, vq, vx, rfl, hi1, hv1, hq1, hx1⟩ := h1
  obtain ⟨vi', vv', vq', vx', rfl, hi2, hv2, hq2, hx2⟩ := h2
  obtain ⟨ia, ic, rfl, -⟩ := hi1.form
  obtain ⟨ia2, ic2, rfl, -⟩ := hi2.form
  obtain ⟨va, vc, rfl, -⟩ := hv1.form
  obtain ⟨va2, vc2, rfl, -⟩ := hv2.form
  obtain ⟨qa, qc, rfl, -⟩ := hq1.form
  obtain ⟨qa2, qc2, rfl, -⟩ := hq2.form
  obtain ⟨xa, xc, rfl, -⟩ := hx1.form
  obtain ⟨xa2, xc2, rfl, -⟩ := hx2.form
  obtain ⟨cn, n, ins, ⟨on, ot⟩, vars, eqs, items⟩ := x
  simp only at hi1 hi2 hv1 hv2 hq1 hq2 hx1 hx2 ⊢
  have HFW := Lib.hid hfew
  have SI1 := Lib.hid hi1.sg
  have SI2 := Lib.hid hi2.sg
  have SV1 := Lib.hid hv1.sg
  have SV2 := Lib.hid hv2.sg
  have SQ1 := Lib.hid hq1.sg
  have SQ2 := Lib.hid hq2.sg
  have SX1 := Lib.hid hx1.sg
  have SX2 := Lib.hid hx2.sg
  clear hi1 hi2 hv1 hv2 hq1 hq2 hx1 hx2 hfew
  obtain ⟨il, h_il⟩ : ∃ k, k = ins.length := ⟨_, rfl⟩
  rw [← h_il] at SI1 SI2 ⊢
  have HIL := Lib.hid h_il
  obtain ⟨vl, h_vl⟩ : ∃ k, k = vars.length := ⟨_, rfl⟩
  rw [← h_vl] at SV1 SV2 ⊢
  have HVL := Lib.hid h_vl
  obtain ⟨ql, h_ql⟩ : ∃ k, k = eqs.length := ⟨_, rfl⟩
  rw [← h_ql] at SQ1 SQ2 ⊢
  have HQL := Lib.hid h_ql
  obtain ⟨xl, h_xl⟩ : ∃ k, k = items.length := ⟨_, rfl⟩
  rw [← h_xl] at SX1 SX2 ⊢
  have HXL := Lib.hid h_xl
  have hqb : ql ≤ 200 := by rw [h_ql]; exact HFW.out.q
  have hxb : xl ≤ 200 := by rw [h_xl]; exact HFW.out.x
  clear h_il h_vl h_ql h_xl
  obtain ⟨W0, hW0⟩ : ∃ W, W = (w.alloc (.cells #[.bool cn, .string n, .slice ia il ic, .string on, .int .i64 ot, .slice va vl vc, .slice qa ql qc, .slice xa xl xc] 43)).alloc (.cells #[.bool cn, .string n, .slice ia2 il ic2, .string on, .int .i64 ot, .slice va2 vl vc2, .slice qa2 ql qc2, .slice xa2 xl xc2] 43) := ⟨_, rfl⟩
  have b0 : Below w.heap.size w W0 := by rw [hW0]; exact ((Below.refl _ _).alloc (Nat.le_refl _) _).alloc (by simp) _
  have K1 : Blk W0 w.heap.size #[.bool cn, .string n, .slice ia il ic, .string on, .int .i64 ot, .slice va vl vc, .slice qa ql qc, .slice xa xl xc] 43 := by rw [hW0]; exact (Blk.new w _ _).below ((Below.refl _ _).alloc (Nat.le_refl _) _)
  have K2 : Blk W0 (w.heap.size + 1) #[.bool cn, .string n, .slice ia2 il ic2, .string on, .int .i64 ot, .slice va2 vl vc2, .slice qa2 ql qc2, .slice xa2 xl xc2] 43 := by rw [hW0]; have h := Blk.new (w.alloc (.cells #[.bool cn, .string n, .slice ia il ic, .string on, .int .i64 ot, .slice va vl vc, .slice qa ql qc, .slice xa xl xc] 43)) #[.bool cn, .string n, .slice ia2 il ic2, .string on, .int .i64 ot, .slice va2 vl vc2, .slice qa2 ql qc2, .slice xa2 xl xc2] 43; simpa using h
  have HW0 := Lib.hid hW0
  have HB0 := Lib.hid b0
  have HK1 := Lib.hid K1
  have HK2 := Lib.hid K2
  have hbb : (cn != cn) = false := by simp
  have hbe : (cn == cn) = true := by simp
  have hnn : (n.toList == n.toList) = true := by simp
  have hqq : ((ql : Int) != (ql : Int)) = false := by simp
  have hxx : ((xl : Int) != (xl : Int)) = false := by simp
  have HEQ := fun W => eqPm on ot W
  obtain ⟨x1, hx1⟩ : ∃ b, b = w.heap.size := ⟨_, rfl⟩
  obtain ⟨x2, hx2⟩ : ∃ b, b = w.heap.size + 1 := ⟨_, rfl⟩
  rw [← hx1] at HK1
  rw [← hx2] at HK2
  have HX1 := Lib.hid hx1
  have HX2 := Lib.hid hx2
  have hp1 := rParams_eq b1 b2 ins _ _ W0 HFW.out.i (by exact SI1.out.below (keepsPm b1) b0) (by exact SI2.out.below (keepsPm b2) b0)
  have k0 : W0.cell? ⟨x1, 0, none⟩ = some (.bool cn) := Blk.c HK1.out rfl
  have k1 : W0.cell? ⟨x1, 1, none⟩ = some (.string n) := Blk.c HK1.out rfl
  have k2 : W0.cell? ⟨x1, 2, none⟩ = some (.slice ia il ic) := Blk.c HK1.out rfl
  have k3 : W0.cell? ⟨x1, 3, none⟩ = some (.string on) := Blk.c HK1.out rfl
  have k4 : W0.cell? ⟨x1, 4, none⟩ = some (.int .i64 ot) := Blk.c HK1.out rfl
  have k5 : W0.cell? ⟨x1, 5, none⟩ = some (.slice va vl vc) := Blk.c HK1.out rfl
  have k6 : W0.cell? ⟨x1, 6, none⟩ = some (.slice qa ql qc) := Blk.c HK1.out rfl
  have k7 : W0.cell? ⟨x1, 7, none⟩ = some (.slice xa xl xc) := Blk.c HK1.out rfl
  have m0 : W0.cell? ⟨x2, 0, none⟩ = some (.bool cn) := Blk.c HK2.out rfl
  have m1 : W0.cell? ⟨x2, 1, none⟩ = some (.string n) := Blk.c HK2.out rfl
  have m2 : W0.cell? ⟨x2, 2, none⟩ = some (.slice ia2 il ic2) := Blk.c HK2.out rfl
  have m3 : W0.cell? ⟨x2, 3, none⟩ = some (.string on) := Blk.c HK2.out rfl
  have m4 : W0.cell? ⟨x2, 4, none⟩ = some (.int .i64 ot) := Blk.c HK2.out rfl
  have m5 : W0.cell? ⟨x2, 5, none⟩ = some (.slice va2 vl vc2) := Blk.c HK2.out rfl
  have m6 : W0.cell? ⟨x2, 6, none⟩ = some (.slice qa2 ql qc2) := Blk.c HK2.out rfl
  have m7 : W0.cell? ⟨x2, 7, none⟩ = some (.slice xa2 xl xc2) := Blk.c HK2.out rfl
  clear hW0 b0 K1 K2 hx1 hx2
  go_enter Tryz.func13, Tryz.ntmps13
  go_upto_region 1 with fail
  rw [← HW0.out, ← HX2.out, ← HX1.out]
  go_wp2_with fail
  refine hp1.mono ?_
  rintro r w1 ⟨rfl, q1, hq1⟩
  have B1 : Hid (Below w.heap.size w w1) := by show Below _ _ _; rw [hq1]; exact below_drawn HB0.out _
  have b01 : Below W0.heap.size W0 w1 := by rw [hq1]; exact below_drawn (Below.refl _ _) _
  have HK1 := Lib.hid (HK1.out.below b01)
  have HK2 := Lib.hid (HK2.out.below b01)
  have hp2 := rParams_eq b1 b2 vars _ _ w1 HFW.out.v (SV1.out.below (keepsPm b1) B1.out) (SV2.out.below (keepsPm b2) B1.out)
  clear hp1 hq1 b01 k0 m0 k1 m1 k2 m2 k3 m3 k4 m4 k5 m5 k6 m6 k7 m7
  have k0 : w1.cell? ⟨x1, 0, none⟩ = some (.bool cn) := Blk.c HK1.out rfl
  have k1 : w1.cell? ⟨x1, 1, none⟩ = some (.string n) := Blk.c HK1.out rfl
  have k2 : w1.cell? ⟨x1, 2, none⟩ = some (.slice ia il ic) := Blk.c HK1.out rfl
  have k3 : w1.cell? ⟨x1, 3, none⟩ = some (.string on) := Blk.c HK1.out rfl
  have k4 : w1.cell? ⟨x1, 4, none⟩ = some (.int .i64 ot) := Blk.c HK1.out rfl
  have k5 : w1.cell? ⟨x1, 5, none⟩ = some (.slice va vl vc) := Blk.c HK1.out rfl
  have k6 : w1.cell? ⟨x1, 6, none⟩ = some (.slice qa ql qc) := Blk.c HK1.out rfl
  have k7 : w1.cell? ⟨x1, 7, none⟩ = some (.slice xa xl xc) := Blk.c HK1.out rfl
  have m0 : w1.cell? ⟨x2, 0, none⟩ = some (.bool cn) := Blk.c HK2.out rfl
  have m1 : w1.cell? ⟨x2, 1, none⟩ = some (.string n) := Blk.c HK2.out rfl
  have m2 : w1.cell? ⟨x2, 2, none⟩ = some (.slice ia2 il ic2) := Blk.c HK2.out rfl
  have m3 : w1.cell? ⟨x2, 3, none⟩ = some (.string on) := Blk.c HK2.out rfl
  have m4 : w1.cell? ⟨x2, 4, none⟩ = some (.int .i64 ot) := Blk.c HK2.out rfl
  have m5 : w1.cell? ⟨x2, 5, none⟩ = some (.slice va2 vl vc2) := Blk.c HK2.out rfl
  have m6 : w1.cell? ⟨x2, 6, none⟩ = some (.slice qa2 ql qc2) := Blk.c HK2.out rfl
  have m7 : w1.cell? ⟨x2, 7, none⟩ = some (.slice xa2 xl xc2) := Blk.c HK2.out rfl
  go_wp2_with fail
  refine hp2.mono ?_
  rintro r w2 ⟨rfl, q2, hq2⟩
  have B2 : Hid (Below w.heap.size w w2) := by show Below _ _ _; rw [hq2]; exact below_drawn B1.out _
  have b12 : Below w1.heap.size w1 w2 := by rw [hq2]; exact below_drawn (Below.refl _ _) _
  have HK1 := Lib.hid (HK1.out.below b12)
  have HK2 := Lib.hid (HK2.out.below b12)
  clear hp2 hq2 b12 k0 m0 k1 m1 k2 m2 k3 m3 k4 m4 k5 m5 k6 m6 k7 m7
  have k0 : w2.cell? ⟨x1, 0, none⟩ = some (.bool cn) := Blk.c HK1.out rfl
  have k1 : w2.cell? ⟨x1, 1, none⟩ = some (.string n) := Blk.c HK1.out rfl
  have k2 : w2.cell? ⟨x1, 2, none⟩ = some (.slice ia il ic) := Blk.c HK1.out rfl
  have k3 : w2.cell? ⟨x1, 3, none⟩ = some (.string on) := Blk.c HK1.out rfl
  have k4 : w2.cell? ⟨x1, 4, none⟩ = some (.int .i64 ot) := Blk.c HK1.out rfl
  have k5 : w2.cell? ⟨x1, 5, none⟩ = some (.slice va vl vc) := Blk.c HK1.out rfl
  have k6 : w2.cell? ⟨x1, 6, none⟩ = some (.slice qa ql qc) := Blk.c HK1.out rfl
  have k7 : w2.cell? ⟨x1, 7, none⟩ = some (.slice xa xl xc) := Blk.c HK1.out rfl
  have m0 : w2.cell? ⟨x2, 0, none⟩ = some (.bool cn) := Blk.c HK2.out rfl
  have m1 : w2.cell? ⟨x2, 1, none⟩ = some (.string n) := Blk.c HK2.out rfl
  have m2 : w2.cell? ⟨x2, 2, none⟩ = some (.slice ia2 il ic2) := Blk.c HK2.out rfl
  have m3 : w2.cell? ⟨x2, 3, none⟩ = some (.string on) := Blk.c HK2.out rfl
  have m4 : w2.cell? ⟨x2, 4, none⟩ = some (.int .i64 ot) := Blk.c HK2.out rfl
  have m5 : w2.cell? ⟨x2, 5, none⟩ = some (.slice va2 vl vc2) := Blk.c HK2.out rfl
  have m6 : w2.cell? ⟨x2, 6, none⟩ = some (.slice qa2 ql qc2) := Blk.c HK2.out rfl
  have m7 : w2.cell? ⟨x2, 7, none⟩ = some (.slice xa2 xl xc2) := Blk.c HK2.out rfl
  go_wp2_with fail
  go_loopw [5] (fun i wr => ∃ t : Nat, i = .int .i64 t ∧ t ≤ ql ∧ ∃ k, wr = w2.drewN k) (fun i _ => ql - (intOf i).toNat)
  case atStart => exact ⟨0, rfl, Nat.zero_le _, 0, rfl⟩
  case round =>
    obtain ⟨t, rfl, ht, k, hk⟩ := hrel
    have bw : Below w2.heap.size w2 wr := by rw [hk]; exact below_drawn (Below.refl _ _) k
    have HK1 := Lib.hid (HK1.out.below bw)
    have HK2 := Lib.hid (HK2.out.below bw)
    have HBR : Hid (Below w.heap.size w wr) := below_next B2.out bw
    have HK := Lib.hid hk
    clear bw hk k0 m0 k1 m1 k2 m2 k3 m3 k4 m4 k5 m5 k6 m6 k7 m7
    have k0 : wr.cell? ⟨x1, 0, none⟩ = some (.bool cn) := Blk.c HK1.out rfl
    have k1 : wr.cell? ⟨x1, 1, none⟩ = some (.string n) := Blk.c HK1.out rfl
    have k2 : wr.cell? ⟨x1, 2, none⟩ = some (.slice ia il ic) := Blk.c HK1.out rfl
    have k3 : wr.cell? ⟨x1, 3, none⟩ = some (.string on) := Blk.c HK1.out rfl
    have k4 : wr.cell? ⟨x1, 4, none⟩ = some (.int .i64 ot) := Blk.c HK1.out rfl
    have k5 : wr.cell? ⟨x1, 5, none⟩ = some (.slice va vl vc) := Blk.c HK1.out rfl
    have k6 : wr.cell? ⟨x1, 6, none⟩ = some (.slice qa ql qc) := Blk.c HK1.out rfl
    have k7 : wr.cell? ⟨x1, 7, none⟩ = some (.slice xa xl xc) := Blk.c HK1.out rfl
    have m0 : wr.cell? ⟨x2, 0, none⟩ = some (.bool cn) := Blk.c HK2.out rfl
    have m1 : wr.cell? ⟨x2, 1, none⟩ = some (.string n) := Blk.c HK2.out rfl
    have m2 : wr.cell? ⟨x2, 2, none⟩ = some (.slice ia2 il ic2) := Blk.c HK2.out rfl
    have m3 : wr.cell? ⟨x2, 3, none⟩ = some (.string on) := Blk.c HK2.out rfl
    have m4 : wr.cell? ⟨x2, 4, none⟩ = some (.int .i64 ot) := Blk.c HK2.out rfl
    have m5 : wr.cell? ⟨x2, 5, none⟩ = some (.slice va2 vl vc2) := Blk.c HK2.out rfl
    have m6 : wr.cell? ⟨x2, 6, none⟩ = some (.slice qa2 ql qc2) := Blk.c HK2.out rfl
    have m7 : wr.cell? ⟨x2, 7, none⟩ = some (.slice xa2 xl xc2) := Blk.c HK2.out rfl
    by_cases hlt : t < ql
    · obtain ⟨x, hx⟩ : ∃ x, eqs[t]? = some x := ⟨_, List.getElem?_eq_getElem (by have := HQL.out; omega)⟩
      have hxs := HFW.out.qe x (List.mem_of_getElem? hx)
      obtain ⟨a_, c_, e_, -, hx1⟩ := SQ1.out.form (keepsEq b1)
      rw [← HQL.out] at e_
      cases e_
      obtain ⟨a_, c_, e_, -, hx2⟩ := SQ2.out.form (keepsEq b2)
      rw [← HQL.out] at e_
      cases e_
      obtain ⟨b, o, cs, rfl, ⟨ve, rfl, hve⟩, hcell⟩ := hx1 wr HBR.out t x hx
      obtain ⟨b', o', cs', rfl, ⟨vf, rfl, hvf⟩, hcell'⟩ := hx2 wr HBR.out t x hx
      obtain ⟨ea, ec, rfl, -⟩ := hve.form
      obtain ⟨fa, fc, rfl, -⟩ := hvf.form
      have c0 := hcell 0 _ rfl
      have c1 := hcell 1 _ rfl
      have d0 := hcell' 0 _ rfl
      have d1 := hcell' 1 _ rfl
      simp only [Nat.add_zero] at c0 d0
      have hsame := Same_any x.e x.e _ _ wr.drew (by omega) (by omega) (Sl.below hve.isE (Below.refl _ _).drew) (Sl.below hvf.isE (Below.refl _ _).drew)
      rw [decide_eq_true rfl] at hsame
      have htn2 : (t : Int) < (ql : Int) := by omega
      have ht0 : (0 : Int) ≤ (t : Int) := by omega
      have hee : (x.name.toList == x.name.toList) = true := by simp
      generalize x.e.length = xn at *
      generalize x.name = nm at *
      have KK0 : wr.cell? ⟨x1, 6, none⟩ = some (.slice (some ⟨b, o, none⟩) ql qc) ∧ wr.cell? ⟨x2, 6, none⟩ = some (.slice (some ⟨b', o', none⟩) ql qc2) ∧ wr.cell? ⟨b, o + t * 2, none⟩ = some (.string nm) ∧ wr.cell? ⟨b, o + t * 2 + 1, none⟩ = some (.slice ea xn ec) ∧ wr.cell? ⟨b', o' + t * 2, none⟩ = some (.string nm) ∧ wr.cell? ⟨b', o' + t * 2 + 1, none⟩ = some (.slice fa xn fc) := ⟨k6, m6, c0, c1, d0, d1⟩
      have KK1 : wr.drew.cell? ⟨x1, 6, none⟩ = some (.slice (some ⟨b, o, none⟩) ql qc) ∧ wr.drew.cell? ⟨x2, 6, none⟩ = some (.slice (some ⟨b', o', none⟩) ql qc2) ∧ wr.drew.cell? ⟨b, o + t * 2, none⟩ = some (.string nm) ∧ wr.drew.cell? ⟨b, o + t * 2 + 1, none⟩ = some (.slice ea xn ec) ∧ wr.drew.cell? ⟨b', o' + t * 2, none⟩ = some (.string nm) ∧ wr.drew.cell? ⟨b', o' + t * 2 + 1, none⟩ = some (.slice fa xn fc) := ⟨k6, m6, c0, c1, d0, d1⟩
      have KK2 : ∀ q, (wr.drewN q).cell? ⟨x1, 6, none⟩ = some (.slice (some ⟨b, o, none⟩) ql qc) ∧ (wr.drewN q).cell? ⟨x2, 6, none⟩ = some (.slice (some ⟨b', o', none⟩) ql qc2) ∧ (wr.drewN q).cell? ⟨b, o + t * 2, none⟩ = some (.string nm) ∧ (wr.drewN q).cell? ⟨b, o + t * 2 + 1, none⟩ = some (.slice ea xn ec) ∧ (wr.drewN q).cell? ⟨b', o' + t * 2, none⟩ = some (.string nm) ∧ (wr.drewN q).cell? ⟨b', o' + t * 2 + 1, none⟩ = some (.slice fa xn fc) := fun q => ⟨k6, m6, c0, c1, d0, d1⟩
      clear hx hcell hcell' hve hvf hx1 hx2 hxs
      go_wp2_with fail
      go_region_held3 (fun w' => w'.cell? ⟨x1, 6, none⟩ = some (.slice (some ⟨b, o, none⟩) ql qc) ∧ w'.cell? ⟨x2, 6, none⟩ = some (.slice (some ⟨b', o', none⟩) ql qc2) ∧ w'.cell? ⟨b, o + t * 2, none⟩ = some (.string nm) ∧ w'.cell? ⟨b, o + t * 2 + 1, none⟩ = some (.slice ea xn ec) ∧ w'.cell? ⟨b', o' + t * 2, none⟩ = some (.string nm) ∧ w'.cell? ⟨b', o' + t * 2 + 1, none⟩ = some (.slice fa xn fc))
        (with_reducible first | exact KK2 _ | exact KK1 | exact KK0)
        ((go_at_call 25; refine hsame.mono ?_; rintro r w4 ⟨rfl, kk, rfl⟩))
      go_wp2_with fail
      go_roundw
      case rel => exact ⟨t + 1, by go_num, by omega, _, by rw [HK.out, World.drewN_drewN]⟩
      case measure => simp [intOf]; omega
    · have hte : t = ql := by omega
      subst hte
      go_wp2_with fail
      obtain ⟨w3, rfl⟩ : ∃ W : World, W = wr := ⟨_, rfl⟩
      clear k0 m0 k1 m1 k2 m2 k3 m3 k4 m4 k5 m5 k6 m6 k7 m7
      go_loopw [6] (fun i wr2 => ∃ u : Nat, i = .int .i64 u ∧ u ≤ xl ∧ Below w3.heap.size w3 wr2) (fun i _ => xl - (intOf i).toNat)
      case atStart => exact ⟨0, rfl, Nat.zero_le _, Below.refl _ _⟩
      case round =>
        obtain ⟨u, rfl, hu, bw⟩ := hrel
        have HK1 := Lib.hid (HK1.out.below bw)
        have HK2 := Lib.hid (HK2.out.below bw)
        have HBW : Hid (Below w.heap.size w wr) := below_next HBR.out bw
        have HBU := Lib.hid bw
        clear bw
        have k0 : wr.cell? ⟨x1, 0, none⟩ = some (.bool cn) := Blk.c HK1.out rfl
        have k1 : wr.cell? ⟨x1, 1, none⟩ = some (.string n) := Blk.c HK1.out rfl
        have k2 : wr.cell? ⟨x1, 2, none⟩ = some (.slice ia il ic) := Blk.c HK1.out rfl
        have k3 : wr.cell? ⟨x1, 3, none⟩ = some (.string on) := Blk.c HK1.out rfl
        have k4 : wr.cell? ⟨x1, 4, none⟩ = some (.int .i64 ot) := Blk.c HK1.out rfl
        have k5 : wr.cell? ⟨x1, 5, none⟩ = some (.slice va vl vc) := Blk.c HK1.out rfl
        have k6 : wr.cell? ⟨x1, 6, none⟩ = some (.slice qa t qc) := Blk.c HK1.out rfl
        have k7 : wr.cell? ⟨x1, 7, none⟩ = some (.slice xa xl xc) := Blk.c HK1.out rfl
        have m0 : wr.cell? ⟨x2, 0, none⟩ = some (.bool cn) := Blk.c HK2.out rfl
        have m1 : wr.cell? ⟨x2, 1, none⟩ = some (.string n) := Blk.c HK2.out rfl
        have m2 : wr.cell? ⟨x2, 2, none⟩ = some (.slice ia2 il ic2) := Blk.c HK2.out rfl
        have m3 : wr.cell? ⟨x2, 3, none⟩ = some (.string on) := Blk.c HK2.out rfl
        have m4 : wr.cell? ⟨x2, 4, none⟩ = some (.int .i64 ot) := Blk.c HK2.out rfl
        have m5 : wr.cell? ⟨x2, 5, none⟩ = some (.slice va2 vl vc2) := Blk.c HK2.out rfl
        have m6 : wr.cell? ⟨x2, 6, none⟩ = some (.slice qa2 t qc2) := Blk.c HK2.out rfl
        have m7 : wr.cell? ⟨x2, 7, none⟩ = some (.slice xa2 xl xc2) := Blk.c HK2.out rfl
        by_cases hlu : u < xl
        · obtain ⟨y, hy⟩ : ∃ y, items[u]? = some y := ⟨_, List.getElem?_eq_getElem (by have := HXL.out; omega)⟩
          have hys := HFW.out.xe y (List.mem_of_getElem? hy)
          obtain ⟨a_, c_, e_, -, hx1⟩ := SX1.out.form (keepsIm b1)
          rw [← HXL.out] at e_
          cases e_
          obtain ⟨a_, c_, e_, -, hx2⟩ := SX2.out.form (keepsIm b2)
          rw [← HXL.out] at e_
          cases e_
          obtain ⟨b, o, cs, rfl, ⟨ve, vf, vg, rfl, hve, hvf, hvg⟩, hcell⟩ := hx1 wr HBW.out u y hy
          obtain ⟨b', o', cs', rfl, ⟨ve', vf', vg', rfl, hve', hvf', hvg'⟩, hcell'⟩ := hx2 wr HBW.out u y hy
          obtain ⟨ea, ec, rfl, -⟩ := hve.form
          obtain ⟨fa, fc, rfl, -⟩ := hvf.form
          obtain ⟨ga, gc, rfl, -⟩ := hvg.form
          obtain ⟨ea2, ec2, rfl, -⟩ := hve'.form
          obtain ⟨fa2, fc2, rfl, -⟩ := hvf'.form
          obtain ⟨ga2, gc2, rfl, -⟩ := hvg'.form
          have c0 := hcell 0 _ rfl
          have d0 := hcell' 0 _ rfl
          have c1 := hcell 1 _ rfl
          have d1 := hcell' 1 _ rfl
          have c2 := hcell 2 _ rfl
          have d2 := hcell' 2 _ rfl
          have c3 := hcell 3 _ rfl
          have d3 := hcell' 3 _ rfl
          have c4 := hcell 4 _ rfl
          have d4 := hcell' 4 _ rfl
          have c5 := hcell 5 _ rfl
          have d5 := hcell' 5 _ rfl
          simp only [Nat.add_zero] at c0 d0
          have HYS := Lib.hid hys
          have HE1 := Lib.hid hve
          have HE2 := Lib.hid hve'
          have HF1 := Lib.hid hvf
          have HF2 := Lib.hid hvf'
          have HG1 := Lib.hid hvg.sg
          have HG2 := Lib.hid hvg'.sg
          have hun : (u : Int) < (xl : Int) := by omega
          have hu0 : (0 : Int) ≤ (u : Int) := by omega
          have htt : (y.name.toList == y.name.toList) = true := by simp
          have hkk : (y.kind != y.kind) = false := by simp
          have hyy : (y.ty != y.ty) = false := by simp
          clear hy hcell hcell' hve hvf hvg hve' hvf' hvg' hx1 hx2 hys
          obtain ⟨W1, hW1⟩ : ∃ W, W = wr.alloc (.cells #[.int .i64 y.kind, .string y.name, .int .i64 y.ty, .slice ea y.e.length ec, .slice fa y.f.length fc, .slice ga y.args.length gc] 54) := ⟨_, rfl⟩
          obtain ⟨W2, hW2⟩ : ∃ W, W = W1.alloc (.cells #[.int .i64 y.kind, .string y.name, .int .i64 y.ty, .slice ea2 y.e.length ec2, .slice fa2 y.f.length fc2, .slice ga2 y.args.length gc2] 54) := ⟨_, rfl⟩
          have b1_ : Below wr.heap.size wr W1 := by rw [hW1]; exact (Below.refl _ _).alloc (Nat.le_refl _) _
          have b2_ : Below W1.heap.size W1 W2 := by rw [hW2]; exact (Below.refl _ _).alloc (Nat.le_refl _) _
          have Y1 : Hid (Blk W2 wr.heap.size #[.int .i64 y.kind, .string y.name, .int .i64 y.ty, .slice ea y.e.length ec, .slice fa y.f.length fc, .slice ga y.args.length gc] 54) := by show Blk _ _ _ _; exact (show Blk W1 wr.heap.size _ _ by rw [hW1]; exact Blk.new wr _ _).below b2_
          have Y2 : Hid (Blk W2 W1.heap.size #[.int .i64 y.kind, .string y.name, .int .i64 y.ty, .slice ea2 y.e.length ec2, .slice fa2 y.f.length fc2, .slice ga2 y.args.length gc2] 54) := by show Blk _ _ _ _; rw [hW2]; exact Blk.new W1 _ _
          have b12 : Hid (Below wr.heap.size wr W2) := below_next b1_ b2_
          have HW1 := Lib.hid hW1
          have HW2 := Lib.hid hW2
          have HX27 : ∀ j v, wr.cell? ⟨x2, j, none⟩ = some v → W1.cell? ⟨x2, j, none⟩ = some v := fun j v h => (b1_.cell (World.block_lt_of_cell? wr _ h)).trans h
          have HXD : ∀ j v, wr.cell? ⟨b', j, none⟩ = some v → W1.cell? ⟨b', j, none⟩ = some v := fun j v h => (b1_.cell (World.block_lt_of_cell? wr _ h)).trans h
          have m7 := HX27 _ _ m7
          have d0 := HXD _ _ d0
          have d1 := HXD _ _ d1
          have d2 := HXD _ _ d2
          have d3 := HXD _ _ d3
          have d4 := HXD _ _ d4
          have d5 := HXD _ _ d5
          have hs1 := Same_any y.e y.e _ _ W2 (by have := HYS.out.e; omega) (by have := HYS.out.e; omega) (Sl.below HE1.out.isE b12.out) (Sl.below HE2.out.isE b12.out)
          rw [decide_eq_true rfl] at hs1
          have HS2 : Hid (∀ W, Below W2.heap.size W2 W → Calls Tryz.prog 25 #[.slice fa y.f.length fc, .slice fa2 y.f.length fc2] W fun r w' => r = .returned (.bool true) ∧ ∃ k, w' = W.drewN k) := fun W hW => by
            have h := Same_any y.f y.f _ _ W (by have := HYS.out.f; omega) (by have := HYS.out.f; omega) (Sl.below HF1.out.isE (below_next b12.out hW)) (Sl.below HF2.out.isE (below_next b12.out hW))
            rw [decide_eq_true rfl] at h
            exact h
          have HS3 : Hid (∀ W, Below W2.heap.size W2 W → Calls Tryz.prog 26 #[.slice ga y.args.length gc, .slice ga2 y.args.length gc2] W fun r w' => r = .returned (.bool true) ∧ ∃ k, w' = W.drewN k) := fun W hW =>
            rExprs_eq b1 b2 y.args _ _ W HYS.out.n HYS.out.a (HG1.out.below (keepsE b1) (below_next b12.out hW)) (HG2.out.below (keepsE b2) (below_next b12.out hW))
          clear hW1 hW2 b1_ b2_ HX27 HXD
          generalize y.e.length = el at *
          generalize y.f.length = fl at *
          generalize y.args.length = gl at *
          generalize y.kind = kd at *
          generalize y.name = nm at *
          generalize y.ty = ty at *
          go_upto_region 12 with fail
          rw [← HW1.out]
          go_upto_region 13 with fail
          rw [← HW2.out]
          obtain ⟨y1, hy1⟩ : ∃ b, b = wr.heap.size := ⟨_, rfl⟩
          obtain ⟨y2, hy2⟩ : ∃ b, b = W1.heap.size := ⟨_, rfl⟩
          rw [← hy1] at Y1 ⊢
          rw [← hy2] at Y2 ⊢
          clear hy1 hy2
          clear k0 m0 k1 m1 k2 m2 k3 m3 k4 m4 k5 m5 k6 m6 k7 m7 c0 c1 c2 c3 c4 c5 d0 d1 d2 d3 d4 d5
          have c0 : W2.cell? ⟨y1, 0, none⟩ = some (.int .i64 kd) := Blk.c Y1.out rfl
          have c1 : W2.cell? ⟨y1, 1, none⟩ = some (.string nm) := Blk.c Y1.out rfl
          have c2 : W2.cell? ⟨y1, 2, none⟩ = some (.int .i64 ty) := Blk.c Y1.out rfl
          have c3 : W2.cell? ⟨y1, 3, none⟩ = some (.slice ea el ec) := Blk.c Y1.out rfl
          have c4 : W2.cell? ⟨y1, 4, none⟩ = some (.slice fa fl fc) := Blk.c Y1.out rfl
          have c5 : W2.cell? ⟨y1, 5, none⟩ = some (.slice ga gl gc) := Blk.c Y1.out rfl
          have d0 : W2.cell? ⟨y2, 0, none⟩ = some (.int .i64 kd) := Blk.c Y2.out rfl
          have d1 : W2.cell? ⟨y2, 1, none⟩ = some (.string nm) := Blk.c Y2.out rfl
          have d2 : W2.cell? ⟨y2, 2, none⟩ = some (.int .i64 ty) := Blk.c Y2.out rfl
          have d3 : W2.cell? ⟨y2, 3, none⟩ = some (.slice ea2 el ec2) := Blk.c Y2.out rfl
          have d4 : W2.cell? ⟨y2, 4, none⟩ = some (.slice fa2 fl fc2) := Blk.c Y2.out rfl
          have d5 : W2.cell? ⟨y2, 5, none⟩ = some (.slice ga2 gl gc2) := Blk.c Y2.out rfl
          go_wp2_with fail
          refine hs1.mono ?_
          rintro r w5 ⟨rfl, q_, hq_⟩
          have Bw5 : Hid (Below W2.heap.size W2 w5) := by show Below _ _ _; rw [hq_]; exact below_drawn (Below.refl _ _) _
          clear hs1 hq_ c0 c1 c2 c3 c4 c5 d0 d1 d2 d3 d4 d5
          have c0 : w5.cell? ⟨y1, 0, none⟩ = some (.int .i64 kd) := Blk.c (Y1.out.below Bw5.out) rfl
          have c1 : w5.cell? ⟨y1, 1, none⟩ = some (.string nm) := Blk.c (Y1.out.below Bw5.out) rfl
          have c2 : w5.cell? ⟨y1, 2, none⟩ = some (.int .i64 ty) := Blk.c (Y1.out.below Bw5.out) rfl
          have c3 : w5.cell? ⟨y1, 3, none⟩ = some (.slice ea el ec) := Blk.c (Y1.out.below Bw5.out) rfl
          have c4 : w5.cell? ⟨y1, 4, none⟩ = some (.slice fa fl fc) := Blk.c (Y1.out.below Bw5.out) rfl
          have c5 : w5.cell? ⟨y1, 5, none⟩ = some (.slice ga gl gc) := Blk.c (Y1.out.below Bw5.out) rfl
          have d0 : w5.cell? ⟨y2, 0, none⟩ = some (.int .i64 kd) := Blk.c (Y2.out.below Bw5.out) rfl
          have d1 : w5.cell? ⟨y2, 1, none⟩ = some (.string nm) := Blk.c (Y2.out.below Bw5.out) rfl
          have d2 : w5.cell? ⟨y2, 2, none⟩ = some (.int .i64 ty) := Blk.c (Y2.out.below Bw5.out) rfl
          have d3 : w5.cell? ⟨y2, 3, none⟩ = some (.slice ea2 el ec2) := Blk.c (Y2.out.below Bw5.out) rfl
          have d4 : w5.cell? ⟨y2, 4, none⟩ = some (.slice fa2 fl fc2) := Blk.c (Y2.out.below Bw5.out) rfl
          have d5 : w5.cell? ⟨y2, 5, none⟩ = some (.slice ga2 gl gc2) := Blk.c (Y2.out.below Bw5.out) rfl
          have hs2 := HS2.out w5 Bw5.out
          go_wp2_with fail
          refine hs2.mono ?_
          rintro r w6 ⟨rfl, q_, hq_⟩
          have Bw6 : Hid (Below W2.heap.size W2 w6) := by show Below _ _ _; rw [hq_]; exact below_drawn Bw5.out _
          clear hs2 hq_ c0 c1 c2 c3 c4 c5 d0 d1 d2 d3 d4 d5
          have c0 : w6.cell? ⟨y1, 0, none⟩ = some (.int .i64 kd) := Blk.c (Y1.out.below Bw6.out) rfl
          have c1 : w6.cell? ⟨y1, 1, none⟩ = some (.string nm) := Blk.c (Y1.out.below Bw6.out) rfl
          have c2 : w6.cell? ⟨y1, 2, none⟩ = some (.int .i64 ty) := Blk.c (Y1.out.below Bw6.out) rfl
          have c3 : w6.cell? ⟨y1, 3, none⟩ = some (.slice ea el ec) := Blk.c (Y1.out.below Bw6.out) rfl
          have c4 : w6.cell? ⟨y1, 4, none⟩ = some (.slice fa fl fc) := Blk.c (Y1.out.below Bw6.out) rfl
          have c5 : w6.cell? ⟨y1, 5, none⟩ = some (.slice ga gl gc) := Blk.c (Y1.out.below Bw6.out) rfl
          have d0 : w6.cell? ⟨y2, 0, none⟩ = some (.int .i64 kd) := Blk.c (Y2.out.below Bw6.out) rfl
          have d1 : w6.cell? ⟨y2, 1, none⟩ = some (.string nm) := Blk.c (Y2.out.below Bw6.out) rfl
          have d2 : w6.cell? ⟨y2, 2, none⟩ = some (.int .i64 ty) := Blk.c (Y2.out.below Bw6.out) rfl
          have d3 : w6.cell? ⟨y2, 3, none⟩ = some (.slice ea2 el ec2) := Blk.c (Y2.out.below Bw6.out) rfl
          have d4 : w6.cell? ⟨y2, 4, none⟩ = some (.slice fa2 fl fc2) := Blk.c (Y2.out.below Bw6.out) rfl
          have d5 : w6.cell? ⟨y2, 5, none⟩ = some (.slice ga2 gl gc2) := Blk.c (Y2.out.below Bw6.out) rfl
          have hs3 := HS3.out w6 Bw6.out
          go_wp2_with fail
          refine hs3.mono ?_
          rintro r w7 ⟨rfl, q_, hq_⟩
          have Bw7 : Hid (Below W2.heap.size W2 w7) := by show Below _ _ _; rw [hq_]; exact below_drawn Bw6.out _
          clear hs3 hq_ c0 c1 c2 c3 c4 c5 d0 d1 d2 d3 d4 d5
          have c0 : w7.cell? ⟨y1, 0, none⟩ = some (.int .i64 kd) := Blk.c (Y1.out.below Bw7.out) rfl
          have c1 : w7.cell? ⟨y1, 1, none⟩ = some (.string nm) := Blk.c (Y1.out.below Bw7.out) rfl
          have c2 : w7.cell? ⟨y1, 2, none⟩ = some (.int .i64 ty) := Blk.c (Y1.out.below Bw7.out) rfl
          have c3 : w7.cell? ⟨y1, 3, none⟩ = some (.slice ea el ec) := Blk.c (Y1.out.below Bw7.out) rfl
          have c4 : w7.cell? ⟨y1, 4, none⟩ = some (.slice fa fl fc) := Blk.c (Y1.out.below Bw7.out) rfl
          have c5 : w7.cell? ⟨y1, 5, none⟩ = some (.slice ga gl gc) := Blk.c (Y1.out.below Bw7.out) rfl
          have d0 : w7.cell? ⟨y2, 0, none⟩ = some (.int .i64 kd) := Blk.c (Y2.out.below Bw7.out) rfl
          have d1 : w7.cell? ⟨y2, 1, none⟩ = some (.string nm) := Blk.c (Y2.out.below Bw7.out) rfl
          have d2 : w7.cell? ⟨y2, 2, none⟩ = some (.int .i64 ty) := Blk.c (Y2.out.below Bw7.out) rfl
          have d3 : w7.cell? ⟨y2, 3, none⟩ = some (.slice ea2 el ec2) := Blk.c (Y2.out.below Bw7.out) rfl
          have d4 : w7.cell? ⟨y2, 4, none⟩ = some (.slice fa2 fl fc2) := Blk.c (Y2.out.below Bw7.out) rfl
          have d5 : w7.cell? ⟨y2, 5, none⟩ = some (.slice ga2 gl gc2) := Blk.c (Y2.out.below Bw7.out) rfl
          go_wp2_with fail
          go_roundw
          case rel => exact ⟨u + 1, by go_num, by omega, below_next HBU.out (below_next b12.out Bw7.out)⟩
          case measure => simp [intOf]; omega
        · have hue : u = xl := by omega
          subst hue
          go_wp2_with fail
          go_ret
          exact ⟨rfl, HBW.out⟩
end Go.Proofs.YtahalimekacliaaGreatDoor
namespace Go.Proofs.YtahalimekacliaaGreatDoor
open Go.RowKit Go.Shelf Tx Px Gx
theorem app_toks {s t : ByteArray} {b : List UInt8} (ht : t.data.toList = s.data.toList ++ 10 :: b) (h : (Lx.lexS s.data.toList).2 = none) (hb : (Lx.lexS b).2 = none) :
    (Lx.lexS t.data.toList).2 = none ∧ toks t.size (Lx.lexS t.data.toList).1 = toks s.size (Lx.lexS s.data.toList).1 ++ toks t.size (Lx.lexS b).1 := by
  have hsz : t.size = s.size + (b.length + 1) := by rw [← size_toList, ht, ← size_toList]; simp
  rw [ht, Lx.lexS_line]
  unfold Lx.glue
  rw [h]
  refine ⟨hb, ?_⟩
  show toks t.size ((Lx.lexS s.data.toList).1.map (Lx.sh (b.length + 1)) ++ (Lx.lexS b).1) = _
  unfold toks
  rw [List.map_append, List.map_map]
  congr 1
  apply List.map_congr_left
  intro x _
  show (⟨x.k, ⟨x.t.toArray⟩, t.size - (x.m + (b.length + 1))⟩ : Tok) = ⟨x.k, ⟨x.t.toArray⟩, s.size - x.m⟩
  rw [hsz, Nat.add_sub_add_right]
end Go.Proofs.YtahalimekacliaaGreatDoor
namespace Go.Proofs.YtahalimekacliaaGreatDoor
open Go.RowKit Go.Shelf Tx Px Gx
def mnL : List UInt8 := [109, 97, 105, 110, 32, 102, 59]
theorem mn_lex : Lx.lexS mnL = ([⟨3, [109, 97, 105, 110], 7⟩, ⟨1, [102], 2⟩, ⟨4, [59], 1⟩], none) := by kernel_rfl
theorem toks_kt (N M : Nat) (l : List Lx.R) (m : Nat) : ((toks N l)[m]?).map kt = ((toks M l)[m]?).map kt := by
  unfold toks
  rw [List.getElem?_map, List.getElem?_map]
  cases l[m]? <;> rfl
theorem units_S {a b s t : ByteArray} {p q : Pg} (hs : s.data.toList = a.data.toList ++ 10 :: mnL) (ht : t.data.toList = a.data.toList ++ 10 :: b.data.toList) (hp : PgS s (.ok p)) (hq : PgS b (.ok q)) (hn : p.units.length + q.units.length ≤ 200) :
    p.main = ⟨#[102]⟩ ∧ p.back = noS ∧ PgS t (.ok ⟨p.units ++ q.units, q.main, q.back⟩) := by
  obtain ⟨h1, X1, hX1, e1⟩ := hp.lexok
  obtain ⟨h2, X2, hX2, e2⟩ := hq.lexok
  have ha : (Lx.lexS a.data.toList).2 = none := by
    rw [hs, Lx.lexS_line] at h1
    unfold Lx.glue at h1
    split at h1
    · assumption
    · cases h1
  obtain ⟨-, j1⟩ := app_toks hs ha (by rw [mn_lex])
  rw [mn_lex] at j1
  obtain ⟨h3, j3⟩ := app_toks ht ha h2
  obtain ⟨X3, hX3⟩ := XAll.ex (toks_is t)
  obtain ⟨r1, r2, r3⟩ := prog_units (A := toks a.size (Lx.lexS a.data.toList).1) (B := []) (x := tok s.size ⟨3, [109, 97, 105, 110], 7⟩) (y := tok s.size ⟨1, [102], 2⟩) (z := tok s.size ⟨4, [59], 1⟩) ⟨rfl, rfl⟩ j1
    (fun m hm => by rw [j1, j3, List.getElem?_append_left hm, List.getElem?_append_left hm])
    (fun m => by rw [j3, List.getElem?_append_right (Nat.le_add_right _ _), Nat.add_sub_cancel_left]; exact toks_kt _ _ _ _)
    (by rw [j3, List.length_append]; simp [toks]) hX1 hX2 hX3 e1 e2 hn
  refine ⟨r1, r2, ?_⟩
  unfold PgS
  rw [h3]
  exact ⟨X3, hX3, r3.symm⟩
theorem concat_mn (s : ByteArray) : (s ++ (⟨#[10, 109, 97, 105, 110, 32, 102, 59]⟩ : ByteArray)).data.toList = s.data.toList ++ 10 :: mnL := by simp [mnL]
theorem size_mn (s : ByteArray) : (s ++ (⟨#[10, 109, 97, 105, 110, 32, 102, 59]⟩ : ByteArray)).size = s.size + 8 := by rw [← size_toList, concat_mn, ← size_toList]; simp [mnL]
theorem concat_ln (a b : ByteArray) : ((a ++ (⟨#[10]⟩ : ByteArray)) ++ b).data.toList = a.data.toList ++ 10 :: b.data.toList := by simp
theorem size_ln (a b : ByteArray) : ((a ++ (⟨#[10]⟩ : ByteArray)) ++ b).size = a.size + 1 + b.size := by rw [← size_toList, concat_ln, ← size_toList, ← size_toList]; simp; omega
end Go.Proofs.YtahalimekacliaaGreatDoor
namespace Go.Proofs.YtahalimekacliaaGreatDoor
open Go.RowKit Go.Shelf Tx Px Gx
theorem PgPost.opened {w : World} {r : Except (Int × Int) Pg} {e : Ending} {w' : World} (h : PgPost w r e w') : ∃ va n vc m k er at_, e = .returned (.tuple #[.agg #[.slice va n vc, .string m, .string k], .agg #[.int .i64 er, .int .i64 at_]]) ∧ Below w.heap.size w w' ∧ (er = 0 → ∃ p, r = .ok p ∧ m = p.main ∧ k = p.back ∧ n = p.units.length ∧ Sg 8 (PUn w.heap.size) w' (.slice va n vc) p.units) ∧ ∀ p, r = .ok p → er = 0 := by
  obtain ⟨h1, h2⟩ := h
  match r, h2 with
  | .error (c, q), ⟨h3, h4⟩ => exact ⟨_, _, _, _, _, _, _, h4, h1, fun e => absurd e h3, fun p e => by cases e⟩
  | .ok p, ⟨va, n, vc, h3, h4⟩ =>
    obtain ⟨a_, c_, h_, _⟩ := h4.form
    have hn : n = p.units.length := by cases h_; rfl
    exact ⟨_, _, _, _, _, _, _, h3, h1, fun _ => ⟨p, rfl, rfl, rfl, hn, h4.sg⟩, fun _ _ => rfl⟩
theorem units_ex (a b : ByteArray) : ∃ r1 r2 r3, PgS (a ++ (⟨#[10, 109, 97, 105, 110, 32, 102, 59]⟩ : ByteArray)) r1 ∧ PgS b r2 ∧ PgS ((a ++ (⟨#[10]⟩ : ByteArray)) ++ b) r3 ∧ ∀ p q, r1 = .ok p → r2 = .ok q → p.units.length + q.units.length ≤ 200 → p.main = ⟨#[102]⟩ ∧ p.back = noS ∧ r3 = .ok ⟨p.units ++ q.units, q.main, q.back⟩ := by
  obtain ⟨r1, h1⟩ := PgS.all (a ++ (⟨#[10, 109, 97, 105, 110, 32, 102, 59]⟩ : ByteArray))
  obtain ⟨r2, h2⟩ := PgS.all b
  obtain ⟨r3, h3⟩ := PgS.all ((a ++ (⟨#[10]⟩ : ByteArray)) ++ b)
  by_cases h : ∃ p q, r1 = .ok p ∧ r2 = .ok q ∧ p.units.length + q.units.length ≤ 200
  · obtain ⟨p, q, e1, e2, hl⟩ := h
    rw [e1] at h1
    rw [e2] at h2
    obtain ⟨g1, g2, g3⟩ := units_S (concat_mn a) (concat_ln a b) h1 h2 hl
    refine ⟨_, _, _, h1, h2, g3, fun p' q' e1 e2 _ => ?_⟩
    cases e1
    cases e2
    exact ⟨g1, g2, rfl⟩
  · exact ⟨r1, r2, r3, h1, h2, h3, fun p q e1 e2 hl => absurd ⟨p, q, e1, e2, hl⟩ h⟩
theorem wrap_units {n m : Nat} (h : n + m ≤ 400) : wrap64 ((n : Int) + (m : Int)) = (n : Int) + (m : Int) := by
  unfold wrap64; omega
theorem wn_lt {n m : Nat} (h : 200 < n + m) : (200 : Int) < (n : Int) + (m : Int) := by omega
theorem wn_le {n m : Nat} (h : ¬ 200 < n + m) : ¬ (200 : Int) < (n : Int) + (m : Int) := by omega
set_option maxRecDepth 100000 in
set_option maxHeartbeats 8000000 in
theorem progUnits_any (a : ByteArray) (ha : a.size ≤ maxLen) (b : ByteArray) (hb : b.size ≤ maxLen) (w : World) (G : Gl w) :
    Calls Tryz.prog 5 #[.string a, .string b] w fun e w' => e = .returned (.bool true) ∧ Below w.heap.size w w' := by
  have hlive := fun W (hW : Below w.heap.size w W) => live06_any W (G.below hW)
  unfold maxLen at ha hb
  by_cases hbig : 700 < a.size
  · have hl2 := hlive w (Below.refl _ _)
    have hb1 : (700 : Int) < (a.size : Int) := by omega
    clear hlive G
    go_enter Tryz.func5, Tryz.ntmps5
    go_wp2_with fail
    refine hl2.mono ?_
    rintro e w9 ⟨rfl, hb9⟩
    have HB9 := Lib.hid (below_next (Below.refl _ _) hb9)
    clear hl2 hb9
    go_wp2_with fail
    go_ret
    exact ⟨rfl, HB9.out⟩
  by_cases hbig2 : 700 < b.size
  · have hl2 := hlive w (Below.refl _ _)
    have hb1 : ¬ (700 : Int) < (a.size : Int) := by omega
    have hb2 : (700 : Int) < (b.size : Int) := by omega
    clear hlive G
    go_enter Tryz.func5, Tryz.ntmps5
    go_wp2_with fail
    refine hl2.mono ?_
    rintro e w9 ⟨rfl, hb9⟩
    have HB9 := Lib.hid (below_next (Below.refl _ _) hb9)
    clear hl2 hb9
    go_wp2_with fail
    go_ret
    exact ⟨rfl, HB9.out⟩
  obtain ⟨r1, r2, r3, hr1, hr2, hr3, hall⟩ := units_ex a b
  have HLV := Lib.hid hlive
  have HPR := Lib.hid (fun (t : ByteArray) (ht : t.size ≤ 100000) (q : Except (Int × Int) Pg) (hq : PgS t q) W (hW : Below w.heap.size w W) => pProg_any t ht q hq W (G.below hW))
  have hsA : (a ++ (⟨#[10, 109, 97, 105, 110, 32, 102, 59]⟩ : ByteArray)).size ≤ 100000 := by rw [size_mn]; omega
  have hsC : ((a ++ (⟨#[10]⟩ : ByteArray)) ++ b).size ≤ 100000 := by rw [size_ln]; omega
  have hsB : b.size ≤ 100000 := by omega
  have hb1 : ¬ (700 : Int) < (a.size : Int) := by omega
  have hb2 : ¬ (700 : Int) < (b.size : Int) := by omega
  have ad1 : ¬ 9223372036854775807 < a.size + 8 := by omega
  have ad2 : ¬ 9223372036854775799 < a.size := by omega
  have ad3 : ¬ 9223372036854775807 < a.size + 1 := by omega
  have ad4 : ¬ 9223372036854775806 < a.size := by omega
  have ad5 : ¬ 9223372036854775807 < a.size + 1 + b.size := by omega
  have hp1 := HPR.out _ hsA r1 hr1 w (Below.refl _ _)
  have HP2 := Lib.hid (fun W hW => HPR.out _ hsB r2 hr2 W hW)
  have HP3 := Lib.hid (fun W hW => HPR.out _ hsC r3 hr3 W hW)
  have HR1 := Lib.hid hr1
  have HR2 := Lib.hid hr2
  have HR3 := Lib.hid hr3
  have HALL := Lib.hid hall
  clear hlive G hsA hsC hsB hr1 hr2 hr3 hall hbig hbig2 ha hb
  go_enter Tryz.func5, Tryz.ntmps5
  go_wp2_with fail
  refine hp1.mono ?_
  rintro e w1 hpost
  obtain ⟨ua1, n1, uc1, m1, k1, er1, at1, rfl, hb1, hok, hno⟩ := hpost.opened
  have HB1 := Lib.hid hb1
  have HOK1 := Lib.hid hok
  have HNO1 := Lib.hid hno
  have BW1 : Hid (Below w.heap.size w w1) := below_next (Below.refl _ _) hb1
  clear hp1 hpost hb1 hok hno
  go_upto_region 4 with fail
  refine wp_letW ?_
  intro V1 hV1
  have b1 : Below w1.heap.size w1 V1 := by rw [hV1]; exact ((Below.refl _ _).alloc (Nat.le_refl _) _).alloc (by simp) _
  have P1 : Hid (Blk V1 w1.heap.size #[.slice ua1 n1 uc1, .string m1, .string k1] 31) := by show Blk _ _ _ _; rw [hV1]; exact (Blk.new w1 _ _).below ((Below.refl _ _).alloc (Nat.le_refl _) _)
  have F1 : Hid (Blk V1 (w1.heap.size + 1) #[.int .i64 er1, .int .i64 at1] 25) := by show Blk _ _ _ _; rw [hV1]; have h := Blk.new (w1.alloc (.cells #[.slice ua1 n1 uc1, .string m1, .string k1] 31)) #[.int .i64 er1, .int .i64 at1] 25; simpa using h
  obtain ⟨x1, hx1⟩ : ∃ b, b = w1.heap.size := ⟨_, rfl⟩
  rw [← hx1] at P1 F1 ⊢
  clear hV1 hx1
  have B1 : Hid (Below w.heap.size w V1) := below_next BW1.out b1
  have HBB1 := Lib.hid b1
  clear b1
  have hp2 := HP2.out V1 B1.out
  go_wp2_with fail
  refine hp2.mono ?_
  rintro e w2 hpost
  obtain ⟨ua2, n2, uc2, m2, k2, er2, at2, rfl, hb2, hok, hno⟩ := hpost.opened
  have HB2 := Lib.hid hb2
  have HOK2 := Lib.hid hok
  have HNO2 := Lib.hid hno
  have BW2 : Hid (Below w.heap.size w w2) := below_next B1.out hb2
  clear hp2 hpost hb2 hok hno
  go_upto_region 5 with fail
  refine wp_letW ?_
  intro V2 hV2
  have b2 : Below w2.heap.size w2 V2 := by rw [hV2]; exact ((Below.refl _ _).alloc (Nat.le_refl _) _).alloc (by simp) _
  have P2 : Hid (Blk V2 w2.heap.size #[.slice ua2 n2 uc2, .string m2, .string k2] 31) := by show Blk _ _ _ _; rw [hV2]; exact (Blk.new w2 _ _).below ((Below.refl _ _).alloc (Nat.le_refl _) _)
  have F2 : Hid (Blk V2 (w2.heap.size + 1) #[.int .i64 er2, .int .i64 at2] 25) := by show Blk _ _ _ _; rw [hV2]; have h := Blk.new (w2.alloc (.cells #[.slice ua2 n2 uc2, .string m2, .string k2] 31)) #[.int .i64 er2, .int .i64 at2] 25; simpa using h
  obtain ⟨x2, hx2⟩ : ∃ b, b = w2.heap.size := ⟨_, rfl⟩
  rw [← hx2] at P2 F2 ⊢
  clear hV2 hx2
  have B2 : Hid (Below w.heap.size w V2) := below_next BW2.out b2
  have HBB2 := Lib.hid b2
  clear b2
  have hp3 := HP3.out V2 B2.out
  go_wp2_with fail
  refine hp3.mono ?_
  rintro e w3 hpost
  obtain ⟨ua3, n3, uc3, m3, k3, er3, at3, rfl, hb3, hok, hno⟩ := hpost.opened
  have HB3 := Lib.hid hb3
  have HOK3 := Lib.hid hok
  have HNO3 := Lib.hid hno
  have BW3 : Hid (Below w.heap.size w w3) := below_next B2.out hb3
  clear hp3 hpost hb3 hok hno
  go_upto_region 6 with fail
  refine wp_letW ?_
  intro V3 hV3
  have b3 : Below w3.heap.size w3 V3 := by rw [hV3]; exact ((Below.refl _ _).alloc (Nat.le_refl _) _).alloc (by simp) _
  have P3 : Hid (Blk V3 w3.heap.size #[.slice ua3 n3 uc3, .string m3, .string k3] 31) := by show Blk _ _ _ _; rw [hV3]; exact (Blk.new w3 _ _).below ((Below.refl _ _).alloc (Nat.le_refl _) _)
  have F3 : Hid (Blk V3 (w3.heap.size + 1) #[.int .i64 er3, .int .i64 at3] 25) := by show Blk _ _ _ _; rw [hV3]; have h := Blk.new (w3.alloc (.cells #[.slice ua3 n3 uc3, .string m3, .string k3] 31)) #[.int .i64 er3, .int .i64 at3] 25; simpa using h
  obtain ⟨x3, hx3⟩ : ∃ b, b = w3.heap.size := ⟨_, rfl⟩
  rw [← hx3] at P3 F3 ⊢
  clear hV3 hx3
  have B3 : Hid (Below w.heap.size w V3) := below_next BW3.out b3
  have HBB3 := Lib.hid b3
  clear b3
  have q3 : Below V2.heap.size V2 V3 := below_next HB3.out HBB3.out
  have q2 : Below V1.heap.size V1 V3 := below_next (below_next HB2.out HBB2.out) q3
  have Q1 := Lib.hid (P1.out.below q2)
  have Q2 := Lib.hid (P2.out.below q3)
  have Q3 := P3
  obtain ⟨e1, -, -, -⟩ := two_cells (F1.out.below q2)
  obtain ⟨e2, -, -, -⟩ := two_cells (F2.out.below q3)
  obtain ⟨e3, -, -, -⟩ := two_cells F3.out
  have HQ2 := Lib.hid q2
  have HQ3 := Lib.hid q3
  clear q2 q3
  have c10 : V3.cell? ⟨x1, 0, none⟩ = some (.slice ua1 n1 uc1) := Blk.c Q1.out rfl
  have c11 : V3.cell? ⟨x1, 1, none⟩ = some (.string m1) := Blk.c Q1.out rfl
  have c12 : V3.cell? ⟨x1, 2, none⟩ = some (.string k1) := Blk.c Q1.out rfl
  have c20 : V3.cell? ⟨x2, 0, none⟩ = some (.slice ua2 n2 uc2) := Blk.c Q2.out rfl
  have c21 : V3.cell? ⟨x2, 1, none⟩ = some (.string m2) := Blk.c Q2.out rfl
  have c22 : V3.cell? ⟨x2, 2, none⟩ = some (.string k2) := Blk.c Q2.out rfl
  have c30 : V3.cell? ⟨x3, 0, none⟩ = some (.slice ua3 n3 uc3) := Blk.c Q3.out rfl
  have c31 : V3.cell? ⟨x3, 1, none⟩ = some (.string m3) := Blk.c Q3.out rfl
  have c32 : V3.cell? ⟨x3, 2, none⟩ = some (.string k3) := Blk.c Q3.out rfl
  have hl2 := HLV.out V3 B3.out
  by_cases hz1 : er1 = 0
  rotate_left
  · have ne1 : (er1 != 0) = true := by simp [hz1]
    go_wp2_with fail
    refine hl2.mono ?_
    rintro e w9 ⟨rfl, hb9⟩
    have HB9 := Lib.hid (below_next B3.out hb9)
    clear hl2 hb9
    go_wp2_with fail
    go_ret
    exact ⟨rfl, HB9.out⟩
  have ne1 : (er1 != 0) = false := by simp [hz1]
  by_cases hz2 : er2 = 0
  rotate_left
  · have ne2 : (er2 != 0) = true := by simp [hz2]
    go_wp2_with fail
    refine hl2.mono ?_
    rintro e w9 ⟨rfl, hb9⟩
    have HB9 := Lib.hid (below_next B3.out hb9)
    clear hl2 hb9
    go_wp2_with fail
    go_ret
    exact ⟨rfl, HB9.out⟩
  have ne2 : (er2 != 0) = false := by simp [hz2]
  obtain ⟨P, hP1, hP2, hP3, hP4, hP5⟩ := HOK1.out hz1
  obtain ⟨Q, hQ1, hQ2, hQ3, hQ4, hQ5⟩ := HOK2.out hz2
  have HFW1 := Lib.hid (PgS.few (hP1 ▸ HR1.out))
  have HFW2 := Lib.hid (PgS.few (hQ1 ▸ HR2.out))
  have wn : wrap64 ((n1 : Int) + (n2 : Int)) = (n1 : Int) + (n2 : Int) := wrap_units (by have := HFW1.out.n; have := HFW2.out.n; omega)
  have HP := Lib.hid (And.intro hP1 (And.intro hP2 (And.intro hP3 (And.intro hP4 hP5))))
  have HQ := Lib.hid (And.intro hQ1 (And.intro hQ2 (And.intro hQ3 (And.intro hQ4 hQ5))))
  clear hP1 hP2 hP3 hP4 hP5 hQ1 hQ2 hQ3 hQ4 hQ5
  by_cases hn : 200 < n1 + n2
  · have hni : (200 : Int) < (n1 : Int) + (n2 : Int) := wn_lt hn
    go_wp2_with fail
    refine hl2.mono ?_
    rintro e w9 ⟨rfl, hb9⟩
    have HB9 := Lib.hid (below_next B3.out hb9)
    clear hl2 hb9
    go_wp2_with fail
    go_ret
    exact ⟨rfl, HB9.out⟩
  have hni : ¬ (200 : Int) < (n1 : Int) + (n2 : Int) := wn_le hn
  obtain ⟨hP1, hP2, hP3, hP4, hP5⟩ := HP.out
  obtain ⟨hQ1, hQ2, hQ3, hQ4, hQ5⟩ := HQ.out
  clear HP HQ
  obtain ⟨g1, g2, g3⟩ := HALL.out P Q hP1 hQ1 (hP4 ▸ hQ4 ▸ Nat.le_of_not_lt hn)
  have hz3 : er3 = 0 := HNO3.out _ g3
  obtain ⟨R, hR1, hR2, hR3, hR4, hR5⟩ := HOK3.out hz3
  rw [g3] at hR1
  cases hR1
  simp only [List.length_append] at hR4
  rw [g1] at hP2
  replace hP3 : k1 = (⟨#[]⟩ : ByteArray) := hP3.trans g2
  have HS1 := Lib.hid hP5
  have HS2 := Lib.hid hQ5
  have HS3 := Lib.hid hR5
  have HN1 := Lib.hid hP4
  have HN2 := Lib.hid hQ4
  have HN3 : Hid (n3 = n1 + n2) := by show _ = _; rw [hP4, hQ4]; exact hR4
  have h32 : Hid (m3 = m2 ∧ k3 = k2) := ⟨hR2.trans hQ2.symm, hR3.trans hQ3.symm⟩
  have hnn : n1 + n2 ≤ 200 := Nat.le_of_not_lt hn
  obtain ⟨e5, e6⟩ := h32.out
  subst e5
  subst e6
  subst hP2
  subst hP3
  have e7 := HN3.out
  subst e7
  clear hP1 hQ1 hP4 hQ4 hR4 hP5 hQ5 hR5 hQ2 hQ3 hR2 hR3 g1 g2 g3 hz1 hz2 hn h32 hl2
  have ne3 : (er3 != 0) = false := by simp [hz3]
  have f1 : ((102 : UInt8) == 102) = true := rfl
  have mm : (m3.toList != m3.toList) = false := by simp
  have kk : (k3.toList != k3.toList) = false := by simp
  have mm2 : (m3.toList == m3.toList) = true := by simp
  have kk2 : (k3.toList == k3.toList) = true := by simp
  clear hz3
  go_wp2_with fail
  clear P1 P2 P3 F1 F2 F3 c11 c12 c21 c22 c31 c32 e1 e2 e3 ad1 ad2 ad3 ad4 ad5 hb1 hb2 HR1 HR2 HR3 HALL HOK1 HOK2 HOK3 HNO1 HNO2 HNO3 HP2 HP3 HPR BW1 BW2 BW3
  clear ne1 ne2 ne3 f1 mm kk mm2 kk2 hni c10 c20 c30 wn
  go_loopw [11] (fun i wr => ∃ t : Nat, i = .int .i64 t ∧ t ≤ n1 + n2 ∧ Below V3.heap.size V3 wr) (fun i _ => n1 + n2 - (intOf i).toNat)
  case atStart => exact ⟨0, rfl, Nat.zero_le _, Below.refl _ _⟩
  case round =>
    obtain ⟨t, rfl, ht, bw⟩ := hrel
    have HQ_1 := Lib.hid (Q1.out.below bw)
    have HQ_2 := Lib.hid (Q2.out.below bw)
    have HQ_3 := Lib.hid (Q3.out.below bw)
    have HBR : Hid (Below w.heap.size w wr) := below_next B3.out bw
    have HBU := Lib.hid bw
    have HW3 : Hid (Below w3.heap.size w3 wr) := below_next HBB3.out bw
    have HW2 : Hid (Below w2.heap.size w2 wr) := below_next HBB2.out (below_next HQ3.out bw)
    have HW1 : Hid (Below w1.heap.size w1 wr) := below_next HBB1.out (below_next HQ2.out bw)
    clear bw
    have c10 : wr.cell? ⟨x1, 0, none⟩ = some (.slice ua1 n1 uc1) := Blk.c HQ_1.out rfl
    have c20 : wr.cell? ⟨x2, 0, none⟩ = some (.slice ua2 n2 uc2) := Blk.c HQ_2.out rfl
    have c30 : wr.cell? ⟨x3, 0, none⟩ = some (.slice ua3 (n1 + n2) uc3) := Blk.c HQ_3.out rfl
    have hL3 : (P.units ++ Q.units).length = n1 + n2 := by rw [List.length_append, ← HN1.out, ← HN2.out]
    by_cases hlt : t < n1 + n2
    · obtain ⟨x, hx⟩ : ∃ x, (P.units ++ Q.units)[t]? = some x := ⟨_, List.getElem?_eq_getElem (by rw [hL3]; exact hlt)⟩
      obtain ⟨a_, c_, e_, -, hx3⟩ := HS3.out.form (keepsUn _)
      rw [hL3] at e_
      cases e_
      obtain ⟨g, o, cs, rfl, hp1, hcell⟩ := hx3 wr HW3.out t x hx
      have htl : (t : Int) < (n1 : Int) + (n2 : Int) := by omega
      have ht0 : (0 : Int) ≤ (t : Int) := by omega
      clear hL3 hx3
      by_cases h1 : t < n1
      · skip
        have hxa : P.units[t]? = some x := by rw [← hx, List.getElem?_append_left (by rw [← HN1.out]; exact h1)]
        have hti : (t : Int) < (n1 : Int) := by omega
        have htg : ¬ (n1 : Int) ≤ (t : Int) := by omega
        have hdg : decide ((n1 : Int) ≤ (t : Int)) = false := by simp; omega
        have hdh : ((n1 : Int) ≤ (t : Int)) = False := by simp; omega
        have HXS := Lib.hid (HFW1.out.u x (List.mem_of_getElem? hxa))
        obtain ⟨a_, c_, e_, -, hx2⟩ := HS1.out.form (keepsUn _)
        rw [← HN1.out] at e_
        cases e_
        obtain ⟨g', o', cs', rfl, hp2, hcell'⟩ := hx2 wr HW1.out t x hxa
        have HP1 := Lib.hid hp1
        have HP2 := Lib.hid hp2
        obtain ⟨vi, vv, vq, vx, rfl, hi1, hv1, hq1, hx1_⟩ := hp1
        obtain ⟨vi', vv', vq', vx', rfl, hi2, hv2, hq2, hx2_⟩ := hp2
        obtain ⟨ia, ic, rfl, -⟩ := hi1.form
        obtain ⟨ia2, ic2, rfl, -⟩ := hi2.form
        obtain ⟨va, vc, rfl, -⟩ := hv1.form
        obtain ⟨va2, vc2, rfl, -⟩ := hv2.form
        obtain ⟨qa, qc, rfl, -⟩ := hq1.form
        obtain ⟨qa2, qc2, rfl, -⟩ := hq2.form
        obtain ⟨xa, xc, rfl, -⟩ := hx1_.form
        obtain ⟨xa2, xc2, rfl, -⟩ := hx2_.form
        have r0 := hcell 0 _ rfl
        have d0 := hcell' 0 _ rfl
        have r1 := hcell 1 _ rfl
        have d1 := hcell' 1 _ rfl
        have r2 := hcell 2 _ rfl
        have d2 := hcell' 2 _ rfl
        have r3 := hcell 3 _ rfl
        have d3 := hcell' 3 _ rfl
        have r4 := hcell 4 _ rfl
        have d4 := hcell' 4 _ rfl
        have r5 := hcell 5 _ rfl
        have d5 := hcell' 5 _ rfl
        have r6 := hcell 6 _ rfl
        have d6 := hcell' 6 _ rfl
        have r7 := hcell 7 _ rfl
        have d7 := hcell' 7 _ rfl
        simp only [Nat.add_zero] at r0 d0
        clear hi1 hi2 hv1 hv2 hq1 hq2 hx1_ hx2_ hcell hcell' hx2 hx hxa
        obtain ⟨cn, nm, ins, ⟨on, ot⟩, vars, eqs, items⟩ := x
        simp only at r0 r1 r2 r3 r4 r5 r6 r7 d0 d1 d2 d3 d4 d5 d6 d7
        generalize hil : ins.length = il at r2 d2 HP1 HP2
        generalize hvl : vars.length = vl at r5 d5 HP1 HP2
        generalize hql : eqs.length = ql at r6 d6 HP1 HP2
        generalize hxl : items.length = xl at r7 d7 HP1 HP2
        clear hil hvl hql hxl
        go_upto_region 14 with fail
        refine wp_letW ?_
        intro W5 hW5
        have b5 : Below wr.heap.size wr W5 := by rw [hW5]; exact (Below.refl _ _).alloc (Nat.le_refl _) _
        have U5 : Blk W5 wr.heap.size #[.bool cn, .string nm, .slice ia il ic, .string on, .int .i64 ot, .slice va vl vc, .slice qa ql qc, .slice xa xl xc] 43 := by rw [hW5]; exact Blk.new wr _ _
        obtain ⟨u, hu⟩ : ∃ u, u = wr.heap.size := ⟨_, rfl⟩
        rw [← hu] at U5 ⊢
        clear hW5 hu
        have hcall := rSameUnit_eq _ _ _ HXS.out _ _ W5.drew (keepsUn _ _ _ _ _ HP1.out b5.drew) (keepsUn _ _ _ _ _ HP2.out b5.drew)
        simp only at hcall
        have u0 : W5.cell? ⟨u, 0, none⟩ = some (.bool cn) := Blk.c U5 rfl
        have u1 : W5.cell? ⟨u, 1, none⟩ = some (.string nm) := Blk.c U5 rfl
        have u2 : W5.cell? ⟨u, 2, none⟩ = some (.slice ia il ic) := Blk.c U5 rfl
        have u3 : W5.cell? ⟨u, 3, none⟩ = some (.string on) := Blk.c U5 rfl
        have u4 : W5.cell? ⟨u, 4, none⟩ = some (.int .i64 ot) := Blk.c U5 rfl
        have u5 : W5.cell? ⟨u, 5, none⟩ = some (.slice va vl vc) := Blk.c U5 rfl
        have u6 : W5.cell? ⟨u, 6, none⟩ = some (.slice qa ql qc) := Blk.c U5 rfl
        have u7 : W5.cell? ⟨u, 7, none⟩ = some (.slice xa xl xc) := Blk.c U5 rfl
        have zc10 := (b5.cell (World.block_lt_of_cell? wr _ c10)).trans c10
        have zc20 := (b5.cell (World.block_lt_of_cell? wr _ c20)).trans c20
        have zc30 := (b5.cell (World.block_lt_of_cell? wr _ c30)).trans c30
        have zd0 := (b5.cell (World.block_lt_of_cell? wr _ d0)).trans d0
        have zd1 := (b5.cell (World.block_lt_of_cell? wr _ d1)).trans d1
        have zd2 := (b5.cell (World.block_lt_of_cell? wr _ d2)).trans d2
        have zd3 := (b5.cell (World.block_lt_of_cell? wr _ d3)).trans d3
        have zd4 := (b5.cell (World.block_lt_of_cell? wr _ d4)).trans d4
        have zd5 := (b5.cell (World.block_lt_of_cell? wr _ d5)).trans d5
        have zd6 := (b5.cell (World.block_lt_of_cell? wr _ d6)).trans d6
        have zd7 := (b5.cell (World.block_lt_of_cell? wr _ d7)).trans d7
        have HK : Hid (∀ W, Below W5.heap.size W5 W → W.cell? ⟨x1, 0, none⟩ = some (.slice (some ⟨g', o', none⟩) n1 uc1) ∧ W.cell? ⟨x2, 0, none⟩ = some (.slice ua2 n2 uc2) ∧ W.cell? ⟨x3, 0, none⟩ = some (.slice (some ⟨g, o, none⟩) (n1 + n2) uc3) ∧ W.cell? ⟨u, 0, none⟩ = some (.bool cn) ∧ W.cell? ⟨u, 1, none⟩ = some (.string nm) ∧ W.cell? ⟨u, 2, none⟩ = some (.slice ia il ic) ∧ W.cell? ⟨u, 3, none⟩ = some (.string on) ∧ W.cell? ⟨u, 4, none⟩ = some (.int .i64 ot) ∧ W.cell? ⟨u, 5, none⟩ = some (.slice va vl vc) ∧ W.cell? ⟨u, 6, none⟩ = some (.slice qa ql qc) ∧ W.cell? ⟨u, 7, none⟩ = some (.slice xa xl xc) ∧ W.cell? ⟨g', o' + t * 8, none⟩ = some (.bool cn) ∧ W.cell? ⟨g', o' + t * 8 + 1, none⟩ = some (.string nm) ∧ W.cell? ⟨g', o' + t * 8 + 2, none⟩ = some (.slice ia2 il ic2) ∧ W.cell? ⟨g', o' + t * 8 + 3, none⟩ = some (.string on) ∧ W.cell? ⟨g', o' + t * 8 + 4, none⟩ = some (.int .i64 ot) ∧ W.cell? ⟨g', o' + t * 8 + 5, none⟩ = some (.slice va2 vl vc2) ∧ W.cell? ⟨g', o' + t * 8 + 6, none⟩ = some (.slice qa2 ql qc2) ∧ W.cell? ⟨g', o' + t * 8 + 7, none⟩ = some (.slice xa2 xl xc2)) := fun W hW =>
          ⟨(hW.cell (World.block_lt_of_cell? W5 _ zc10)).trans zc10, (hW.cell (World.block_lt_of_cell? W5 _ zc20)).trans zc20, (hW.cell (World.block_lt_of_cell? W5 _ zc30)).trans zc30, (hW.cell (World.block_lt_of_cell? W5 _ u0)).trans u0, (hW.cell (World.block_lt_of_cell? W5 _ u1)).trans u1, (hW.cell (World.block_lt_of_cell? W5 _ u2)).trans u2, (hW.cell (World.block_lt_of_cell? W5 _ u3)).trans u3, (hW.cell (World.block_lt_of_cell? W5 _ u4)).trans u4, (hW.cell (World.block_lt_of_cell? W5 _ u5)).trans u5, (hW.cell (World.block_lt_of_cell? W5 _ u6)).trans u6, (hW.cell (World.block_lt_of_cell? W5 _ u7)).trans u7, (hW.cell (World.block_lt_of_cell? W5 _ zd0)).trans zd0, (hW.cell (World.block_lt_of_cell? W5 _ zd1)).trans zd1, (hW.cell (World.block_lt_of_cell? W5 _ zd2)).trans zd2, (hW.cell (World.block_lt_of_cell? W5 _ zd3)).trans zd3, (hW.cell (World.block_lt_of_cell? W5 _ zd4)).trans zd4, (hW.cell (World.block_lt_of_cell? W5 _ zd5)).trans zd5, (hW.cell (World.block_lt_of_cell? W5 _ zd6)).trans zd6, (hW.cell (World.block_lt_of_cell? W5 _ zd7)).trans zd7⟩
        have KK0 := HK.out W5 (Below.refl _ _)
        have KK1 := HK.out W5.drew (Below.refl _ _).drew
        have HB5 := Lib.hid b5
        clear b5 U5 zc10 zc20 zc30 u0 u1 u2 u3 u4 u5 u6 u7 zd0 zd1 zd2 zd3 zd4 zd5 zd6 zd7 c10 c20 c30 d0 d1 d2 d3 d4 d5 d6 d7 r0 r1 r2 r3 r4 r5 r6 r7
        go_region_held3 (fun w' => w'.cell? ⟨x1, 0, none⟩ = some (.slice (some ⟨g', o', none⟩) n1 uc1) ∧ w'.cell? ⟨x2, 0, none⟩ = some (.slice ua2 n2 uc2) ∧ w'.cell? ⟨x3, 0, none⟩ = some (.slice (some ⟨g, o, none⟩) (n1 + n2) uc3) ∧ w'.cell? ⟨u, 0, none⟩ = some (.bool cn) ∧ w'.cell? ⟨u, 1, none⟩ = some (.string nm) ∧ w'.cell? ⟨u, 2, none⟩ = some (.slice ia il ic) ∧ w'.cell? ⟨u, 3, none⟩ = some (.string on) ∧ w'.cell? ⟨u, 4, none⟩ = some (.int .i64 ot) ∧ w'.cell? ⟨u, 5, none⟩ = some (.slice va vl vc) ∧ w'.cell? ⟨u, 6, none⟩ = some (.slice qa ql qc) ∧ w'.cell? ⟨u, 7, none⟩ = some (.slice xa xl xc) ∧ w'.cell? ⟨g', o' + t * 8, none⟩ = some (.bool cn) ∧ w'.cell? ⟨g', o' + t * 8 + 1, none⟩ = some (.string nm) ∧ w'.cell? ⟨g', o' + t * 8 + 2, none⟩ = some (.slice ia2 il ic2) ∧ w'.cell? ⟨g', o' + t * 8 + 3, none⟩ = some (.string on) ∧ w'.cell? ⟨g', o' + t * 8 + 4, none⟩ = some (.int .i64 ot) ∧ w'.cell? ⟨g', o' + t * 8 + 5, none⟩ = some (.slice va2 vl vc2) ∧ w'.cell? ⟨g', o' + t * 8 + 6, none⟩ = some (.slice qa2 ql qc2) ∧ w'.cell? ⟨g', o' + t * 8 + 7, none⟩ = some (.slice xa2 xl xc2))
          (with_reducible first | exact KK2 | exact KK1 | exact KK0 | exact HK.out _ (Below.drew B4))
          ((go_at_call 13; refine hcall.mono ?_; rintro r w4 ⟨rfl, hb4⟩; have B4 : Below W5.heap.size W5 w4 := below_next ((Below.refl W5.heap.size W5).drew) hb4; have KK2 := HK.out w4 B4))
        go_upto_region 16 with fail
        go_quiet (fail)
        go_wp2_with fail
        go_roundw
        case rel => exact ⟨t + 1, by go_num, by omega, below_next HBU.out (below_next HB5.out (by first | exact B4 | exact B4.drew | exact below_drawn B4 _))⟩
        case measure => simp [intOf]; omega
      · skip
        obtain ⟨y, hy⟩ : ∃ y, t = n1 + y := ⟨t - n1, by omega⟩
        have hxa : Q.units[y]? = some x := by rw [← hx, hy, List.getElem?_append_right (by rw [← HN1.out]; omega), ← HN1.out, Nat.add_sub_cancel_left]
        have hti : ¬ (t : Int) < (n1 : Int) := by omega
        have htg : (n1 : Int) ≤ (t : Int) := by omega
        have hyn : (y : Int) < (n2 : Int) := by omega
        have hy0 : (0 : Int) ≤ (y : Int) := by omega
        have hwz : IntKind.i64.wrap ((t : Int) - (n1 : Int)) = (t : Int) - (n1 : Int) := IntWalk.i64_in _ (by omega)
        have hy1 : (t : Int) - (n1 : Int) < (n2 : Int) := by omega
        have hy3 : (0 : Int) ≤ (t : Int) - (n1 : Int) := by omega
        have hy2 : ((t : Int) - (n1 : Int)).toNat = y := by omega
        clear hy
        have HXS := Lib.hid (HFW2.out.u x (List.mem_of_getElem? hxa))
        obtain ⟨a_, c_, e_, -, hx2⟩ := HS2.out.form (keepsUn _)
        rw [← HN2.out] at e_
        cases e_
        obtain ⟨g', o', cs', rfl, hp2, hcell'⟩ := hx2 wr HW2.out y x hxa
        have HP1 := Lib.hid hp1
        have HP2 := Lib.hid hp2
        obtain ⟨vi, vv, vq, vx, rfl, hi1, hv1, hq1, hx1_⟩ := hp1
        obtain ⟨vi', vv', vq', vx', rfl, hi2, hv2, hq2, hx2_⟩ := hp2
        obtain ⟨ia, ic, rfl, -⟩ := hi1.form
        obtain ⟨ia2, ic2, rfl, -⟩ := hi2.form
        obtain ⟨va, vc, rfl, -⟩ := hv1.form
        obtain ⟨va2, vc2, rfl, -⟩ := hv2.form
        obtain ⟨qa, qc, rfl, -⟩ := hq1.form
        obtain ⟨qa2, qc2, rfl, -⟩ := hq2.form
        obtain ⟨xa, xc, rfl, -⟩ := hx1_.form
        obtain ⟨xa2, xc2, rfl, -⟩ := hx2_.form
        have r0 := hcell 0 _ rfl
        have d0 := hcell' 0 _ rfl
        have r1 := hcell 1 _ rfl
        have d1 := hcell' 1 _ rfl
        have r2 := hcell 2 _ rfl
        have d2 := hcell' 2 _ rfl
        have r3 := hcell 3 _ rfl
        have d3 := hcell' 3 _ rfl
        have r4 := hcell 4 _ rfl
        have d4 := hcell' 4 _ rfl
        have r5 := hcell 5 _ rfl
        have d5 := hcell' 5 _ rfl
        have r6 := hcell 6 _ rfl
        have d6 := hcell' 6 _ rfl
        have r7 := hcell 7 _ rfl
        have d7 := hcell' 7 _ rfl
        simp only [Nat.add_zero] at r0 d0
        clear hi1 hi2 hv1 hv2 hq1 hq2 hx1_ hx2_ hcell hcell' hx2 hx hxa
        obtain ⟨cn, nm, ins, ⟨on, ot⟩, vars, eqs, items⟩ := x
        simp only at r0 r1 r2 r3 r4 r5 r6 r7 d0 d1 d2 d3 d4 d5 d6 d7
        generalize hil : ins.length = il at r2 d2 HP1 HP2
        generalize hvl : vars.length = vl at r5 d5 HP1 HP2
        generalize hql : eqs.length = ql at r6 d6 HP1 HP2
        generalize hxl : items.length = xl at r7 d7 HP1 HP2
        clear hil hvl hql hxl
        go_upto_region 14 with fail
        refine wp_letW ?_
        intro W5 hW5
        have b5 : Below wr.heap.size wr W5 := by rw [hW5]; exact (Below.refl _ _).alloc (Nat.le_refl _) _
        have U5 : Blk W5 wr.heap.size #[.bool cn, .string nm, .slice ia il ic, .string on, .int .i64 ot, .slice va vl vc, .slice qa ql qc, .slice xa xl xc] 43 := by rw [hW5]; exact Blk.new wr _ _
        obtain ⟨u, hu⟩ : ∃ u, u = wr.heap.size := ⟨_, rfl⟩
        rw [← hu] at U5 ⊢
        clear hW5 hu
        have u0 : W5.cell? ⟨u, 0, none⟩ = some (.bool cn) := Blk.c U5 rfl
        have u1 : W5.cell? ⟨u, 1, none⟩ = some (.string nm) := Blk.c U5 rfl
        have u2 : W5.cell? ⟨u, 2, none⟩ = some (.slice ia il ic) := Blk.c U5 rfl
        have u3 : W5.cell? ⟨u, 3, none⟩ = some (.string on) := Blk.c U5 rfl
        have u4 : W5.cell? ⟨u, 4, none⟩ = some (.int .i64 ot) := Blk.c U5 rfl
        have u5 : W5.cell? ⟨u, 5, none⟩ = some (.slice va vl vc) := Blk.c U5 rfl
        have u6 : W5.cell? ⟨u, 6, none⟩ = some (.slice qa ql qc) := Blk.c U5 rfl
        have u7 : W5.cell? ⟨u, 7, none⟩ = some (.slice xa xl xc) := Blk.c U5 rfl
        have zc10 := (b5.cell (World.block_lt_of_cell? wr _ c10)).trans c10
        have zc20 := (b5.cell (World.block_lt_of_cell? wr _ c20)).trans c20
        have zc30 := (b5.cell (World.block_lt_of_cell? wr _ c30)).trans c30
        have zd0 := (b5.cell (World.block_lt_of_cell? wr _ d0)).trans d0
        have zd1 := (b5.cell (World.block_lt_of_cell? wr _ d1)).trans d1
        have zd2 := (b5.cell (World.block_lt_of_cell? wr _ d2)).trans d2
        have zd3 := (b5.cell (World.block_lt_of_cell? wr _ d3)).trans d3
        have zd4 := (b5.cell (World.block_lt_of_cell? wr _ d4)).trans d4
        have zd5 := (b5.cell (World.block_lt_of_cell? wr _ d5)).trans d5
        have zd6 := (b5.cell (World.block_lt_of_cell? wr _ d6)).trans d6
        have zd7 := (b5.cell (World.block_lt_of_cell? wr _ d7)).trans d7
        have HK : Hid (∀ W, Below W5.heap.size W5 W → W.cell? ⟨x1, 0, none⟩ = some (.slice ua1 n1 uc1) ∧ W.cell? ⟨x2, 0, none⟩ = some (.slice (some ⟨g', o', none⟩) n2 uc2) ∧ W.cell? ⟨x3, 0, none⟩ = some (.slice (some ⟨g, o, none⟩) (n1 + n2) uc3) ∧ W.cell? ⟨u, 0, none⟩ = some (.bool cn) ∧ W.cell? ⟨u, 1, none⟩ = some (.string nm) ∧ W.cell? ⟨u, 2, none⟩ = some (.slice ia il ic) ∧ W.cell? ⟨u, 3, none⟩ = some (.string on) ∧ W.cell? ⟨u, 4, none⟩ = some (.int .i64 ot) ∧ W.cell? ⟨u, 5, none⟩ = some (.slice va vl vc) ∧ W.cell? ⟨u, 6, none⟩ = some (.slice qa ql qc) ∧ W.cell? ⟨u, 7, none⟩ = some (.slice xa xl xc) ∧ W.cell? ⟨g', o' + y * 8, none⟩ = some (.bool cn) ∧ W.cell? ⟨g', o' + y * 8 + 1, none⟩ = some (.string nm) ∧ W.cell? ⟨g', o' + y * 8 + 2, none⟩ = some (.slice ia2 il ic2) ∧ W.cell? ⟨g', o' + y * 8 + 3, none⟩ = some (.string on) ∧ W.cell? ⟨g', o' + y * 8 + 4, none⟩ = some (.int .i64 ot) ∧ W.cell? ⟨g', o' + y * 8 + 5, none⟩ = some (.slice va2 vl vc2) ∧ W.cell? ⟨g', o' + y * 8 + 6, none⟩ = some (.slice qa2 ql qc2) ∧ W.cell? ⟨g', o' + y * 8 + 7, none⟩ = some (.slice xa2 xl xc2)) := fun W hW =>
          ⟨(hW.cell (World.block_lt_of_cell? W5 _ zc10)).trans zc10, (hW.cell (World.block_lt_of_cell? W5 _ zc20)).trans zc20, (hW.cell (World.block_lt_of_cell? W5 _ zc30)).trans zc30, (hW.cell (World.block_lt_of_cell? W5 _ u0)).trans u0, (hW.cell (World.block_lt_of_cell? W5 _ u1)).trans u1, (hW.cell (World.block_lt_of_cell? W5 _ u2)).trans u2, (hW.cell (World.block_lt_of_cell? W5 _ u3)).trans u3, (hW.cell (World.block_lt_of_cell? W5 _ u4)).trans u4, (hW.cell (World.block_lt_of_cell? W5 _ u5)).trans u5, (hW.cell (World.block_lt_of_cell? W5 _ u6)).trans u6, (hW.cell (World.block_lt_of_cell? W5 _ u7)).trans u7, (hW.cell (World.block_lt_of_cell? W5 _ zd0)).trans zd0, (hW.cell (World.block_lt_of_cell? W5 _ zd1)).trans zd1, (hW.cell (World.block_lt_of_cell? W5 _ zd2)).trans zd2, (hW.cell (World.block_lt_of_cell? W5 _ zd3)).trans zd3, (hW.cell (World.block_lt_of_cell? W5 _ zd4)).trans zd4, (hW.cell (World.block_lt_of_cell? W5 _ zd5)).trans zd5, (hW.cell (World.block_lt_of_cell? W5 _ zd6)).trans zd6, (hW.cell (World.block_lt_of_cell? W5 _ zd7)).trans zd7⟩
        have KK0 := HK.out W5 (Below.refl _ _)
        have KK1 := HK.out W5.drew (Below.refl _ _).drew
        have HB5 := Lib.hid b5
        clear b5 U5 zc10 zc20 zc30 u0 u1 u2 u3 u4 u5 u6 u7 zd0 zd1 zd2 zd3 zd4 zd5 zd6 zd7 c10 c20 c30 d0 d1 d2 d3 d4 d5 d6 d7 r0 r1 r2 r3 r4 r5 r6 r7
        go_quiet (fail)
        go_upto_region 16 with fail
        refine wp_letW ?_
        intro W6 hW6
        have b6 : Below W5.heap.size W5 W6 := by rw [hW6]; exact below_drawn (Below.refl _ _) _
        clear hW6 KK0 KK1
        have hcall := rSameUnit_eq _ _ _ HXS.out _ _ W6.drew (keepsUn _ _ _ _ _ HP1.out (below_next HB5.out b6).drew) (keepsUn _ _ _ _ _ HP2.out (below_next HB5.out b6).drew)
        simp only at hcall
        have KK0 := HK.out W6 b6
        have KK1 := HK.out W6.drew b6.drew
        have HB6 := Lib.hid b6
        clear b6
        go_region_held3 (fun w' => w'.cell? ⟨x1, 0, none⟩ = some (.slice ua1 n1 uc1) ∧ w'.cell? ⟨x2, 0, none⟩ = some (.slice (some ⟨g', o', none⟩) n2 uc2) ∧ w'.cell? ⟨x3, 0, none⟩ = some (.slice (some ⟨g, o, none⟩) (n1 + n2) uc3) ∧ w'.cell? ⟨u, 0, none⟩ = some (.bool cn) ∧ w'.cell? ⟨u, 1, none⟩ = some (.string nm) ∧ w'.cell? ⟨u, 2, none⟩ = some (.slice ia il ic) ∧ w'.cell? ⟨u, 3, none⟩ = some (.string on) ∧ w'.cell? ⟨u, 4, none⟩ = some (.int .i64 ot) ∧ w'.cell? ⟨u, 5, none⟩ = some (.slice va vl vc) ∧ w'.cell? ⟨u, 6, none⟩ = some (.slice qa ql qc) ∧ w'.cell? ⟨u, 7, none⟩ = some (.slice xa xl xc) ∧ w'.cell? ⟨g', o' + y * 8, none⟩ = some (.bool cn) ∧ w'.cell? ⟨g', o' + y * 8 + 1, none⟩ = some (.string nm) ∧ w'.cell? ⟨g', o' + y * 8 + 2, none⟩ = some (.slice ia2 il ic2) ∧ w'.cell? ⟨g', o' + y * 8 + 3, none⟩ = some (.string on) ∧ w'.cell? ⟨g', o' + y * 8 + 4, none⟩ = some (.int .i64 ot) ∧ w'.cell? ⟨g', o' + y * 8 + 5, none⟩ = some (.slice va2 vl vc2) ∧ w'.cell? ⟨g', o' + y * 8 + 6, none⟩ = some (.slice qa2 ql qc2) ∧ w'.cell? ⟨g', o' + y * 8 + 7, none⟩ = some (.slice xa2 xl xc2))
          (with_reducible first | exact KK2 | exact KK1 | exact KK0 | exact HK.out _ (Below.drew B4))
          ((go_at_call 13; refine hcall.mono ?_; rintro r w4 ⟨rfl, hb4⟩; have B4 : Below W5.heap.size W5 w4 := below_next HB6.out (below_next ((Below.refl W6.heap.size W6).drew) hb4); have KK2 := HK.out w4 B4))
        go_wp2_with fail
        go_roundw
        case rel => exact ⟨t + 1, by go_num, by omega, below_next HBU.out (below_next HB5.out (by first | exact B4 | exact B4.drew | exact below_drawn B4 _))⟩
        case measure => simp [intOf]; omega
    · have hte : t = n1 + n2 := by omega
      have hl2 := HLV.out wr HBR.out
      have htn : ¬ (t : Int) < (n1 : Int) + (n2 : Int) := by omega
      clear hte
      go_wp2_with fail
      refine hl2.mono ?_
      rintro e w9 ⟨rfl, hb9⟩
      have HB9 := Lib.hid (below_next HBR.out hb9)
      clear hl2 hb9
      go_wp2_with fail
      go_ret
      exact ⟨rfl, HB9.out⟩
end Go.Proofs.YtahalimekacliaaGreatDoor
