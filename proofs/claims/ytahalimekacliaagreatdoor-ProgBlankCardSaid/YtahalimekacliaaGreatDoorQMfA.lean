/- What the law of MfA needs of its own. -/
import Derived.WalkKit
import Derived.WalkSpells
import Derived.Deep.Onto
import Derived.Deep.AppendLies
import Derived.Deep.Draws
import Derived.OwnWalk
import Derived.Test.YtahalimekacliaaGreatDoorProg
import Derived.Shelf.Abstract
import Derived.Lib.Strings
import Derived.WalkLawsBesides
import Derived.Outline
import Derived.Laws.EntriesVeiled
import Derived.Deep.RegionHeld3
import Derived.Deep.QuietTactic
import Derived.BigQuiet
import Derived.StillTailTactics
import Derived.RegionTactic
import Derived.Lib.Hide
import Derived.Deep.DeepCutAuto
import Derived.Deep.CutBlock
import Derived.Laws.MakeOwn
import Derived.Laws.OwnMore
import Derived.OneCell
import Derived.Maps.Own
import Derived.Lib.AtoiAll
import Derived.Lib.AtoiAllCases
import Derived.Shelf.Spec.SearchS
import Derived.Shelf.GgClosure.StringsIndexFunc
import Derived.Lib.SlBy
import Derived.Lib.SlTrimSet
import Derived.Lib.CutLaws
import Derived.Lib.IndexLaws
import Derived.Lib.IndexBytes
import Derived.Shelf.Strings.SlTrimAscii
import Derived.Shelf.Small.Utf8
import Derived.Shelf.Small.Strs
import Derived.Shelf.Strconv.Atoi
import Derived.Shelf.Strconv.Itoa0
import Derived.Shelf.Strconv.Itoa1
import Derived.Shelf.LaysM
import Derived.Shelf.Strconv.Itoa2
import Derived.Shelf.Strconv.Itoa3
import Derived.Shelf.Strconv.AtoiErrFast
import Derived.Shelf.Strconv.ParseIntEmpty
import Derived.Shelf.Strconv.AtoiFail
import Derived.Shelf.Strconv.Clone
import Derived.Shelf.Strconv.SyntaxError
import Derived.Shelf.LaysC
import Derived.Shelf.Strconv.ToError
import Derived.Shelf.Strconv.AtoiErr
import Derived.Shelf.Strconv.ErrVar
import Derived.Shelf.Strconv.Lower
import Derived.Shelf.Strconv.ParseUint10
import Derived.Shelf.Strconv.ParseUint10Empty
import Derived.Shelf.Strconv.ParseUint10Any
import Derived.Shelf.Strconv.ParseInt10
import Derived.Shelf.Strconv.AtoiLong
import Derived.Shelf.Strconv.AtoiInnerAll
import Derived.Shelf.Strconv.RangeError
import Derived.Shelf.Strconv.ToErrorRange
import Derived.Shelf.Strconv.AtoiAll
import Derived.Shelf.Strconv.ErrVarAll
import Derived.Shelf.Strconv.ParseUintEmpty
import Derived.Shelf.Strconv.ParseUint10b64
import Derived.Shelf.Strconv.ParseUint10b32
import Derived.Shelf.Strconv.ParseUint10b16
import Derived.Shelf.Strings.Search1
import Derived.Shelf.Strings.Search2
import Derived.Shelf.Strings.Cut
import Derived.Shelf.Strings.Shaped
import Derived.Ground.GgwProg
import Derived.Shelf.GgClosure.StringsIndexFuncTop
import Derived.Shelf.Strings.Prefix
import Derived.Shelf.Strings.Runes
import Derived.Shelf.Strings.AsciiSet
import Derived.Shelf.Unicode.DecodeSlow
import Derived.Ground.SlgfProg
import Derived.Shelf.SlicesE.IndexFunc
import Derived.Defers
import Derived.Test.YtahalimekacliaaGreatDoorRows
import Derived.Test.YtahalimekacliaaGreatDoorTie
import Derived.Lib.LaidU8
import Derived.SliceStrings
import Derived.HandedShaped
import Derived.ProofKit
import Derived.OpenShut
import Derived.Lay
import Derived.SevenTiedAt
import Derived.Deep.Slices
import Derived.Test.YtahalimekacliaaGreatDoorJ1
import Derived.Test.YtahalimekacliaaGreatDoorJ2
import Derived.Test.YtahalimekacliaaGreatDoorJ3
import Derived.Test.YtahalimekacliaaGreatDoorJ4
import Derived.Test.YtahalimekacliaaGreatDoorJ5
import Derived.Test.YtahalimekacliaaGreatDoorJ6
import Derived.Test.YtahalimekacliaaGreatDoorJ7
import Derived.Test.YtahalimekacliaaGreatDoorJ8
import Derived.Test.YtahalimekacliaaGreatDoorJ9
import Derived.Test.YtahalimekacliaaGreatDoorJ10
import Derived.Test.YtahalimekacliaaGreatDoorJ11
import Derived.Test.YtahalimekacliaaGreatDoorJ12
import Derived.Test.YtahalimekacliaaGreatDoorJ13
import Derived.Test.YtahalimekacliaaGreatDoorJ14
import Derived.Test.YtahalimekacliaaGreatDoorJ15
import Derived.Test.YtahalimekacliaaGreatDoorJ16
import Derived.Test.YtahalimekacliaaGreatDoorJ17
import Derived.Test.YtahalimekacliaaGreatDoorJ18
import Derived.Test.YtahalimekacliaaGreatDoorJ19
import Derived.Test.YtahalimekacliaaGreatDoorJ20
import Derived.Test.YtahalimekacliaaGreatDoorJ21
import Derived.Test.YtahalimekacliaaGreatDoorJ22
import Derived.Test.YtahalimekacliaaGreatDoorJ23
import Derived.Test.YtahalimekacliaaGreatDoorJ24
import Derived.Test.YtahalimekacliaaGreatDoorJ25
import Derived.Test.YtahalimekacliaaGreatDoorJ26
import Derived.Test.YtahalimekacliaaGreatDoorJ27
import Derived.Test.YtahalimekacliaaGreatDoorJ28
import Derived.Test.YtahalimekacliaaGreatDoorJ29
import Derived.Test.YtahalimekacliaaGreatDoorJ30
import Derived.Test.YtahalimekacliaaGreatDoorJ31
import Derived.Test.YtahalimekacliaaGreatDoorJ32
import Derived.Test.YtahalimekacliaaGreatDoorJ33
import Derived.Test.YtahalimekacliaaGreatDoorJ34
import Derived.Test.YtahalimekacliaaGreatDoorJ35
import Derived.Test.YtahalimekacliaaGreatDoorJ36
import Derived.Test.YtahalimekacliaaGreatDoorJ37
import Derived.Test.YtahalimekacliaaGreatDoorJ38
import Derived.Test.YtahalimekacliaaGreatDoorJ39
import Derived.Test.YtahalimekacliaaGreatDoorJ40
import Derived.Test.YtahalimekacliaaGreatDoorJ41
import Derived.Test.YtahalimekacliaaGreatDoorJ42
import Derived.Test.YtahalimekacliaaGreatDoorJ43
import Derived.Test.YtahalimekacliaaGreatDoorJ44
import Derived.Test.YtahalimekacliaaGreatDoorJ45
import Derived.Test.YtahalimekacliaaGreatDoorJ46
set_option linter.unusedVariables false
set_option linter.unusedSimpArgs false
namespace Go.Proofs.YtahalimekacliaaGreatDoor.Lx
structure Stop (c : UInt8) : Prop where
  pt : isPt c = false
  dg : isDig c = false
  sg : ∀ t ∈ signs, c ∉ t
  cm : c ≠ 45
theorem stop_blank {c : UInt8} (h : isBl c = true) : Stop c := by
  simp only [isBl, Bool.or_eq_true, beq_iff_eq] at h
  rcases h with ((rfl | rfl) | rfl) | rfl <;> exact ⟨by decide, by decide, by decide, by decide⟩
theorem takeWhile_stop {p : UInt8 → Bool} {c : UInt8} (h : p c = false) (u b : Bs) : (u ++ c :: b).takeWhile p = u.takeWhile p := by
  induction u with
  | nil => simp [h]
  | cons x u ih => simp only [List.cons_append, List.takeWhile_cons, ih]
theorem prefix_stop {t : Bs} {c : UInt8} : ∀ {u b : Bs}, c ∉ t → t.isPrefixOf (u ++ c :: b) = t.isPrefixOf u := by
  induction t with
  | nil => intro u b _; simp
  | cons x t ih =>
    intro u b h
    cases u with
    | nil => simp [List.isPrefixOf]; intro e; simp [e] at h
    | cons y u =>
      simp only [List.cons_append, List.isPrefixOf]
      rw [ih (by simp at h; exact h.2)]
theorem first_stop {c : UInt8} (h : Stop c) (u b : Bs) : first (u ++ c :: b) = first u := by
  unfold first
  rw [takeWhile_stop h.dg, takeWhile_stop h.pt]
  have e : signs.find? (·.isPrefixOf (u ++ c :: b)) = signs.find? (·.isPrefixOf u) := by
    have : ∀ l : List Bs, (∀ t ∈ l, c ∉ t) → l.find? (·.isPrefixOf (u ++ c :: b)) = l.find? (·.isPrefixOf u) := by
      intro l
      induction l with
      | nil => intro _; rfl
      | cons t l ih =>
        intro hl
        simp only [List.find?_cons]
        rw [prefix_stop (hl t (by simp)), ih fun t ht => hl t (by simp [ht])]
    exact this _ h.sg
  rw [e]
theorem com_stop {c : UInt8} (h : Stop c) (u b : Bs) : isCom (u ++ c :: b) = isCom u := prefix_stop (by simp; exact h.cm)
def join : List Bs → Bs
  | [] => []
  | [t] => t
  | t :: l => t ++ 32 :: join l
theorem lexS_join : ∀ (l : List R), (∀ x ∈ l, Is x.k x.t) → (lexS (join (l.map (·.t)))).2 = none ∧ (lexS (join (l.map (·.t)))).1.map (fun x => (x.k, x.t)) = l.map (fun x => (x.k, x.t))
  | [], _ => ⟨rfl, rfl⟩
  | [x], h => by
    have i := h x (by simp)
    simp only [List.map_cons, List.map_nil, join]
    rw [lexS_tok i.bl i.ne i.com i.self, List.drop_length, lexS_nil]
    exact ⟨rfl, rfl⟩
  | x :: y :: l, h => by
    have i := h x (by simp)
    obtain ⟨h1, h2⟩ := lexS_join (y :: l) fun z hz => h z (by simp only [List.mem_cons] at hz ⊢; exact Or.inr hz)
    have S := stop_blank (c := 32) (by decide)
    have e : join ((x :: y :: l).map (·.t)) = x.t ++ 32 :: join ((y :: l).map (·.t)) := rfl
    rw [e]
    have hbl : (x.t ++ 32 :: join ((y :: l).map (·.t))).dropWhile isBl = x.t ++ 32 :: join ((y :: l).map (·.t)) := by
      cases ht : x.t with
      | nil => exact absurd ht i.ne
      | cons c t => rw [List.cons_append, List.dropWhile_cons, if_neg (by simp [drop_fix i.bl ht])]
    rw [lexS_tok (k := x.k) (t := x.t) hbl (by simp) (by rw [com_stop S]; exact i.com) (by rw [first_stop S]; exact i.self)]
    rw [List.drop_left, lexS_blank (by decide)]
    exact ⟨h1, by rw [List.map_cons, h2]; rfl⟩
theorem join_length (l : List Bs) : (join l).length ≤ (l.map (fun t => t.length + 1)).sum := by
  induction l with
  | nil => simp [join]
  | cons t l ih =>
    cases l with
    | nil => simp [join]
    | cons y l => simp only [join, List.length_append, List.length_cons, List.map_cons, List.sum_cons] at ih ⊢; omega
theorem name_not_word {s : Bs} (h : isName s = true) : isWord s = false := by
  simp only [isName, Bool.and_eq_true, Bool.not_eq_true'] at h; exact h.2
end Go.Proofs.YtahalimekacliaaGreatDoor.Lx
namespace Go.Proofs.YtahalimekacliaaGreatDoor
end Go.Proofs.YtahalimekacliaaGreatDoor
namespace Go.Proofs.YtahalimekacliaaGreatDoor
open Go.RowKit Go.Shelf
namespace Lx
end Lx
theorem ret_string {a b : ByteArray} (h : a = b) : Ending.returned (.string a) = .returned (.string b) := by rw [h]
end Go.Proofs.YtahalimekacliaaGreatDoor
namespace Go.Proofs.YtahalimekacliaaGreatDoor
open Go.RowKit Go.Shelf Tx
theorem ndPart0 (u0 u1 u2 u3 u4 u5 : Value) (w : World) : (part 3 #[u0, u1, u2, u3, u4, u5] 0).run Tryz.prog w = .ok u0 w := by kernel_rfl
theorem ndPart1 (u0 u1 u2 u3 u4 u5 : Value) (w : World) : (part 3 #[u0, u1, u2, u3, u4, u5] 1).run Tryz.prog w = .ok u1 w := by kernel_rfl
theorem ndPart2 (u0 u1 u2 u3 u4 u5 : Value) (w : World) : (part 3 #[u0, u1, u2, u3, u4, u5] 2).run Tryz.prog w = .ok u2 w := by kernel_rfl
theorem ndPart3 (u0 u1 u2 u3 u4 u5 : Value) (w : World) : (part 3 #[u0, u1, u2, u3, u4, u5] 3).run Tryz.prog w = .ok u3 w := by kernel_rfl
theorem ndPart4 (u0 u1 u2 u3 u4 u5 : Value) (w : World) : (part 3 #[u0, u1, u2, u3, u4, u5] 4).run Tryz.prog w = .ok u4 w := by kernel_rfl
theorem ndPart5 (u0 u1 u2 u3 u4 u5 : Value) (w : World) : (part 9 #[u0, u1, u2, u3, u4, u5] 5).run Tryz.prog w = .ok u5 w := by kernel_rfl
theorem ndStood : Tryz.prog.stoodInHeld 86 = false := by kernel_rfl
set_option maxRecDepth 100000 in
theorem eqNd (x y : Nd) (w : World) : (Op.equalIn 10000 86 (ndV x) (ndV y)).run Tryz.prog w = .ok (decide (x = y)) w := by
  have hu := Tryz.underlying86
  have hf := fields_eq Tryz.underlying86
  have hi : ∀ (d : Nat) (p q : Int), (Op.equalIn (d + 1) 3 (.int .i64 p) (.int .i64 q)).run Tryz.prog w = .ok (p == q) w := fun d p q => run_equalIn_int w d _ _ _ p q Tryz.underlying3
  have hs : ∀ (d : Nat) (p q : ByteArray), (Op.equalIn (d + 1) 9 (.string p) (.string q)).run Tryz.prog w = .ok (decide (p = q)) w := fun d p q => by
    rw [run_equalIn_string w d _ p q Tryz.underlying9]
    congr 1
    rw [Bool.eq_iff_iff, beq_iff_eq, decide_eq_true_eq, Lib.toList_data, Lib.toList_data]
    exact ⟨bytes_ext, fun h => by rw [h]⟩
  obtain ⟨op, a, b, c, n, s⟩ := x
  obtain ⟨op', a', b', c', n', s'⟩ := y
  unfold ndV
  rw [run_equalIn_agg w 9999 _ _ _ (by rw [hf]; exact hu) ndStood, hf]
  simp only [Op.eqFields]
  have e : decide ((⟨op, a, b, c, n, s⟩ : Nd) = ⟨op', a', b', c', n', s'⟩) = ((op == op') && (a == a') && (b == b') && (c == c') && (n == n') && decide (s = s')) := by
    rw [Bool.eq_iff_iff]; simp [and_assoc]
  rw [e]
  cases h0 : (op == op') <;> cases h1 : (a == a') <;> cases h2 : (b == b') <;> cases h3 : (c == c') <;> cases h4 : (n == n') <;> cases h5 : decide (s = s') <;> simp [hi, hs, ndPart0, ndPart1, ndPart2, ndPart3, ndPart4, ndPart5, h0, h1, h2, h3, h4, h5, Result.andThen]
end Go.Proofs.YtahalimekacliaaGreatDoor
namespace Go.Proofs.YtahalimekacliaaGreatDoor
open Go.RowKit Go.Shelf Tx
theorem ret_bool' {a b : Bool} (h : a = b) : Ending.returned (.bool a) = .returned (.bool b) := by rw [h]
end Go.Proofs.YtahalimekacliaaGreatDoor
namespace Go.Proofs.YtahalimekacliaaGreatDoor
open Go.RowKit Go.Shelf Tx
set_option maxRecDepth 100000 in
set_option maxHeartbeats 4000000 in
theorem Same_any (e f : List Nd) (u v : Value) (w : World) (he : e.length ≤ 1000000000) (hf : f.length ≤ 1000000000) (hu : IsE w u e) (hv : IsE w v f) :
    Calls Tryz.prog 25 #[u, v] w fun r w' => r = .returned (.bool (decide (e = f))) ∧ ∃ k, w' = w.drewN k := by
  obtain ⟨a, c, rfl, hc, hx⟩ := hu.form
  obtain ⟨a2, c2, rfl, hc2, hx2⟩ := hv.form
  obtain ⟨n, hn⟩ : ∃ n, n = e.length := ⟨_, rfl⟩
  obtain ⟨m, hm⟩ : ∃ m, m = f.length := ⟨_, rfl⟩
  have HX := Lib.hid hx
  have HX2 := Lib.hid hx2
  rw [← hn] at he hc ⊢
  rw [← hm] at hf hc2 ⊢
  have HN := Lib.hid hn
  have HM := Lib.hid hm
  clear hu hv hx hx2 hn hm
  by_cases hl : n = m
  · subst hl
    have e0 : ((n : Int) != (n : Int)) = false := by simp
    go_enter Tryz.func25, Tryz.ntmps25
    go_wp2_with fail
    go_loopw [5] (fun i wr => ∃ t : Nat, i = .int .i64 t ∧ t ≤ n ∧ (∀ j, j < t → e[j]? = f[j]?) ∧ ∃ k, wr = w.drewN k) (fun i _ => n - (intOf i).toNat)
    case atStart => exact ⟨0, rfl, Nat.zero_le _, fun j h => by omega, 0, rfl⟩
    case round =>
      obtain ⟨t, rfl, ht, hok, k, hk⟩ := hrel
      by_cases hlt : t < n
      · obtain ⟨x, hx⟩ : ∃ x, e[t]? = some x := ⟨_, List.getElem?_eq_getElem (by have := HN.out; omega)⟩
        obtain ⟨y, hy⟩ : ∃ y, f[t]? = some y := ⟨_, List.getElem?_eq_getElem (by have := HM.out; omega)⟩
        have hbw : Below w.heap.size w wr := by rw [hk]; exact below_drawn (Below.refl _ _) k
        have hbd : Below w.heap.size w wr.drew := hbw.drew
        obtain ⟨b, o, rfl, hcell⟩ := HX.out _ hbd t x hx
        obtain ⟨c0, c1, c2, c3, c4, c5⟩ := nd_cells hcell
        obtain ⟨b2, o2, rfl, hcell2⟩ := HX2.out _ hbd t y hy
        obtain ⟨d0, d1, d2, d3, d4, d5⟩ := nd_cells hcell2
        obtain ⟨q, hq⟩ : ∃ q, q = decide (x = y) := ⟨_, rfl⟩
        have HEQ : ∀ W, (Op.equalIn 10000 86 (.agg #[.int .i64 x.op, .int .i64 x.a, .int .i64 x.b, .int .i64 x.c, .int .i64 x.n, .string x.s]) (.agg #[.int .i64 y.op, .int .i64 y.a, .int .i64 y.b, .int .i64 y.c, .int .i64 y.n, .string y.s])).run Tryz.prog W = .ok q W := fun W => by rw [hq]; exact eqNd x y W
        have HXX := Lib.hid hx
        have HYY := Lib.hid hy
        have HQ := Lib.hid hq
        have HOK := Lib.hid hok
        have HK := Lib.hid hk
        have htn : (t : Int) < (n : Int) := by omega
        have ht0 : (0 : Int) ≤ (t : Int) := by omega
        clear hx hy hq hok hk hcell hcell2 hbw hbd
        cases q
        · have HF : Hid (decide (e = f) = false) := by
            show _ = _
            rw [decide_eq_false_iff_not]
            intro h
            have h1 := HXX.out
            rw [h, HYY.out] at h1
            have h2 := HQ.out
            rw [Option.some.inj h1] at h2
            simp at h2
          go_wp2_with fail
          go_region
          all_goals
            go_wp2_with fail
            go_ret
            exact ⟨ret_bool' HF.out.symm, k + 1, by rw [HK.out]; rfl⟩
        · have HALL : Hid (∀ j, j < t + 1 → e[j]? = f[j]?) := fun j hj => by
            by_cases h : j = t
            · subst h
              rw [HXX.out, HYY.out]
              have := HQ.out
              rw [of_decide_eq_true this.symm]
            · exact HOK.out j (by omega)
          go_wp2_with fail
          go_region
          all_goals
            go_wp2_with fail
            go_roundw
            case rel => exact ⟨t + 1, by go_num, by omega, HALL.out, k + 1, by rw [HK.out]; rfl⟩
            case measure => simp [intOf]; omega
      · have hte : t = n := by omega
        subst hte
        have HF : Hid (decide (e = f) = true) := by
          show _ = _
          rw [decide_eq_true_iff]
          apply List.ext_getElem?
          intro j
          rcases Nat.lt_or_ge j t with h | h
          · exact hok j h
          · rw [List.getElem?_eq_none (by have := HN.out; omega), List.getElem?_eq_none (by have := HM.out; omega)]
        have HK := Lib.hid hk
        clear hok hk
        go_wp2_with fail
        go_ret
        exact ⟨ret_bool' HF.out.symm, k, HK.out⟩
  · have e0 : ((n : Int) != (m : Int)) = true := by rw [bne_iff_ne]; omega
    have HF : Hid (decide (e = f) = false) := by
      show _ = _
      rw [decide_eq_false_iff_not]
      intro h
      exact hl (by rw [HN.out, HM.out, h])
    clear hl
    go_enter Tryz.func25, Tryz.ntmps25
    go_wp2_with fail
    go_ret
    exact ⟨ret_bool' HF.out.symm, 0, rfl⟩
end Go.Proofs.YtahalimekacliaaGreatDoor
namespace Go.Proofs.YtahalimekacliaaGreatDoor.Fx
def joinW : List Bs → Bs
  | [] => []
  | [w] => w
  | w :: l => w ++ 32 :: joinW l
theorem join_snoc (l : List Bs) (w : Bs) : joinW (l ++ [w]) = if l = [] then w else joinW l ++ 32 :: w := by
  induction l with
  | nil => rfl
  | cons a l ih =>
    cases l with
    | nil => simp [joinW]
    | cons b l =>
      have e2 : ∀ m : List Bs, m ≠ [] → joinW (a :: m) = a ++ 32 :: joinW m := by
        intro m hm
        cases m with
        | nil => exact absurd rfl hm
        | cons _ _ => rfl
      show joinW (a :: ((b :: l) ++ [w])) = _
      rw [e2 _ (by simp), ih, if_neg (by simp), if_neg (by simp), e2 (b :: l) (by simp)]
      simp
theorem val_snoc (l : Bs) (c : UInt8) : val (l ++ [c]) = 10 * val l + (c.toNat - 48) := by simp [val, List.foldl_append]
end Go.Proofs.YtahalimekacliaaGreatDoor.Fx
namespace Go.Proofs.YtahalimekacliaaGreatDoor
open Go.RowKit Go.Shelf
def wordC (l : Lx.Bs) : Value := .string ⟨l.toArray⟩
theorem Words_any (w : World) : Calls Tryz.prog 72 #[] w fun e w' => ∃ b c, e = .returned (.slice (some ⟨b, 0, none⟩) 35 c) ∧ Below w.heap.size w w' ∧ ∀ j x, Lx.words[j]? = some x → w'.cell? ⟨b, j, none⟩ = some (wordC x) := by
  have hc : ∀ j x, Lx.words[j]? = some x → (w.alloc (.cells (Lx.words.map wordC).toArray 9)).cell? ⟨w.heap.size, j, none⟩ = some (wordC x) := by
    intro j x h
    rw [cell_of_row _ _ j _ _ _ (heap_alloc_new w _)]
    simp [h]
  go_enter Tryz.func72, Tryz.ntmps72
  go_wp2_with fail
  go_ret
  exact ⟨_, _, rfl, (Below.refl _ _).alloc (Nat.le_refl _) _, hc⟩
theorem Signs_any (w : World) : Calls Tryz.prog 48 #[] w fun e w' => ∃ b c, e = .returned (.slice (some ⟨b, 0, none⟩) 16 c) ∧ Below w.heap.size w w' ∧ ∀ j x, Lx.signs[j]? = some x → w'.cell? ⟨b, j, none⟩ = some (wordC x) := by
  have hc : ∀ j x, Lx.signs[j]? = some x → (w.alloc (.cells (Lx.signs.map wordC).toArray 9)).cell? ⟨w.heap.size, j, none⟩ = some (wordC x) := by
    intro j x h
    rw [cell_of_row _ _ j _ _ _ (heap_alloc_new w _)]
    simp [h]
  go_enter Tryz.func48, Tryz.ntmps48
  go_wp2_with fail
  go_ret
  exact ⟨_, _, rfl, (Below.refl _ _).alloc (Nat.le_refl _) _, hc⟩
theorem contains_take (l : List Lx.Bs) (k : Nat) (x s : Lx.Bs) (h : l[k]? = some x) : (l.take (k + 1)).contains s = ((l.take k).contains s || x == s) := by
  rw [List.take_add_one, h]
  simp only [Option.toList_some]
  rw [Bool.eq_iff_iff]
  simp only [List.contains_iff_mem, List.mem_append, List.mem_singleton, Bool.or_eq_true, beq_iff_eq]
  constructor
  · rintro (h | h)
    · exact Or.inl h
    · exact Or.inr h.symm
  · rintro (h | h)
    · exact Or.inl h
    · exact Or.inr h.symm
set_option maxHeartbeats 400000 in
theorem rIsWord_any (s : ByteArray) (w : World) :
    Calls Tryz.prog 46 #[.string s] w fun e w' => e = .returned (.bool (Lx.isWord s.data.toList)) ∧ Below w.heap.size w w' := by
  go_enter Tryz.func46, Tryz.ntmps46
  go_wp2_with fail
  refine (Words_any w).mono ?_
  rintro e w1 ⟨b, c, rfl, hb1, hc1⟩
  go_wp2_with fail
  go_loopw [4] (fun i wr => ∃ k : Nat, k ≤ 35 ∧ i = .int .i64 k ∧ (Lx.words.take k).contains s.data.toList = false ∧ wr = w1) (fun i _ => 35 - (intOf i).toNat)
  case atStart => exact ⟨0, Nat.zero_le _, rfl, rfl, rfl⟩
  case round =>
    obtain ⟨k, hk, rfl, hno, hB⟩ := hrel
    subst hB
    by_cases hlt : k < 35
    · obtain ⟨x, hx⟩ : ∃ x, Lx.words[k]? = some x := ⟨_, List.getElem?_eq_getElem hlt⟩
      have hc := hc1 k x hx
      unfold wordC at hc
      obtain ⟨y, hy⟩ : ∃ y : ByteArray, y = ⟨x.toArray⟩ := ⟨_, rfl⟩
      rw [← hy] at hc
      have hyl : y.data.toList = x := by rw [hy]
      have HT := contains_take Lx.words k x s.data.toList hx
      rw [hno, Bool.false_or] at HT
      have HW : Hid (x ∈ Lx.words) := List.mem_of_getElem? hx
      have hk2 : (k : Int) < 35 := by omega
      by_cases heq : y.toList = s.toList
      · have HF : Hid (Lx.isWord s.data.toList = true) := by
          show _ = _
          unfold Lx.isWord
          rw [List.contains_iff_mem, ← Lib.toList_data, ← heq, Lib.toList_data, hyl]; exact HW.out
        clear hc1 hx hy hyl HT hno
        go_wp2_with fail
        go_ret
        exact ⟨ret_bool HF.out.symm, hb1⟩
      · have HF : Hid ((Lx.words.take (k + 1)).contains s.data.toList = false) := by
          show _ = _
          rw [HT, beq_eq_false_iff_ne, ← hyl, ← Lib.toList_data, ← Lib.toList_data]; exact heq
        have hne : (y.toList == s.toList) = false := by simp [heq]
        clear hc1 hx hy hyl HT hno
        go_wp2_with fail
        go_roundw
        case rel => exact ⟨k + 1, by omega, by go_num, HF.out, by trivial⟩
        case measure => simp [intOf]; omega
    · have hke : k = 35 := by omega
      subst hke
      have HF : Hid (Lx.isWord s.data.toList = false) := hno
      clear hno hc1
      go_wp2_with fail
      go_ret
      exact ⟨ret_bool HF.out.symm, hb1⟩
theorem rdigit_any (c : UInt8) (w : World) :
    Calls Tryz.prog 27 #[.int .u8 c.toNat] w fun e w' => e = .returned (.bool (Lx.isDig c)) ∧ w' = w := by
  have h := digN_byte c
  unfold digN at h
  go_enter Tryz.func27, Tryz.ntmps27
  go_wp2_with fail
  all_goals
    go_ret
    exact ⟨ret_bool (by rw [← digN_byte, Bool.eq_iff_iff]; simp [digN]; omega), rfl⟩
theorem rletter_any (c : UInt8) (w : World) :
    Calls Tryz.prog 29 #[.int .u8 c.toNat] w fun e w' => e = .returned (.bool (Lx.isLet c)) ∧ w' = w := by
  by_cases h1 : (97 : Int) ≤ (c.toNat : Int)
  · by_cases h2 : (c.toNat : Int) ≤ 122
    · go_enter Tryz.func29, Tryz.ntmps29
      go_wp2_with fail
      all_goals
        go_ret
        exact ⟨ret_bool (by rw [← letN_byte, Bool.eq_iff_iff]; simp [letN]; omega), rfl⟩
    · go_enter Tryz.func29, Tryz.ntmps29
      go_wp2_with fail
      all_goals
        go_ret
        exact ⟨ret_bool (by rw [← letN_byte, Bool.eq_iff_iff]; simp [letN]; omega), rfl⟩
  · go_enter Tryz.func29, Tryz.ntmps29
    go_wp2_with fail
    all_goals
      go_ret
      exact ⟨ret_bool (by rw [← letN_byte, Bool.eq_iff_iff]; simp [letN]; omega), rfl⟩
end Go.Proofs.YtahalimekacliaaGreatDoor
namespace Go.Proofs.YtahalimekacliaaGreatDoor
open Go.RowKit Go.Shelf
namespace Lx
theorem let_not_dig {c : UInt8} (h : isLet c = true) : isDig c = false := by
  simp only [isLet, isDig, Bool.or_eq_true, Bool.and_eq_true, decide_eq_true_eq, beq_iff_eq, UInt8.le_iff_toNat_le] at h ⊢
  rw [Bool.eq_false_iff]
  simp only [ne_eq, Bool.and_eq_true, decide_eq_true_eq]
  rcases h with h | rfl
  · have h2 : (97 : UInt8).toNat = 97 := rfl
    have h3 : (57 : UInt8).toNat = 57 := rfl
    omega
  · decide
theorem name_ref {t : Bs} (h1 : t ≠ []) (h2 : t.length ≤ 40) (h3 : isLet (t.headD 0) = true) (h4 : isWord t = false) : isName t = t.all isPt := by
  unfold isName
  have e1 : t.isEmpty = false := by cases t with | nil => exact absurd rfl h1 | cons _ _ => rfl
  simp only [e1, decide_eq_true h2, let_not_dig h3, h4, Bool.not_false, Bool.true_and, Bool.and_true]
theorem name_ref_no {t : Bs} (h1 : t ≠ []) (h3 : isLet (t.headD 0) = false) : isName t = false := by
  cases t with
  | nil => exact absurd rfl h1
  | cons c r =>
    simp only [List.headD_cons] at h3
    unfold isName
    cases hd : isDig c <;> simp [isPt, h3, hd]
theorem all_take {p : UInt8 → Bool} (l : Bs) (k : Nat) (c : UInt8) (h : l[k]? = some c) : (l.take (k + 1)).all p = ((l.take k).all p && p c) := by
  rw [List.take_add_one, h]; simp [List.all_append]
theorem all_no {p : UInt8 → Bool} (l : Bs) (k : Nat) (c : UInt8) (h : l[k]? = some c) (hp : p c = false) : l.all p = false := by
  rw [Bool.eq_false_iff]; intro q
  have := List.all_eq_true.1 q c (List.mem_of_getElem? h)
  rw [hp] at this; cases this
theorem val_snoc (l : Bs) (c : UInt8) : val (l ++ [c]) = 10 * val l + (c.toNat - 48) := by simp [val, List.foldl_append]
theorem val_take (l : Bs) (k : Nat) (c : UInt8) (h : l[k]? = some c) : val (l.take (k + 1)) = 10 * val (l.take k) + (c.toNat - 48) := by
  rw [List.take_add_one, h]; exact val_snoc _ _
theorem fold_ge : ∀ (b : Bs) (n : Nat), n * 10 ^ b.length ≤ b.foldl (fun n c => 10 * n + (c.toNat - 48)) n
  | [], n => by simp
  | c :: b, n => by
    have := fold_ge b (10 * n + (c.toNat - 48))
    rw [List.foldl_cons, List.length_cons, Nat.pow_succ]
    refine Nat.le_trans ?_ this
    rw [Nat.mul_comm (10 ^ _), ← Nat.mul_assoc]
    exact Nat.mul_le_mul_right _ (by omega)
theorem val_mono (a b : Bs) : val a ≤ val (a ++ b) := by
  unfold val
  rw [List.foldl_append]
  refine Nat.le_trans ?_ (fold_ge b _)
  exact Nat.le_mul_of_pos_right _ (Nat.pow_pos (by omega))
theorem val_take_le (l : Bs) (k : Nat) : val (l.take k) ≤ val l := by
  have := val_mono (l.take k) (l.drop k)
  rwa [List.take_append_drop] at this
theorem val_big (c : UInt8) (r : Bs) (h : 49 ≤ c.toNat) : 10 ^ r.length ≤ val (c :: r) := by
  unfold val
  rw [List.foldl_cons]
  refine Nat.le_trans ?_ (fold_ge r _)
  exact Nat.le_mul_of_pos_left _ (by omega)
theorem tooBig_ref (d : Bs) (hd : d.all isDig = true) (hn : d ≠ []) : tooBig d = true ↔ (1 < d.length ∧ d.headD 0 = 48) ∨ 2147483647 < val d := by
  unfold tooBig
  simp only [Bool.or_eq_true, decide_eq_true_eq, Bool.and_eq_true, beq_iff_eq]
  constructor
  · rintro ((h | h) | h)
    · cases d with
      | nil => exact absurd rfl hn
      | cons c r =>
        by_cases h48 : c = 48
        · exact Or.inl ⟨by omega, by simpa using h48⟩
        · refine Or.inr ?_
          simp only [List.all_cons, Bool.and_eq_true] at hd
          have hc := dig_nat hd.1
          have h2 : c.toNat ≠ 48 := fun q => h48 (by rw [← UInt8.toNat_inj]; exact q)
          have h3 := val_big c r (by omega)
          have h4 : 10 ^ 10 ≤ 10 ^ r.length := Nat.pow_le_pow_right (by omega) (by simp at h; omega)
          omega
    · exact Or.inr h
    · exact Or.inl h
  · rintro (h | h)
    · exact Or.inr h
    · exact Or.inl (Or.inr h)
end Lx
theorem byte_at (s : ByteArray) (k : Nat) (h : k < s.size) : s.data.toList[k]? = some s[k] := by
  rw [List.getElem?_eq_getElem (by rw [size_toList]; exact h)]; rfl
set_option maxHeartbeats 1000000 in
theorem rIsName_any (s : ByteArray) (w : World) :
    Calls Tryz.prog 47 #[.string s] w fun e w' => e = .returned (.bool (Lx.isName s.data.toList)) ∧ Below w.heap.size w w' := by
  by_cases he : s.toList = []
  · have HF : Hid (Lx.isName s.data.toList = false) := by
      show _ = _
      rw [← Lib.toList_data, he]; rfl
    have he2 : s.toList.isEmpty = true := by simp [he]
    go_enter Tryz.func47, Tryz.ntmps47
    go_wp2_with fail
    go_ret
    exact ⟨ret_bool HF.out.symm, Below.refl _ _⟩
  have he2 : s.toList.isEmpty = false := by simp [he]
  have HE : Hid (s.data.toList ≠ []) := by rw [Lib.toList_data] at he; exact he
  have hpos : 0 < s.size := by rw [← size_toList]; exact List.length_pos_iff.2 HE.out
  by_cases hl : 40 < s.size
  · have HF : Hid (Lx.isName s.data.toList = false) := by
      show _ = _
      unfold Lx.isName
      rw [size_toList]
      have : decide (s.size ≤ 40) = false := by simp; omega
      rw [this]; simp
    go_enter Tryz.func47, Tryz.ntmps47
    go_wp2_with fail
    go_ret
    exact ⟨ret_bool HF.out.symm, Below.refl _ _⟩
  have hl2 : s.size ≤ 40 := by omega
  have hb0 := headD_byte s hpos
  obtain ⟨b1, hb1⟩ : ∃ b, b = Lx.isLet (s.data.toList.headD 0) := ⟨_, rfl⟩
  have c1 := rletter_any s[0] w
  rw [← hb0, ← hb1] at c1
  have H1 : Hid (Lx.isLet (s.data.toList.headD 0) = b1) := hb1.symm
  rw [hb0] at c1
  clear hb0 hb1 hl
  go_enter Tryz.func47, Tryz.ntmps47
  go_wp2_with fail
  refine c1.mono ?_
  rintro e w1 ⟨rfl, hW⟩
  subst hW
  clear c1
  cases b1
  · go_wp2_with fail
    go_ret
    exact ⟨ret_bool (Lx.name_ref_no HE.out H1.out).symm, Below.refl _ _⟩
  · go_wp2_with fail
    refine (rIsWord_any s w1).mono ?_
    rintro e w2 ⟨rfl, hb2⟩
    obtain ⟨b2, hb2'⟩ : ∃ b, b = Lx.isWord s.data.toList := ⟨_, rfl⟩
    rw [← hb2']
    have H2 : Hid (Lx.isWord s.data.toList = b2) := hb2'.symm
    clear hb2'
    cases b2
    · have HN : Hid (Lx.isName s.data.toList = s.data.toList.all Lx.isPt) := Lx.name_ref HE.out (by rw [size_toList]; omega) H1.out H2.out
      go_wp2_with fail
      go_loopw [3] (fun i wr => ∃ k : Nat, k ≤ s.size ∧ i = .int .i64 k ∧ (s.data.toList.take k).all Lx.isPt = true ∧ wr = w2) (fun i _ => s.size - (intOf i).toNat)
      case atStart => exact ⟨0, Nat.zero_le _, rfl, rfl, rfl⟩
      case round =>
        obtain ⟨k, hk, rfl, hall, hB⟩ := hrel
        subst hB
        by_cases hlt : k < s.size
        · have HA : Hid ((s.data.toList.take k).all Lx.isPt = true) := hall
          have HK : Hid (s.data.toList[k]? = some s[k]) := byte_at s k hlt
          have hk2 : (k : Int) < (s.size : Int) := by omega
          have c3 := rletter_any s[k] wr
          have c4 := rdigit_any s[k] wr
          obtain ⟨b3, hb3⟩ : ∃ b, b = Lx.isLet s[k] := ⟨_, rfl⟩
          obtain ⟨b4, hb4⟩ : ∃ b, b = Lx.isDig s[k] := ⟨_, rfl⟩
          rw [← hb3] at c3
          rw [← hb4] at c4
          have HP : Hid (Lx.isPt s[k] = (b3 || b4)) := by show _ = _; unfold Lx.isPt; rw [hb3, hb4]
          clear hb3 hb4 hall
          cases b3
          · go_wp2_with fail
            refine c3.mono ?_
            rintro e w5 ⟨rfl, hW⟩
            subst hW
            go_wp2_with fail
            refine c4.mono ?_
            rintro e w5 ⟨rfl, hW⟩
            subst hW
            clear c3 c4
            cases b4
            · go_wp2_with fail
              go_ret
              exact ⟨ret_bool (by rw [HN.out, Lx.all_no _ k _ HK.out (by rw [HP.out]; rfl)]), hb2⟩
            · have HF : Hid ((s.data.toList.take (k + 1)).all Lx.isPt = true) := by show _ = _; rw [Lx.all_take _ k _ HK.out, HA.out, HP.out]; rfl
              go_wp2_with fail
              go_roundw
              case rel => exact ⟨k + 1, by omega, by go_num, HF.out, by trivial⟩
              case measure => simp [intOf]; omega
          · have HF : Hid ((s.data.toList.take (k + 1)).all Lx.isPt = true) := by show _ = _; rw [Lx.all_take _ k _ HK.out, HA.out, HP.out]; rfl
            go_wp2_with fail
            refine c3.mono ?_
            rintro e w5 ⟨rfl, hW⟩
            subst hW
            clear c3 c4
            go_wp2_with fail
            go_roundw
            case rel => exact ⟨k + 1, by omega, by go_num, HF.out, by trivial⟩
            case measure => simp [intOf]; omega
        · have hke : k = s.size := by omega
          have HF : Hid (Lx.isName s.data.toList = true) := by
            show _ = _
            rw [HN.out, ← hall, hke, List.take_of_length_le (by rw [size_toList]; omega)]
          clear hall
          subst hke
          go_wp2_with fail
          go_ret
          exact ⟨ret_bool HF.out.symm, hb2⟩
    · have HF : Hid (Lx.isName s.data.toList = false) := by
        show _ = _
        cases h : Lx.isName s.data.toList with
        | false => rfl
        | true => have := Lx.name_not_word h; rw [H2.out] at this; cases this
      go_wp2_with fail
      go_ret
      exact ⟨ret_bool HF.out.symm, hb2⟩
def ValPost (d : ByteArray) (w : World) (e : Ending) (w' : World) : Prop := ∃ n : Nat, e = .returned (.int .i64 n) ∧ (2147483647 < n ↔ 2147483647 < Lx.val d.data.toList) ∧ (n ≤ 2147483647 → n = Lx.val d.data.toList) ∧ w' = w
set_option maxHeartbeats 1000000 in
theorem rValue_any (s : ByteArray) (hd : s.data.toList.all Lx.isDig = true) (hs : s.size ≤ 100000) (w : World) :
    Calls Tryz.prog 28 #[.string s] w (ValPost s w) := by
  have HD : Hid (s.data.toList.all Lx.isDig = true) := hd
  clear hd
  go_enter Tryz.func28, Tryz.ntmps28
  go_wp2_with fail
  go_loopw [3, 4] (fun n i wr => ∃ k : Nat, k ≤ s.size ∧ i = .int .i64 k ∧ n = .int .i64 (Lx.val (s.data.toList.take k) : Nat) ∧ Lx.val (s.data.toList.take k) ≤ 21474836479 ∧ wr = w) (fun _ i _ => s.size - (intOf i).toNat)
  case atStart => exact ⟨0, Nat.zero_le _, rfl, rfl, by simp [Lx.val], rfl⟩
  case round =>
    obtain ⟨k, hk, rfl, rfl, hle, hB⟩ := hrel
    subst hB
    have hmono := Lx.val_take_le s.data.toList k
    obtain ⟨n, hn⟩ : ∃ n, n = Lx.val (s.data.toList.take k) := ⟨_, rfl⟩
    rw [← hn] at hle hmono ⊢
    have HNN : Hid (n = Lx.val (s.data.toList.take k)) := hn
    have HM : Hid (n ≤ Lx.val s.data.toList) := hmono
    clear hn hmono
    by_cases hlt : k < s.size
    · by_cases hbig : n ≤ 2147483647
      · have HK : Hid (s.data.toList[k]? = some s[k]) := byte_at s k hlt
        have hdk := Lx.dig_nat (List.all_eq_true.1 HD.out s[k] (List.mem_of_getElem? HK.out))
        have hk2 : (k : Int) < (s.size : Int) := by omega
        have hn2 : (n : Int) ≤ 2147483647 := by omega
        have HV : Hid (Lx.val (s.data.toList.take (k + 1)) = 10 * n + (s[k].toNat - 48)) := by show _ = _; rw [Lx.val_take _ k _ HK.out, ← HNN.out]
        obtain ⟨q, hq⟩ : ∃ q, s[k].toNat = q + 48 := ⟨s[k].toNat - 48, by omega⟩
        have hq9 : q ≤ 9 := by omega
        have HQ : Hid (s[k].toNat = q + 48) := hq
        go_wp2_with fail
        go_roundw
        case rel =>
          have e : Lx.val (s.data.toList.take (k + 1)) = 10 * n + q := by rw [HV.out, HQ.out]; omega
          exact ⟨k + 1, by omega, by go_num, by rw [e]; go_num, by omega, by trivial⟩
        case measure => simp [intOf]; omega
      · have hn2 : (2147483647 : Int) < (n : Int) := by omega
        have hk2 : (k : Int) < (s.size : Int) := by omega
        go_wp2_with fail
        go_ret
        exact ⟨n, rfl, ⟨fun _ => by have := HM.out; omega, fun _ => by omega⟩, fun h => by omega, rfl⟩
    · have hke : k = s.size := by omega
      have HF : Hid (n = Lx.val s.data.toList) := by
        show _ = _
        rw [HNN.out, hke, List.take_of_length_le (by rw [size_toList]; omega)]
      subst hke
      go_wp2_with fail
      go_ret
      exact ⟨n, rfl, by rw [HF.out], fun _ => HF.out, rfl⟩
end Go.Proofs.YtahalimekacliaaGreatDoor
namespace Go.Proofs.YtahalimekacliaaGreatDoor
open Go.RowKit Go.Shelf
namespace Lx
def signOf (r : Bs) : Bs := match signs.find? (·.isPrefixOf r) with
  | some t => t
  | none => []
theorem find_take (l : List Bs) (p : Bs → Bool) (k : Nat) (x : Bs) (h : l[k]? = some x) (hno : (l.take k).find? p = none) : (p x = true → l.find? p = some x) ∧ (p x = false → (l.take (k + 1)).find? p = none) := by
  have hk := (List.getElem?_eq_some_iff.1 h).1
  constructor
  · intro hp
    have e : l = l.take k ++ x :: l.drop (k + 1) := by
      conv => lhs; rw [← List.take_append_drop k l]
      rw [List.drop_eq_getElem_cons hk]
      congr 2
      rw [List.getElem?_eq_getElem hk] at h
      exact Option.some.inj h
    rw [e, List.find?_append, hno]
    simp [hp]
  · intro hp
    rw [List.take_add_one, h, List.find?_append, hno]
    simp [hp]
end Lx
theorem pre_iff (s y : ByteArray) (_h : y.size ≤ s.size) : ((s.extract 0 y.size).toList = y.toList) ↔ y.data.toList.isPrefixOf s.data.toList = true := by
  rw [Lib.toList_data, Lib.toList_data, extract_take, List.isPrefixOf_iff_prefix, List.prefix_iff_eq_take, size_toList]
  exact ⟨fun h => h.symm, fun h => h.symm⟩
set_option maxHeartbeats 1000000 in
theorem rsign_any (s : ByteArray) (_hs : s.size ≤ 100000) (w : World) :
    Calls Tryz.prog 31 #[.string s] w fun e w' => e = .returned (.string ⟨(Lx.signOf s.data.toList).toArray⟩) ∧ Below w.heap.size w w' := by
  go_enter Tryz.func31, Tryz.ntmps31
  go_wp2_with fail
  refine (Signs_any w).mono ?_
  rintro e w1 ⟨b, c, rfl, hb1, hc1⟩
  go_wp2_with fail
  go_loopw [4] (fun i wr => ∃ k : Nat, k ≤ 16 ∧ i = .int .i64 k ∧ (Lx.signs.take k).find? (·.isPrefixOf s.data.toList) = none ∧ ∃ q, wr = w1.drewN q) (fun i _ => 16 - (intOf i).toNat)
  case atStart => exact ⟨0, Nat.zero_le _, rfl, rfl, 0, rfl⟩
  case round =>
    obtain ⟨k, hk, rfl, hno, q, rfl⟩ := hrel
    by_cases hlt : k < 16
    · obtain ⟨x, hx⟩ : ∃ x, Lx.signs[k]? = some x := ⟨_, List.getElem?_eq_getElem hlt⟩
      have hc := hc1 k x hx
      unfold wordC at hc
      obtain ⟨y, hy⟩ : ∃ y : ByteArray, y = ⟨x.toArray⟩ := ⟨_, rfl⟩
      rw [← hy] at hc
      have hyl : y.data.toList = x := by rw [hy]
      have HT : Hid _ := Lx.find_take Lx.signs (·.isPrefixOf s.data.toList) k x hx hno
      have hxl := (Lx.signs_ne x (List.mem_of_getElem? hx)).2.1
      have hysz : y.size ≤ 2 := by rw [← size_toList, hyl]; exact hxl
      have hk0 : (0 : Int) ≤ (k : Int) := by omega
      have hk2 : (k : Int) < 16 := by omega
      by_cases hsz : y.size ≤ s.size
      · have hs1 : decide ((y.size : Int) ≤ (s.size : Int)) = true := by simp; omega
        have hs2 : (y.size : Int) ≤ (s.size : Int) := by omega
        have HP : Hid _ := pre_iff s y hsz
        by_cases heq : (s.extract 0 y.size).toList = y.toList
        · have HF : Hid (Lx.signOf s.data.toList = y.data.toList) := by
            show _ = _
            have := HT.out.1 (by rw [← hyl]; exact HP.out.1 heq)
            unfold Lx.signOf; rw [this, hyl]
          have heq2 : ((s.extract 0 y.size).toList == y.toList) = true := by simp [heq]
          clear hc1 hx hy hyl hno hxl
          go_wp2_with fail
          go_quiet (fail)
          go_wp2_with fail
          go_ret
          exact ⟨ret_string (by rw [HF.out]), below_drawn hb1 _⟩
        · have HF : Hid ((Lx.signs.take (k + 1)).find? (·.isPrefixOf s.data.toList) = none) := by
            show _ = _
            refine HT.out.2 ?_
            rw [← hyl, ← Bool.not_eq_true, ← HP.out]; exact heq
          have heq2 : ((s.extract 0 y.size).toList == y.toList) = false := by simp [heq]
          clear hc1 hx hy hyl hno hxl
          go_wp2_with fail
          go_quiet (fail)
          go_wp2_with fail
          go_roundw
          case rel => exact ⟨k + 1, by omega, by go_num, HF.out, _, rfl⟩
          case measure => simp [intOf]; omega
      · have hs1 : decide ((y.size : Int) ≤ (s.size : Int)) = false := by simp; omega
        have hs2 : ¬ (y.size : Int) ≤ (s.size : Int) := by omega
        have HF : Hid ((Lx.signs.take (k + 1)).find? (·.isPrefixOf s.data.toList) = none) := by
          show _ = _
          refine HT.out.2 ?_
          rw [← hyl, ← Bool.not_eq_true]
          intro h
          have := (List.isPrefixOf_iff_prefix.1 h).length_le
          rw [size_toList, size_toList] at this; omega
        clear hc1 hx hy hyl hno hxl
        go_wp2_with fail
        go_quiet (fail)
        go_wp2_with fail
        go_roundw
        case rel => exact ⟨k + 1, by omega, by go_num, HF.out, _, rfl⟩
        case measure => simp [intOf]; omega
    · have hke : k = 16 := by omega
      subst hke
      have HF : Hid (Lx.signOf s.data.toList = []) := by
        show _ = _
        have h : Lx.signs.find? (·.isPrefixOf s.data.toList) = none := hno
        unfold Lx.signOf; rw [h]
      clear hno hc1
      go_wp2_with fail
      go_ret
      exact ⟨ret_string (by rw [HF.out]), below_drawn hb1 _⟩
def WordPost (s : ByteArray) (p : Nat) (w : World) (e : Ending) (w' : World) : Prop :=
  ∃ (k er : Nat) (t : ByteArray) (p' : Nat), e = .returned (.tuple #[.agg #[.int .i64 k, .string t, .int .i64 p'], .int .i64 er]) ∧ Below w.heap.size w w' ∧
    ((er = 0 ∧ t = s ∧ p' = p ∧ ((k = 3 ∧ Lx.isWord s.data.toList = true) ∨ (k = 1 ∧ Lx.isWord s.data.toList = false ∧ Lx.isName s.data.toList = true))) ∨
     (er = 5 ∧ Lx.isWord s.data.toList = false ∧ Lx.isName s.data.toList = false))
theorem three_cells {W : World} {b T : Nat} {x y z : Value} (h : W.heap[b]? = some (.cells #[x, y, z] T (0, 0))) :
    (W.cell? ⟨b, 0, none⟩ = some x ∧ W.cell? ⟨b, 1, none⟩ = some y ∧ W.cell? ⟨b, 2, none⟩ = some z) ∧ W.frozen? ⟨b, 0, none⟩ = false ∧ W.frozen? ⟨b, 1, none⟩ = false ∧ W.frozen? ⟨b, 2, none⟩ = false :=
  ⟨⟨by simp [World.cell?, h], by simp [World.cell?, h], by simp [World.cell?, h]⟩, by simp [World.frozen?, h], by simp [World.frozen?, h], by simp [World.frozen?, h]⟩
set_option maxHeartbeats 1000000 in
theorem rword_any (s : ByteArray) (p : Nat) (w : World) :
    Calls Tryz.prog 30 #[.string s, .int .i64 p] w (WordPost s p w) := by
  obtain ⟨b1, hb1⟩ : ∃ b, b = Lx.isWord s.data.toList := ⟨_, rfl⟩
  have H1 : Hid (Lx.isWord s.data.toList = b1) := hb1.symm
  obtain ⟨b2, hb2⟩ : ∃ b, b = Lx.isName s.data.toList := ⟨_, rfl⟩
  have H2 : Hid (Lx.isName s.data.toList = b2) := hb2.symm
  clear hb1 hb2
  obtain ⟨W0, hW0⟩ : ∃ W0, W0 = (w.alloc (.cells #[.int .i64 0, .string ⟨#[]⟩, .int .i64 0] 47)).alloc (.cells #[.int .i64 1, .string s, .int .i64 p] 47) := ⟨_, rfl⟩
  have bW : Below w.heap.size w W0 := by rw [hW0]; exact ((Below.refl _ _).alloc (Nat.le_refl _) _).alloc (by simp) _
  have hB : W0.heap[w.heap.size + 1]? = some (.cells #[.int .i64 1, .string s, .int .i64 p] 47) := by
    have := heap_alloc_new (w.alloc (.cells #[.int .i64 0, .string ⟨#[]⟩, .int .i64 0] 47)) (.cells #[.int .i64 1, .string s, .int .i64 p] 47)
    rw [hW0]; simpa using this
  have hA : W0.heap[w.heap.size]? = some (.cells #[.int .i64 0, .string ⟨#[]⟩, .int .i64 0] 47) := by
    rw [hW0, Below.heap_alloc _ _ _ (by simp)]; exact heap_alloc_new w _
  have HW0 : Hid (W0 = _) := hW0
  clear hW0
  go_enter Tryz.func30, Tryz.ntmps30
  go_wp2_with fail
  rw [← HW0.out]
  refine (rIsWord_any s W0).mono ?_
  rintro e w2 ⟨rfl, hb2⟩
  rw [H1.out]
  have B2 := below_next bW hb2
  have hA2 := (hb2.block _ (Array.getElem?_eq_some_iff.1 hA).1).trans hA
  have hB2 := (hb2.block _ (Array.getElem?_eq_some_iff.1 hB).1).trans hB
  clear HW0 bW hA hB hb2
  obtain ⟨a, ha⟩ : ∃ a, w.heap.size = a := ⟨_, rfl⟩
  have HAA : Hid (w.heap.size = a) := ha
  rw [ha] at hA2 hB2
  rw [ha]
  clear ha
  obtain ⟨⟨a0, a1, a2⟩, fa0, fa1, fa2⟩ := three_cells hA2
  obtain ⟨⟨d0, d1, d2⟩, fd0, fd1, fd2⟩ := three_cells hB2
  have up : ∀ q : Nat, w.heap.size ≤ a + q := fun q => by have := HAA.out; omega
  cases b1
  · go_wp2_with fail
    refine (rIsName_any s w2).mono ?_
    rintro e w3 ⟨rfl, hb3⟩
    rw [H2.out]
    have B3 := below_next B2 hb3
    have hA3 := (hb3.block _ (Array.getElem?_eq_some_iff.1 hA2).1).trans hA2
    have hB3 := (hb3.block _ (Array.getElem?_eq_some_iff.1 hB2).1).trans hB2
    clear a0 a1 a2 fa0 fa1 fa2 d0 d1 d2 fd0 fd1 fd2 hA2 hB2 hb3 B2
    obtain ⟨⟨a0, a1, a2⟩, fa0, fa1, fa2⟩ := three_cells hA3
    obtain ⟨⟨d0, d1, d2⟩, fd0, fd1, fd2⟩ := three_cells hB3
    cases b2
    · go_wp2_with fail
      refine bodyPost_ret (v := .tuple #[.agg #[.int .i64 0, .string ⟨#[]⟩, .int .i64 0], .int .i64 5]) (by simp [results, Tryz.results30, go_sem, a0, a1, a2]) rfl ?_
      exact ⟨0, 5, ⟨#[]⟩, 0, rfl, (((B3.setCell (up 0) _).setCell (up 0) _).setCell (up 0) _), Or.inr ⟨rfl, H1.out, H2.out⟩⟩
    · go_wp2_with fail
      refine bodyPost_ret (v := .tuple #[.agg #[.int .i64 1, .string s, .int .i64 p], .int .i64 0]) (by simp [results, Tryz.results30, go_sem, a0, a1, a2]) rfl ?_
      exact ⟨1, 0, s, p, rfl, (((B3.setCell (up 0) _).setCell (up 0) _).setCell (up 0) _), Or.inl ⟨rfl, rfl, rfl, Or.inr ⟨rfl, H1.out, H2.out⟩⟩⟩
  · go_wp2_with fail
    refine bodyPost_ret (v := .tuple #[.agg #[.int .i64 3, .string s, .int .i64 p], .int .i64 0]) (by simp [results, Tryz.results30, go_sem, a0, a1, a2]) rfl ?_
    exact ⟨3, 0, s, p, rfl, ((((B2.setCell (up 1) _).setCell (up 0) _).setCell (up 0) _).setCell (up 0) _), Or.inl ⟨rfl, rfl, rfl, Or.inl ⟨rfl, H1.out⟩⟩⟩
def OnePost (s : ByteArray) (p : Nat) (w : World) (e : Ending) (w' : World) : Prop :=
  ∃ (k er : Nat) (t : ByteArray) (p' : Nat), e = .returned (.tuple #[.agg #[.int .i64 k, .string t, .int .i64 p'], .int .i64 er]) ∧ Below w.heap.size w w' ∧
    ((er = 0 ∧ p' = p ∧ Lx.first s.data.toList = .tok k t.data.toList) ∨ (er ≠ 0 ∧ Lx.first s.data.toList = .err er))
namespace Lx
theorem row_facts (p : UInt8 → Bool) (l : Bs) : (∀ k c, k < (l.takeWhile p).length → l[k]? = some c → p c = true) ∧ (∀ c, l[(l.takeWhile p).length]? = some c → p c = false) := by
  induction l with
  | nil => exact ⟨fun k c h => by simp at h, fun c h => by simp at h⟩
  | cons x l ih =>
    rw [List.takeWhile_cons]
    split
    · rename_i hx
      refine ⟨fun k c h hc => ?_, fun c h => ih.2 c (by simpa using h)⟩
      cases k with
      | zero => simp at hc; subst hc; exact hx
      | succ k => exact ih.1 k c (by simpa using h) (by simpa using hc)
    · rename_i hx
      exact ⟨fun k c h => by simp at h, fun c h => by simp at h; subst h; simpa using hx⟩
theorem dig_empty {r : Bs} (h : isDig (r.headD 0) = false) : r.takeWhile isDig = [] := by
  cases r with
  | nil => rfl
  | cons c r => simp at h; rw [List.takeWhile_cons, if_neg (by simp [h])]
theorem pt_empty {r : Bs} (h : isDig (r.headD 0) = false) (h2 : isLet (r.headD 0) = false) : r.takeWhile isPt = [] := by
  cases r with
  | nil => rfl
  | cons c r => simp at h h2; rw [List.takeWhile_cons, if_neg (by simp [isPt, h, h2])]
end Lx
set_option maxHeartbeats 2000000 in
theorem rone_any (s : ByteArray) (p : Nat) (hs : s.size ≤ 100000) (hpos : 0 < s.size) (w : World) :
    Calls Tryz.prog 14 #[.string s, .int .i64 p] w (OnePost s p w) := by
  have hb0 := headD_byte s hpos
  obtain ⟨b1, hb1⟩ : ∃ b, b = Lx.isDig (s.data.toList.headD 0) := ⟨_, rfl⟩
  have c1 := rdigit_any s[0]
  rw [← hb0, ← hb1] at c1
  have H1 : Hid (Lx.isDig (s.data.toList.headD 0) = b1) := hb1.symm
  obtain ⟨b2, hb2⟩ : ∃ b, b = Lx.isLet (s.data.toList.headD 0) := ⟨_, rfl⟩
  have c2 := rletter_any s[0]
  rw [← hb0, ← hb2] at c2
  have H2 : Hid (Lx.isLet (s.data.toList.headD 0) = b2) := hb2.symm
  rw [hb0] at c1 c2
  clear hb0 hb1 hb2
  obtain ⟨W0, hW0⟩ : ∃ W0, W0 = w.alloc (.cells #[.int .i64 0, .string ⟨#[]⟩, .int .i64 0] 47) := ⟨_, rfl⟩
  have bW : Below w.heap.size w W0 := by rw [hW0]; exact (Below.refl _ _).alloc (Nat.le_refl _) _
  have hA : W0.heap[w.heap.size]? = some (.cells #[.int .i64 0, .string ⟨#[]⟩, .int .i64 0] 47) := by
    rw [hW0]; exact heap_alloc_new w _
  have HW0 : Hid (W0 = _) := hW0
  clear hW0
  have C1 := Lib.hid c1
  have C2 := Lib.hid c2
  clear c1 c2
  go_enter Tryz.func14, Tryz.ntmps14
  go_wp2_with fail
  rw [← HW0.out]
  refine (C1.out W0).mono ?_
  rintro e w1 ⟨rfl, hW⟩
  subst hW
  obtain ⟨a, ha⟩ : ∃ a, w.heap.size = a := ⟨_, rfl⟩
  have HAA : Hid (w.heap.size = a) := ha
  rw [ha] at hA
  rw [ha]
  clear ha
  obtain ⟨⟨a0, a1, a2⟩, fa0, fa1, fa2⟩ := three_cells hA
  have up : w.heap.size ≤ a := by have := HAA.out; omega
  clear HW0
  cases b1
  · go_wp2_with fail
    refine (C2.out w1).mono ?_
    rintro e w3 ⟨rfl, hW⟩
    subst hW
    cases b2
    · have HD : Hid (s.data.toList.takeWhile Lx.isDig = []) := Lx.dig_empty H1.out
      have HP : Hid (s.data.toList.takeWhile Lx.isPt = []) := Lx.pt_empty H1.out H2.out
      go_wp2_with fail
      refine (rsign_any s hs w3).mono ?_
      rintro e w4 ⟨rfl, hb4⟩
      obtain ⟨t, ht⟩ : ∃ t : ByteArray, t = ⟨(Lx.signOf s.data.toList).toArray⟩ := ⟨_, rfl⟩
      rw [← ht]
      have HT : Hid (t.data.toList = Lx.signOf s.data.toList) := by show _ = _; rw [ht]
      have B4 := below_next bW hb4
      have hA4 := (hb4.block _ (Array.getElem?_eq_some_iff.1 hA).1).trans hA
      clear a0 a1 a2 fa0 fa1 fa2 hA hb4 bW ht C1 C2
      obtain ⟨⟨a0, a1, a2⟩, fa0, fa1, fa2⟩ := three_cells hA4
      by_cases he : t.toList = []
      · have he2 : t.toList.isEmpty = true := by simp [he]
        have HF : Hid (Lx.first s.data.toList = .err 5) := by
          show _ = _
          rw [first_sign HD.out HP.out]
          have h1 : Lx.signOf s.data.toList = [] := by rw [← HT.out]; exact toList_nil.1 he
          unfold Lx.signOf at h1
          split at h1
          · rename_i x hx
            exact absurd h1 (Lx.signs_ne _ (List.mem_of_find?_eq_some hx)).1
          · rename_i hx; rw [hx]
        go_wp2_with fail
        refine bodyPost_ret (v := .tuple #[.agg #[.int .i64 0, .string ⟨#[]⟩, .int .i64 0], .int .i64 5]) (by simp [results, Tryz.results14, go_sem, a0, a1, a2]) rfl ?_
        exact ⟨0, 5, ⟨#[]⟩, 0, rfl, (((B4.setCell up _).setCell up _).setCell up _), Or.inr ⟨by omega, HF.out⟩⟩
      · have he2 : t.toList.isEmpty = false := by simp [he]
        have HF : Hid (Lx.first s.data.toList = .tok 4 t.data.toList) := by
          show _ = _
          rw [first_sign HD.out HP.out]
          have h1 : Lx.signOf s.data.toList ≠ [] := by rw [← HT.out]; exact fun h => he (toList_nil.2 h)
          have h2 := HT.out
          unfold Lx.signOf at h1 h2
          split at h1
          · rename_i x hx; rw [hx] at h2 ⊢; rw [h2]
          · exact absurd rfl h1
        go_wp2_with fail
        refine bodyPost_ret (v := .tuple #[.agg #[.int .i64 4, .string t, .int .i64 p], .int .i64 0]) (by simp [results, Tryz.results14, go_sem, a0, a1, a2]) rfl ?_
        exact ⟨4, 0, t, p, rfl, (((B4.setCell up _).setCell up _).setCell up _), Or.inl ⟨rfl, rfl, HF.out⟩⟩
    · have HD : Hid (s.data.toList.takeWhile Lx.isDig = []) := Lx.dig_empty H1.out
      obtain ⟨d, hd⟩ : ∃ d, d = (s.data.toList.takeWhile Lx.isPt).length := ⟨_, rfl⟩
      have hds : d ≤ s.size := by rw [hd, ← size_toList]; exact (List.takeWhile_prefix _).length_le
      have HTK : Hid (s.data.toList.takeWhile Lx.isPt = s.data.toList.take d) := by show _ = _; rw [hd]; exact List.prefix_iff_eq_take.1 (List.takeWhile_prefix _)
      have HYES : Hid (∀ k (h : k < s.size), k < d → Lx.isPt s[k] = true) := fun k h hk => by
        have h1 : (s.data.toList.takeWhile Lx.isPt)[k]? = some s[k] := by rw [HTK.out, List.getElem?_take, if_pos hk]; exact byte_at s k h
        exact List.all_eq_true.1 List.all_takeWhile s[k] (List.mem_of_getElem? h1)
      have HNO : Hid (∀ (h : d < s.size), Lx.isPt s[d] = false) := fun h => by
        cases q : Lx.isPt s[d] with
        | false => rfl
        | true =>
          have h2 : ∀ (l : Lx.Bs) (n : Nat) (c : UInt8), n = (l.takeWhile Lx.isPt).length → l[n]? = some c → Lx.isPt c = false := by
            intro l
            induction l with
            | nil => intro n c _ h; simp at h
            | cons x l ih =>
              intro n c hn h
              rw [List.takeWhile_cons] at hn
              split at hn
              · simp at hn; subst hn; exact ih _ c rfl (by simpa using h)
              · rename_i hx; simp at hn; subst hn; simp at h; subst h; simpa using hx
          rw [h2 _ _ _ hd (byte_at s d h)] at q; cases q
      have hpd : 0 < d := by
        rcases Nat.eq_zero_or_pos d with h | h
        · subst h
          have := HNO.out hpos
          have h2 := H2.out
          rw [headD_byte s hpos] at h2
          unfold Lx.isPt at this; rw [h2] at this; simp at this
        · exact h
      clear hd
      go_wp2_with fail
      go_loopw [6] (fun i wr => ∃ k : Nat, k ≤ d ∧ i = .int .i64 k ∧ wr = w3) (fun i _ => d - (intOf i).toNat)
      case atStart => exact ⟨0, Nat.zero_le _, rfl, rfl⟩
      case round =>
        obtain ⟨k, hk, rfl, hW⟩ := hrel
        subst hW
        by_cases hlt : k < d
        · have hks : k < s.size := by omega
          have hk2 : (k : Int) < (s.size : Int) := by omega
          have c3 := rletter_any s[k] wr
          have c4 := rdigit_any s[k] wr
          obtain ⟨b3, hb3⟩ : ∃ b, b = Lx.isLet s[k] := ⟨_, rfl⟩
          rw [← hb3] at c3
          have HY := HYES.out k hks hlt
          unfold Lx.isPt at HY
          rw [← hb3] at HY
          clear hb3
          cases b3
          · rw [Bool.false_or] at HY
            rw [HY] at c4
            clear HY
            go_wp2_with fail
            refine c3.mono ?_
            rintro e w5 ⟨rfl, hW⟩
            subst hW
            go_wp2_with fail
            refine c4.mono ?_
            rintro e w5 ⟨rfl, hW⟩
            subst hW
            clear c3 c4
            go_wp2_with fail
            go_roundw
            case rel => exact ⟨k + 1, by omega, by go_num, by trivial⟩
            case measure => simp [intOf]; omega
          · clear HY
            go_wp2_with fail
            refine c3.mono ?_
            rintro e w5 ⟨rfl, hW⟩
            subst hW
            clear c3 c4
            go_wp2_with fail
            go_roundw
            case rel => exact ⟨k + 1, by omega, by go_num, by trivial⟩
            case measure => simp [intOf]; omega
        · have hke : k = d := by omega
          subst hke
          clear hlt hk C1 C2
          rcases Nat.lt_or_eq_of_le hds with hlt | heq
          · have hk2 : (k : Int) < (s.size : Int) := by omega
            have c3 := rletter_any s[k] wr
            have c4 := rdigit_any s[k] wr
            have HY := HNO.out hlt
            unfold Lx.isPt at HY
            rw [Bool.or_eq_false_iff] at HY
            rw [HY.1] at c3
            rw [HY.2] at c4
            clear HY
            go_wp2_with fail
            refine c3.mono ?_
            rintro e w5 ⟨rfl, hW⟩
            subst hW
            go_wp2_with fail
            refine c4.mono ?_
            rintro e w5 ⟨rfl, hW⟩
            subst hW
            clear c3 c4
            go_wp2_with fail
            refine (rword_any (s.extract 0 k) p _).mono ?_
            rintro e w4 ⟨kk, er, t, p', rfl, hb4, hor⟩
            have HW : Hid ((er = 0 ∧ p' = p ∧ Lx.first s.data.toList = .tok kk t.data.toList) ∨ (er ≠ 0 ∧ Lx.first s.data.toList = .err er)) := by
              have hx : (s.extract 0 k).data.toList = s.data.toList.takeWhile Lx.isPt := by rw [HTK.out, extract_take]
              have hne : s.data.toList.takeWhile Lx.isPt ≠ [] := by
                rw [← List.length_pos_iff, HTK.out, List.length_take, size_toList]; omega
              rw [hx] at hor
              rcases hor with ⟨h1, h2, h3, h4 | h4⟩ | ⟨h1, h2, h3⟩
              · exact Or.inl ⟨h1, h3, by rw [first_word HD.out h4.2, h4.1, h2, hx]⟩
              · exact Or.inl ⟨h1, h3, by rw [first_name HD.out h4.2.1 h4.2.2, h4.1, h2, hx]⟩
              · exact Or.inr ⟨by omega, by rw [first_none HD.out h2 h3 hne, h1]⟩
            have B4 := below_next bW hb4
            have hA4 := (hb4.block _ (Array.getElem?_eq_some_iff.1 hA).1).trans hA
            clear a0 a1 a2 fa0 fa1 fa2 hA hb4 bW hor
            obtain ⟨⟨a0, a1, a2⟩, fa0, fa1, fa2⟩ := three_cells hA4
            go_wp2_with fail
            refine bodyPost_ret (v := .tuple #[.agg #[.int .i64 kk, .string t, .int .i64 p'], .int .i64 er]) (by simp [results, Tryz.results14, go_sem, a0, a1, a2]) rfl ?_
            exact ⟨kk, er, t, p', rfl, (((B4.setCell up _).setCell up _).setCell up _), HW.out⟩
          · have hk2 : ¬ (k : Int) < (s.size : Int) := by omega
            have HEQ : Hid (k = s.size) := heq
            clear heq
            go_wp2_with fail
            refine (rword_any (s.extract 0 k) p _).mono ?_
            rintro e w4 ⟨kk, er, t, p', rfl, hb4, hor⟩
            have HW : Hid ((er = 0 ∧ p' = p ∧ Lx.first s.data.toList = .tok kk t.data.toList) ∨ (er ≠ 0 ∧ Lx.first s.data.toList = .err er)) := by
              have hx : (s.extract 0 k).data.toList = s.data.toList.takeWhile Lx.isPt := by rw [HTK.out, extract_take]
              have hne : s.data.toList.takeWhile Lx.isPt ≠ [] := by
                rw [← List.length_pos_iff, HTK.out, List.length_take, size_toList]; omega
              rw [hx] at hor
              rcases hor with ⟨h1, h2, h3, h4 | h4⟩ | ⟨h1, h2, h3⟩
              · exact Or.inl ⟨h1, h3, by rw [first_word HD.out h4.2, h4.1, h2, hx]⟩
              · exact Or.inl ⟨h1, h3, by rw [first_name HD.out h4.2.1 h4.2.2, h4.1, h2, hx]⟩
              · exact Or.inr ⟨by omega, by rw [first_none HD.out h2 h3 hne, h1]⟩
            have B4 := below_next bW hb4
            have hA4 := (hb4.block _ (Array.getElem?_eq_some_iff.1 hA).1).trans hA
            clear a0 a1 a2 fa0 fa1 fa2 hA hb4 bW hor
            obtain ⟨⟨a0, a1, a2⟩, fa0, fa1, fa2⟩ := three_cells hA4
            go_wp2_with fail
            refine bodyPost_ret (v := .tuple #[.agg #[.int .i64 kk, .string t, .int .i64 p'], .int .i64 er]) (by simp [results, Tryz.results14, go_sem, a0, a1, a2]) rfl ?_
            exact ⟨kk, er, t, p', rfl, (((B4.setCell up _).setCell up _).setCell up _), HW.out⟩
  · obtain ⟨d, hd⟩ : ∃ d, d = (s.data.toList.takeWhile Lx.isDig).length := ⟨_, rfl⟩
    have hds : d ≤ s.size := by rw [hd, ← size_toList]; exact (List.takeWhile_prefix _).length_le
    have HTK : Hid (s.data.toList.takeWhile Lx.isDig = s.data.toList.take d) := by show _ = _; rw [hd]; exact List.prefix_iff_eq_take.1 (List.takeWhile_prefix _)
    have HLEN : Hid ((s.data.toList.takeWhile Lx.isDig).length = d) := hd.symm
    obtain ⟨HY0, HN0⟩ := Lx.row_facts Lx.isDig s.data.toList
    rw [← hd] at HY0 HN0
    have HYES : Hid (∀ k (h : k < s.size), k < d → Lx.isDig s[k] = true) := fun k h hk => HY0 k _ hk (byte_at s k h)
    have HNO : Hid (∀ (h : d < s.size), Lx.isDig s[d] = false) := fun h => HN0 _ (byte_at s d h)
    have hpd : 0 < d := by
      rcases Nat.eq_zero_or_pos d with h | h
      · subst h
        have := HNO.out hpos
        have h2 := H1.out
        rw [headD_byte s hpos, this] at h2; cases h2
      · exact h
    have HNE : Hid (s.data.toList.takeWhile Lx.isDig ≠ []) := by
      show _ ≠ _
      rw [← List.length_pos_iff, ← hd]; exact hpd
    have HHD : Hid ((s.data.toList.takeWhile Lx.isDig).headD 0 = s.data.toList.headD 0) := by
      show _ = _
      have h1 := H1.out
      cases h : s.data.toList with
      | nil => rfl
      | cons c r => rw [h] at h1; simp at h1; rw [List.takeWhile_cons, if_pos h1]; rfl
    clear hd HY0 HN0 C1 C2
    go_wp2_with fail
    go_loopw [6] (fun i wr => ∃ k : Nat, k ≤ d ∧ i = .int .i64 k ∧ wr = w1) (fun i _ => d - (intOf i).toNat)
    case atStart => exact ⟨0, Nat.zero_le _, rfl, rfl⟩
    case round =>
      obtain ⟨k, hk, rfl, hW⟩ := hrel
      subst hW
      by_cases hlt : k < d
      · have hks : k < s.size := by omega
        have hk2 : (k : Int) < (s.size : Int) := by omega
        have c4 := rdigit_any s[k] wr
        rw [HYES.out k hks hlt] at c4
        go_wp2_with fail
        refine c4.mono ?_
        rintro e w5 ⟨rfl, hW⟩
        subst hW
        clear c4
        go_wp2_with fail
        go_roundw
        case rel => exact ⟨k + 1, by omega, by go_num, by trivial⟩
        case measure => simp [intOf]; omega
      · have hke : k = d := by omega
        subst hke
        clear hlt hk
        rcases Nat.lt_or_eq_of_le hds with hlt | heq
        · have hk2 : (k : Int) < (s.size : Int) := by omega
          have c4 := rdigit_any s[k] wr
          rw [HNO.out hlt] at c4
          go_wp2_with fail
          refine c4.mono ?_
          rintro e w5 ⟨rfl, hW⟩
          subst hW
          clear c4
          by_cases h48 : 1 < k ∧ s[0] = 48
          · have h1 : (1 : Int) < (k : Int) := by omega
            have h2 : (((s[0].toNat : Nat) : Int) == 48) = true := byte48.2 h48.2
            have HF : Hid (Lx.first s.data.toList = .err 2) := by
              show _ = _
              rw [first_dig HNE.out, if_pos ((Lx.tooBig_ref _ List.all_takeWhile HNE.out).2 (Or.inl ⟨by rw [HLEN.out]; omega, by rw [HHD.out, headD_byte s hpos]; exact h48.2⟩))]
            clear h48
            go_wp2_with fail
            refine bodyPost_ret (v := .tuple #[.agg #[.int .i64 0, .string ⟨#[]⟩, .int .i64 0], .int .i64 2]) (by simp [results, Tryz.results14, go_sem, a0, a1, a2]) rfl ?_
            exact ⟨0, 2, ⟨#[]⟩, 0, rfl, (((bW.setCell up _).setCell up _).setCell up _), Or.inr ⟨by omega, HF.out⟩⟩
          · have hor : (¬ (1 : Int) < (k : Int)) ∨ ((1 : Int) < (k : Int) ∧ (((s[0].toNat : Nat) : Int) == 48) = false) := by
              by_cases h1 : 1 < k
              · refine Or.inr ⟨by omega, ?_⟩
                rw [← Bool.not_eq_true, byte48]; exact fun h => h48 ⟨h1, h⟩
              · exact Or.inl (by omega)
            have H48 : Hid (¬ (1 < k ∧ s[0] = 48)) := h48
            clear h48
            rcases hor with h1 | ⟨h1, h2⟩
            all_goals
              go_wp2_with fail
              refine (rValue_any (s.extract 0 k) (by rw [extract_take, ← HTK.out]; exact List.all_takeWhile) (by rw [← size_toList, extract_take, List.length_take, size_toList]; omega) _).mono ?_
              rintro e w4 ⟨n, rfl, hn1, hn2, hW⟩
              subst hW
              have hx : (s.extract 0 k).data.toList = s.data.toList.takeWhile Lx.isDig := by rw [HTK.out, extract_take]
              have TB := Lx.tooBig_ref _ List.all_takeWhile HNE.out
              rw [hx] at hn1
              rw [HLEN.out, HHD.out, headD_byte s hpos] at TB
              have HX : Hid ((s.extract 0 k).data.toList = s.data.toList.takeWhile Lx.isDig) := hx
              by_cases hbig : 2147483647 < n
              · have hb2 : (2147483647 : Int) < (n : Int) := by omega
                have HF : Hid (Lx.first s.data.toList = .err 2) := by
                  show _ = _
                  rw [first_dig HNE.out, if_pos (TB.2 (Or.inr (hn1.1 hbig)))]
                clear hn1 hn2 hx TB
                go_wp2_with fail
                refine bodyPost_ret (v := .tuple #[.agg #[.int .i64 0, .string ⟨#[]⟩, .int .i64 0], .int .i64 2]) (by simp [results, Tryz.results14, go_sem, a0, a1, a2]) rfl ?_
                exact ⟨0, 2, ⟨#[]⟩, 0, rfl, (((bW.setCell up _).setCell up _).setCell up _), Or.inr ⟨by omega, HF.out⟩⟩
              · have hb2 : ¬ (2147483647 : Int) < (n : Int) := by omega
                have HF : Hid (Lx.first s.data.toList = .tok 2 (s.extract 0 k).data.toList) := by
                  show _ = _
                  rw [first_dig HNE.out, hx, if_neg]
                  rw [TB]
                  rintro (h | h)
                  · exact H48.out h
                  · exact hbig (hn1.2 h)
                clear hn1 hn2 hx TB
                go_wp2_with fail
                refine bodyPost_ret (v := .tuple #[.agg #[.int .i64 2, .string (s.extract 0 k), .int .i64 p], .int .i64 0]) (by simp [results, Tryz.results14, go_sem, a0, a1, a2]) rfl ?_
                exact ⟨2, 0, _, p, rfl, (((bW.setCell up _).setCell up _).setCell up _), Or.inl ⟨rfl, rfl, HF.out⟩⟩
        · have hk2 : ¬ (k : Int) < (s.size : Int) := by omega
          have HEQ : Hid (k = s.size) := heq
          clear heq
          by_cases h48 : 1 < k ∧ s[0] = 48
          · have h1 : (1 : Int) < (k : Int) := by omega
            have h2 : (((s[0].toNat : Nat) : Int) == 48) = true := byte48.2 h48.2
            have HF : Hid (Lx.first s.data.toList = .err 2) := by
              show _ = _
              rw [first_dig HNE.out, if_pos ((Lx.tooBig_ref _ List.all_takeWhile HNE.out).2 (Or.inl ⟨by rw [HLEN.out]; omega, by rw [HHD.out, headD_byte s hpos]; exact h48.2⟩))]
            clear h48
            go_wp2_with fail
            refine bodyPost_ret (v := .tuple #[.agg #[.int .i64 0, .string ⟨#[]⟩, .int .i64 0], .int .i64 2]) (by simp [results, Tryz.results14, go_sem, a0, a1, a2]) rfl ?_
            exact ⟨0, 2, ⟨#[]⟩, 0, rfl, (((bW.setCell up _).setCell up _).setCell up _), Or.inr ⟨by omega, HF.out⟩⟩
          · have hor : (¬ (1 : Int) < (k : Int)) ∨ ((1 : Int) < (k : Int) ∧ (((s[0].toNat : Nat) : Int) == 48) = false) := by
              by_cases h1 : 1 < k
              · refine Or.inr ⟨by omega, ?_⟩
                rw [← Bool.not_eq_true, byte48]; exact fun h => h48 ⟨h1, h⟩
              · exact Or.inl (by omega)
            have H48 : Hid (¬ (1 < k ∧ s[0] = 48)) := h48
            clear h48
            rcases hor with h1 | ⟨h1, h2⟩
            all_goals
              go_wp2_with fail
              refine (rValue_any (s.extract 0 k) (by rw [extract_take, ← HTK.out]; exact List.all_takeWhile) (by rw [← size_toList, extract_take, List.length_take, size_toList]; omega) _).mono ?_
              rintro e w4 ⟨n, rfl, hn1, hn2, hW⟩
              subst hW
              have hx : (s.extract 0 k).data.toList = s.data.toList.takeWhile Lx.isDig := by rw [HTK.out, extract_take]
              have TB := Lx.tooBig_ref _ List.all_takeWhile HNE.out
              rw [hx] at hn1
              rw [HLEN.out, HHD.out, headD_byte s hpos] at TB
              have HX : Hid ((s.extract 0 k).data.toList = s.data.toList.takeWhile Lx.isDig) := hx
              by_cases hbig : 2147483647 < n
              · have hb2 : (2147483647 : Int) < (n : Int) := by omega
                have HF : Hid (Lx.first s.data.toList = .err 2) := by
                  show _ = _
                  rw [first_dig HNE.out, if_pos (TB.2 (Or.inr (hn1.1 hbig)))]
                clear hn1 hn2 hx TB
                go_wp2_with fail
                refine bodyPost_ret (v := .tuple #[.agg #[.int .i64 0, .string ⟨#[]⟩, .int .i64 0], .int .i64 2]) (by simp [results, Tryz.results14, go_sem, a0, a1, a2]) rfl ?_
                exact ⟨0, 2, ⟨#[]⟩, 0, rfl, (((bW.setCell up _).setCell up _).setCell up _), Or.inr ⟨by omega, HF.out⟩⟩
              · have hb2 : ¬ (2147483647 : Int) < (n : Int) := by omega
                have HF : Hid (Lx.first s.data.toList = .tok 2 (s.extract 0 k).data.toList) := by
                  show _ = _
                  rw [first_dig HNE.out, hx, if_neg]
                  rw [TB]
                  rintro (h | h)
                  · exact H48.out h
                  · exact hbig (hn1.2 h)
                clear hn1 hn2 hx TB
                go_wp2_with fail
                refine bodyPost_ret (v := .tuple #[.agg #[.int .i64 2, .string (s.extract 0 k), .int .i64 p], .int .i64 0]) (by simp [results, Tryz.results14, go_sem, a0, a1, a2]) rfl ?_
                exact ⟨2, 0, _, p, rfl, (((bW.setCell up _).setCell up _).setCell up _), Or.inl ⟨rfl, rfl, HF.out⟩⟩
end Go.Proofs.YtahalimekacliaaGreatDoor
namespace Go.Proofs.YtahalimekacliaaGreatDoor
open Go.RowKit Go.Shelf
namespace Lx
theorem lexS_after (u : Bs) : lexS (u.dropWhile (· != 10)) = lexS (afterLine u) := by
  unfold afterLine
  cases h : u.dropWhile (· != 10) with
  | nil => rfl
  | cons c r =>
    have hc : c = 10 := by
      have : ∀ l : Bs, ∀ c r, l.dropWhile (· != 10) = c :: r → c = 10 := by
        intro l
        induction l with
        | nil => intro c r h; simp at h
        | cons x l ih =>
          intro c r h
          rw [List.dropWhile_cons] at h
          split at h
          · exact ih c r h
          · rename_i hx; cases h; simpa using hx
      exact this u c r h
    subst hc
    exact lexS_blank (by decide)
theorem drop_row (p : UInt8 → Bool) (l : Bs) : l.drop (l.takeWhile p).length = l.dropWhile p := by
  induction l with
  | nil => rfl
  | cons x l ih => rw [List.takeWhile_cons, List.dropWhile_cons]; split <;> simp_all
theorem bl_iff (c : UInt8) : isBl c = true ↔ c = 32 ∨ c = 9 ∨ c = 10 ∨ c = 13 := by
  simp [isBl, Bool.or_eq_true, or_assoc]
end Lx
theorem byte_eq {c d : UInt8} : (((c.toNat : Nat) : Int) == ((d.toNat : Nat) : Int)) = decide (c = d) := by
  rw [Bool.eq_iff_iff, beq_iff_eq, decide_eq_true_eq, ← UInt8.toNat_inj]; omega
theorem byte_ne {c d : UInt8} : (((c.toNat : Nat) : Int) != ((d.toNat : Nat) : Int)) = !decide (c = d) := by
  rw [bne, byte_eq]
theorem bl_cases (c : UInt8) (h : Lx.isBl c = true) : (((c.toNat : Nat) : Int) == 32) = true ∨ ((((c.toNat : Nat) : Int) == 32) = false ∧ (((c.toNat : Nat) : Int) == 9) = true) ∨
    ((((c.toNat : Nat) : Int) == 32) = false ∧ (((c.toNat : Nat) : Int) == 9) = false ∧ (((c.toNat : Nat) : Int) == 10) = true) ∨
    ((((c.toNat : Nat) : Int) == 32) = false ∧ (((c.toNat : Nat) : Int) == 9) = false ∧ (((c.toNat : Nat) : Int) == 10) = false ∧ (((c.toNat : Nat) : Int) == 13) = true) := by
  rcases (Lx.bl_iff c).1 h with rfl | rfl | rfl | rfl <;> decide
theorem bl_none (c : UInt8) (h : Lx.isBl c = false) : (((c.toNat : Nat) : Int) == 32) = false ∧ (((c.toNat : Nat) : Int) == 9) = false ∧ (((c.toNat : Nat) : Int) == 10) = false ∧ (((c.toNat : Nat) : Int) == 13) = false := by
  have h2 : ∀ d : UInt8, Lx.isBl d = true → (((c.toNat : Nat) : Int) == ((d.toNat : Nat) : Int)) = false := fun d hd => by
    rw [byte_eq]
    by_cases e : c = d
    · subst e; rw [h] at hd; cases hd
    · simp [e]
  exact ⟨h2 32 (by decide), h2 9 (by decide), h2 10 (by decide), h2 13 (by decide)⟩
theorem ext_size (s : ByteArray) (k : Nat) (_h : k ≤ s.size) : (s.extract k s.size).size = s.size - k := by
  rw [← size_toList, extract_drop, List.length_drop, size_toList]
theorem drop_at (s : ByteArray) (k : Nat) (h : k < s.size) : s.data.toList.drop k = s[k] :: s.data.toList.drop (k + 1) := by
  rw [List.drop_eq_getElem_cons (by rw [size_toList]; exact h)]; rfl
theorem com_iff (s : ByteArray) (a : Nat) (h : a < s.size) : Lx.isCom (s.data.toList.drop a) = true ↔ ∃ h2 : a + 1 < s.size, s[a] = 45 ∧ s[a + 1] = 45 := by
  unfold Lx.isCom
  rw [drop_at s a h]
  constructor
  · intro q
    by_cases h2 : a + 1 < s.size
    · rw [drop_at s (a + 1) h2] at q
      simp [List.isPrefixOf] at q
      exact ⟨h2, q.1.symm, q.2.symm⟩
    · have : s.data.toList.drop (a + 1) = [] := by rw [List.drop_eq_nil_iff, size_toList]; omega
      rw [this] at q
      simp [List.isPrefixOf] at q
  · rintro ⟨h2, h3, h4⟩
    rw [drop_at s (a + 1) h2, h3, h4]
    simp [List.isPrefixOf]
theorem is45 {c : UInt8} : (((c.toNat : Nat) : Int) == 45) = decide (c = 45) := byte_eq (d := 45)
theorem is10 {c : UInt8} : (((c.toNat : Nat) : Int) != 10) = !decide (c = 10) := byte_ne (d := 10)
set_option maxRecDepth 100000 in
set_option maxHeartbeats 4000000 in
theorem rLex_any (s : ByteArray) (hs : s.size ≤ 100000) (w : World) :
    Calls Tryz.prog 8 #[.string s] w (LexPost s w) := by
  have hR := heap_alloc_new w (.cells #[.int .i64 0, .int .i64 0] 25)
  go_enter Tryz.func8, Tryz.ntmps8
  go_wp2_with fail
  go_loopw [4, 5] (fun l i wr => ∃ (a : Nat) (done : List Lx.R), a ≤ s.size ∧ i = .int .i64 a ∧ LexLp s w l (s.extract a s.size) done wr) (fun _ i _ => s.size - (intOf i).toNat)
  case atStart => exact ⟨0, [], Nat.zero_le _, rfl, by simp, by simp, (Below.refl _ _).alloc (Nat.le_refl _) _, hR, World.ownsRow_nil _ _ _ _, by rw [extract_drop]; simp⟩
  case round =>
    obtain ⟨a, done, ha, rfl, LP⟩ := hrel
    clear hR
    by_cases hlt : a < s.size
    · have ha2 : (a : Int) < (s.size : Int) := by omega
      have HDA : Hid (s.data.toList.drop a = s[a] :: s.data.toList.drop (a + 1)) := drop_at s a hlt
      by_cases hbl : Lx.isBl s[a] = true
      · have LP2 : LexLp s w u4 (s.extract (a + 1) s.size) done wr := LP.step (Below.refl _ _) (by rw [ext_size _ _ (by omega), ext_size _ _ ha]; omega) (by rw [extract_drop, extract_drop, HDA.out, Lx.lexS_blank hbl])
        have hor := bl_cases s[a] hbl
        clear hbl LP
        rcases hor with h1 | ⟨h1, h2⟩ | ⟨h1, h2, h3⟩ | ⟨h1, h2, h3, h4⟩
        all_goals
          go_wp2_with fail
          go_roundw
          case rel => exact ⟨a + 1, done, by omega, by go_num, LP2⟩
          case measure => simp [intOf]; omega
      · have hbl2 : Lx.isBl s[a] = false := by simpa using hbl
        obtain ⟨h1, h2, h3, h4⟩ := bl_none s[a] hbl2
        obtain ⟨r, hr⟩ : ∃ r, r = s.extract a s.size := ⟨_, rfl⟩
        have HR : Hid (r.data.toList = s.data.toList.drop a) := by show _ = _; rw [hr, extract_drop]
        have hrs : r.size = s.size - a := by rw [hr, ext_size _ _ ha]
        have HB : Hid (r.data.toList.dropWhile Lx.isBl = r.data.toList) := by show _ = _; rw [HR.out, HDA.out, List.dropWhile_cons, if_neg hbl]
        have HE : Hid (r.data.toList ≠ []) := by show _ ≠ _; rw [HR.out, HDA.out]; simp
        rw [← hr] at LP
        have HRR : Hid (r = s.extract a s.size) := hr
        have HS : Hid (r.size = s.size - a) := hrs
        clear hbl hbl2 hr hrs
        by_cases hcom : Lx.isCom r.data.toList = true
        · have LPC : Lx.lexS r.data.toList = Lx.lexS (Lx.afterLine r.data.toList) := Lx.lexS_com HB.out HE.out hcom
          have HLC : Hid (Lx.lexS r.data.toList = Lx.lexS (r.data.toList.dropWhile (· != 10))) := by show _ = _; rw [LPC, Lx.lexS_after]
          have hc := hcom
          rw [HR.out, com_iff s a hlt] at hc
          obtain ⟨g1, g2, g3⟩ := hc
          have g1' : (a : Int) + 1 < (s.size : Int) := by omega
          have g2' : ((((s[a]).toNat : Nat) : Int) == 45) = true := by rw [is45, g2]; rfl
          have g3' : ((((s[a + 1]).toNat : Nat) : Int) == 45) = true := by rw [is45, g3]; rfl
          obtain ⟨L, hL⟩ : ∃ L, L = (r.data.toList.takeWhile (· != 10)).length := ⟨_, rfl⟩
          obtain ⟨HY0, HN0⟩ := Lx.row_facts (· != 10) r.data.toList
          rw [← hL, HR.out] at HY0 HN0
          have hLs : a + L ≤ s.size := by
            have h5 : L ≤ r.size := by rw [hL, ← size_toList]; exact (List.takeWhile_prefix _).length_le
            have := HS.out; omega
          have HYES : Hid (∀ j (h : j < s.size), a ≤ j → j < a + L → ((((s[j]).toNat : Nat) : Int) != 10) = true) := fun j h h5 h6 => by
            have := HY0 (j - a) s[j] (by omega) (by rw [List.getElem?_drop, show a + (j - a) = j by omega]; exact byte_at s j h)
            rw [is10]; simpa using this
          have HNO : Hid (∀ (h : a + L < s.size), ((((s[a + L]).toNat : Nat) : Int) != 10) = false) := fun h => by
            have := HN0 s[a + L] (by rw [List.getElem?_drop]; exact byte_at s _ h)
            rw [is10]; simpa using this
          have hLpos : 0 < L := by
            rcases Nat.eq_zero_or_pos L with h | h
            · have := HNO.out (by omega)
              rw [is10] at this
              simp only [h, Nat.add_zero, g2] at this
              exact absurd this (by decide)
            · exact h
          have HLP : Hid (LexLp s w u4 (s.extract (a + L) s.size) done wr) := LP.step (Below.refl _ _) (by rw [ext_size _ _ hLs, HS.out]; omega) (by rw [HLC.out, extract_drop, ← Lx.drop_row, ← hL, HR.out, List.drop_drop])
          clear LPC hcom g2 g3 hL HY0 HN0 LP
          obtain ⟨E, hE⟩ : ∃ E, E = a + L := ⟨_, rfl⟩
          rw [← hE] at hLs
          have HYE : Hid (∀ j (h : j < s.size), a ≤ j → j < E → ((((s[j]).toNat : Nat) : Int) != 10) = true) := fun j h h5 h6 => HYES.out j h h5 (by omega)
          have HNE : Hid (∀ (h : E < s.size), ((((s[E]).toNat : Nat) : Int) != 10) = false) := by subst hE; exact HNO.out
          have HLE : Hid (LexLp s w u4 (s.extract E s.size) done wr) := by show LexLp s w u4 (s.extract E s.size) done wr; rw [hE]; exact HLP.out
          have haE : a < E := by omega
          clear HYES HNO HLP hE hLpos
          go_wp2_with fail
          obtain ⟨wo, rfl⟩ : ∃ wo : World, wo = wr := ⟨_, rfl⟩
          go_loopw [5] (fun i wr => ∃ j : Nat, a ≤ j ∧ j ≤ E ∧ i = .int .i64 j ∧ wr = wo) (fun i _ => E - (intOf i).toNat)
          case atStart => exact ⟨a, Nat.le_refl _, by omega, rfl, rfl⟩
          case round =>
            obtain ⟨j, hj1, hj2, rfl, hW⟩ := hrel
            subst hW
            by_cases hjl : j < E
            · have hjs : j < s.size := by omega
              have hj3 : (j : Int) < (s.size : Int) := by omega
              have hy := HYE.out j hjs hj1 hjl
              go_wp2_with fail
              go_roundw
              case rel => exact ⟨j + 1, by omega, by omega, by go_num, by trivial⟩
              case measure => simp [intOf]; omega
            · have hje : j = E := by omega
              subst hje
              by_cases hend : j < s.size
              · have hj3 : (j : Int) < (s.size : Int) := by omega
                have hn := HNE.out hend
                go_wp2_with fail
                go_roundw
                case rel => exact ⟨j, done, hLs, rfl, HLE.out⟩
                case measure => simp [intOf]; omega
              · have hj3 : ¬ (j : Int) < (s.size : Int) := by omega
                go_wp2_with fail
                go_roundw
                case rel => exact ⟨j, done, hLs, rfl, HLE.out⟩
                case measure => simp [intOf]; omega
        · have hcom2 : Lx.isCom r.data.toList = false := by simpa using hcom
          have hcs := hcom
          rw [HR.out, com_iff s a hlt] at hcs
          have hor : (¬ (a : Int) + 1 < (s.size : Int)) ∨ ((a : Int) + 1 < (s.size : Int) ∧ ((((s[a]).toNat : Nat) : Int) == 45) = false) ∨ ∃ h : a + 1 < s.size, (a : Int) + 1 < (s.size : Int) ∧ ((((s[a]).toNat : Nat) : Int) == 45) = true ∧ ((((s[a + 1]).toNat : Nat) : Int) == 45) = false := by
            by_cases g1 : a + 1 < s.size
            · by_cases g2 : s[a] = 45
              · have g3 : ¬ s[a + 1] = 45 := fun g3 => hcs ⟨g1, g2, g3⟩
                exact Or.inr (Or.inr ⟨g1, by omega, by rw [is45, g2]; rfl, by rw [is45]; simpa using g3⟩)
              · exact Or.inr (Or.inl ⟨by omega, by rw [is45]; simpa using g2⟩)
            · exact Or.inl (by omega)
          have HC : Hid (Lx.isCom r.data.toList = false) := hcom2
          clear hcom hcom2 hcs
          have hrsz : r.size ≤ 100000 := by have := HS.out; omega
          have hrpos : 0 < r.size := by have := HS.out; omega
          rcases hor with g1 | ⟨g1, g2⟩ | ⟨g0, g1, g2, g3⟩
          all_goals
            go_wp2_with fail
            rw [← HRR.out]
            refine (rone_any r a hrsz hrpos wr).mono ?_
            rintro e w3 ⟨k, er, t, p', rfl, hb3, hor⟩
            have LP3 := LP.step hb3 (Nat.le_refl _) rfl
            clear LP hb3
            rcases hor with ⟨rfl, hp, hf⟩ | ⟨hne, hf⟩
            · have hp2 := hp.symm
              subst hp2
              have hpr := (Lx.first_tok hf).1
              have htn : t.data.toList ≠ [] := (Lx.first_tok hf).2.resolve_right HE.out
              have htl : t.size ≤ r.size := by rw [size_of_list, size_of_list]; exact hpr.length_le
              have HT : Hid (Lx.lexS r.data.toList = _) := Lx.lexS_tok HB.out HE.out HC.out hf
              have HN : Hid (t.data.toList ≠ []) := htn
              have hfw := LP3.few
              have hlb := LP3.below.size
              have hnewA := heap_alloc_new w3 (.cells #[.int .i64 k, .string t, .int .i64 a] 47)
              have hnewB := heap_alloc_new (w3.alloc (.cells #[.int .i64 k, .string t, .int .i64 a] 47)) (.cells #[.int .i64 k, .string t, .int .i64 a] 47)
              have hA2 : ((w3.alloc (.cells #[.int .i64 k, .string t, .int .i64 a] 47)).alloc (.cells #[.int .i64 k, .string t, .int .i64 a] 47)).heap[w3.heap.size]? = some (.cells #[.int .i64 k, .string t, .int .i64 a] 47) := (Below.heap_alloc _ _ _ (by simp)).trans hnewA
              rw [World.size_alloc] at hnewB
              have LPA := LP3.step ((Below.refl _ _).alloc (Nat.le_refl _) (.cells #[.int .i64 k, .string t, .int .i64 a] 47)) (Nat.le_refl _) rfl
              have HNA : Hid (_ ∧ _) := ⟨hnewB, hA2⟩
              clear hpr htn hf hnewA hnewB hA2
              go_wp2_with (at_builtin; refine wpList_app rowTok rfl _ _ rfl (w.heap.size + 1) _ _ _ rfl (LPA.own.alloc _) ⟨w3.heap.size + 1, 0, none⟩ 1 [.int .i64 k, .string t, .int .i64 a] rfl rfl (World.news_of_block HNA.out.1) (by simp [Value.oneCell']) (by omega) (by simp; omega) (w3.heap.size + 2) (by simp) ?_)
              intro g cap w4 hown hgrow hat hlt hcap
              have hlow : ∀ q, u4.ownBlock = some q → w.heap.size + 1 ≤ q ∧ q < w3.heap.size := LP3.own.lt
              have hA4 := (hgrow.block w3.heap.size (by simp; omega) (fun q => by have := (hlow _ q.symm).2; omega)).trans HNA.out.2
              have hc1 : w4.cell? ⟨w3.heap.size, 1, none⟩ = some (.string t) := by simp [World.cell?, hA4]
              have LP4 := LPA.push (u' := s.extract (a + t.size) s.size) (d := a) (by have := HS.out; omega) HN.out htl HT.out (by rw [extract_drop, HR.out, List.drop_drop, size_toList]) hown hgrow
              clear hown hgrow hat LP3 LPA hfw hlb hlow HNA hA4
              have hpos : 0 < t.size := by rw [size_of_list]; exact List.length_pos_iff.2 HN.out
              have hts : a + t.size ≤ s.size := by have := HS.out; omega
              generalize w3.heap.size = tb at hc1 ⊢
              go_wp2_with fail
              go_roundw
              case rel => exact ⟨a + t.size, _, hts, by go_num, LP4⟩
              case measure => simp [intOf]; omega
            · have hne2 : ((er : Int) != 0) = true := by rw [bne_iff_ne]; omega
              obtain ⟨c0, c1, f0, f1⟩ := two_cells (show (w3.alloc (.cells #[.int .i64 k, .string t, .int .i64 p'] 47)).heap[w.heap.size]? = _ from (Below.heap_alloc _ _ _ (Array.getElem?_eq_some_iff.1 LP3.ret).1).trans LP3.ret)
              have HN : Hid (er ≠ 0) := hne
              have HT : Hid (Lx.lexS r.data.toList = _) := Lx.lexS_err HB.out HE.out HC.out hf
              have hB4 := LP3.below.alloc LP3.below.size (.cells #[.int .i64 k, .string t, .int .i64 p'] 47)
              have heq := LP3.eq
              have HQ : Hid ((Lx.lexS s.data.toList).2 = some (er, r.data.toList.length)) := by show _ = _; rw [heq, HT.out]
              clear hne hf heq LP3
              go_wp2_with fail
              refine bodyPost_ret (v := .tuple #[.slice none 0 0, .agg #[.int .i64 er, .int .i64 a]]) (by simp [results, Tryz.results8, go_sem, c0, c1]) rfl ?_
              exact ⟨_, _, _, rfl, (hB4.setCell (Nat.le_refl _) _).setCell (Nat.le_refl _) _, Or.inr ⟨er, _, HN.out, rfl, by rw [size_toList]; have := HS.out; omega, HQ.out, rfl⟩⟩
    · have hea : a = s.size := by omega
      subst hea
      obtain ⟨c0, c1, f0, f1⟩ := two_cells LP.ret
      have hq : Lx.lexS s.data.toList = (done, none) := by
        rw [LP.eq, extract_drop]
        have : s.data.toList.drop s.size = [] := by rw [List.drop_eq_nil_iff, size_toList]; omega
        rw [this, Lx.lexS_nil]; simp
      have HQ : Hid (_ = _) := hq
      clear hq
      go_wp2_with fail
      refine bodyPost_ret (v := .tuple #[u4, .agg #[.int .i64 0, .int .i64 0]]) (by simp [results, Tryz.results8, go_sem, c0, c1]) rfl ?_
      refine ⟨_, _, _, rfl, (LP.below.setCell (Nat.le_refl _) _).setCell (Nat.le_refl _) _, Or.inl ⟨rfl, rfl, by rw [HQ.out], ?_⟩⟩
      rw [HQ.out]
      exact (ownsRow_setCell_below (ownsRow_setCell_below LP.own (by simp) _) (by simp) _).mono (by omega)
end Go.Proofs.YtahalimekacliaaGreatDoor
namespace Go.Proofs.YtahalimekacliaaGreatDoor
open Go.RowKit Go.Shelf Tx Gx
theorem keepsE (b : Nat) : Keeps (PE b) := keeps_of (PE.stays (by decide))
theorem keepsEq (b : Nat) : Keeps (PEq b) := keeps_of (PEq.stays (by decide))
set_option maxRecDepth 100000 in
set_option maxHeartbeats 4000000 in
theorem rParams_eq (b1 b2 : Nat) (l : List Pm) (u v : Value) (w : World) (hl : l.length ≤ 200) (hu : Sg 2 (PPm b1) w u l) (hv : Sg 2 (PPm b2) w v l) :
    Calls Tryz.prog 24 #[u, v] w fun r w' => r = .returned (.bool true) ∧ ∃ k, w' = w.drewN k := by
  obtain ⟨a, c, rfl, hc, hx⟩ := hu.form (keepsPm b1)
  obtain ⟨a2, c2, rfl, hc2, hx2⟩ := hv.form (keepsPm b2)
  obtain ⟨n, hn⟩ : ∃ n, n = l.length := ⟨_, rfl⟩
  have HX := Lib.hid hx
  have HX2 := Lib.hid hx2
  rw [← hn] at hl hc hc2 ⊢
  have HN := Lib.hid hn
  have e0 : ((n : Int) != (n : Int)) = false := by simp
  clear hu hv hx hx2 hn
  go_enter Tryz.func24, Tryz.ntmps24
  go_wp2_with fail
  go_loopw [5] (fun i wr => ∃ t : Nat, i = .int .i64 t ∧ t ≤ n ∧ ∃ k, wr = w.drewN k) (fun i _ => n - (intOf i).toNat)
  case atStart => exact ⟨0, rfl, Nat.zero_le _, 0, rfl⟩
  case round =>
    obtain ⟨t, rfl, ht, k, hk⟩ := hrel
    by_cases hlt : t < n
    · obtain ⟨x, hx⟩ : ∃ x, l[t]? = some x := ⟨_, List.getElem?_eq_getElem (by have := HN.out; omega)⟩
      have hbw : Below w.heap.size w wr := by rw [hk]; exact below_drawn (Below.refl _ _) k
      have hbd : Below w.heap.size w wr.drew := hbw.drew
      obtain ⟨b, o, cs, rfl, hcs, hcell⟩ := HX.out _ hbd t x hx
      obtain ⟨b', o', cs', rfl, hcs', hcell'⟩ := HX2.out _ hbd t x hx
      cases hcs
      cases hcs'
      have c0 := hcell 0 _ rfl
      have c1 := hcell 1 _ rfl
      have d0 := hcell' 0 _ rfl
      have d1 := hcell' 1 _ rfl
      simp only [Nat.add_zero] at c0 d0
      have HEQ := fun W => eqPm x.name x.ty W
      have htn : (t : Int) < (n : Int) := by omega
      have ht0 : (0 : Int) ≤ (t : Int) := by omega
      have HK := Lib.hid hk
      clear hx hk hcell hcell' hbw hbd
      go_wp2_with fail
      go_region
      all_goals
        go_wp2_with fail
        go_roundw
        case rel => exact ⟨t + 1, by go_num, by omega, k + 1, by rw [HK.out]; rfl⟩
        case measure => simp [intOf]; omega
    · have hte : t = n := by omega
      subst hte
      have HK := Lib.hid hk
      clear hk
      go_wp2_with fail
      go_ret
      exact ⟨rfl, k, HK.out⟩
set_option maxRecDepth 100000 in
set_option maxHeartbeats 4000000 in
theorem rExprs_eq (b1 b2 : Nat) (l : List (List Nd)) (u v : Value) (w : World) (hl : l.length ≤ 200) (hs : ∀ e ∈ l, e.length ≤ 5000) (hu : Sg 1 (PE b1) w u l) (hv : Sg 1 (PE b2) w v l) :
    Calls Tryz.prog 26 #[u, v] w fun r w' => r = .returned (.bool true) ∧ ∃ k, w' = w.drewN k := by
  obtain ⟨a, c, rfl, hc, hx⟩ := hu.form (keepsE b1)
  obtain ⟨a2, c2, rfl, hc2, hx2⟩ := hv.form (keepsE b2)
  obtain ⟨n, hn⟩ : ∃ n, n = l.length := ⟨_, rfl⟩
  have HX := Lib.hid hx
  have HX2 := Lib.hid hx2
  have HS := Lib.hid hs
  rw [← hn] at hl hc hc2 ⊢
  have HN := Lib.hid hn
  have e0 : ((n : Int) != (n : Int)) = false := by simp
  clear hu hv hx hx2 hn hs
  go_enter Tryz.func26, Tryz.ntmps26
  go_wp2_with fail
  go_loopw [5] (fun i wr => ∃ t : Nat, i = .int .i64 t ∧ t ≤ n ∧ ∃ k, wr = w.drewN k) (fun i _ => n - (intOf i).toNat)
  case atStart => exact ⟨0, rfl, Nat.zero_le _, 0, rfl⟩
  case round =>
    obtain ⟨t, rfl, ht, k, hk⟩ := hrel
    by_cases hlt : t < n
    · obtain ⟨x, hx⟩ : ∃ x, l[t]? = some x := ⟨_, List.getElem?_eq_getElem (by have := HN.out; omega)⟩
      have hxs := HS.out x (List.mem_of_getElem? hx)
      have hbw : Below w.heap.size w wr := by rw [hk]; exact below_drawn (Below.refl _ _) k
      obtain ⟨b, o, cs, rfl, ⟨ve, rfl, hve⟩, hcell⟩ := HX.out _ hbw t x hx
      obtain ⟨b', o', cs', rfl, ⟨vf, rfl, hvf⟩, hcell'⟩ := HX2.out _ hbw t x hx
      obtain ⟨ea, ec, rfl, -⟩ := hve.form
      obtain ⟨fa, fc, rfl, -⟩ := hvf.form
      have c0 := hcell 0 _ rfl
      have d0 := hcell' 0 _ rfl
      simp only [Nat.add_zero, Nat.mul_one] at c0 d0
      have hsame := Same_any x x _ _ wr.drew (by omega) (by omega) (Sl.below hve.isE (Below.refl _ _).drew) (Sl.below hvf.isE (Below.refl _ _).drew)
      rw [decide_eq_true rfl] at hsame
      have htn : (t : Int) < (n : Int) := by omega
      have ht0 : (0 : Int) ≤ (t : Int) := by omega
      have HK := Lib.hid hk
      generalize x.length = xn at *
      have K0 : wr.cell? ⟨b, o + t, none⟩ = some (.slice ea xn ec) ∧ wr.cell? ⟨b', o' + t, none⟩ = some (.slice fa xn fc) := ⟨c0, d0⟩
      have K1 : wr.drew.cell? ⟨b, o + t, none⟩ = some (.slice ea xn ec) ∧ wr.drew.cell? ⟨b', o' + t, none⟩ = some (.slice fa xn fc) := ⟨c0, d0⟩
      have K2 : ∀ q, (wr.drewN q).cell? ⟨b, o + t, none⟩ = some (.slice ea xn ec) ∧ (wr.drewN q).cell? ⟨b', o' + t, none⟩ = some (.slice fa xn fc) := fun q => ⟨c0, d0⟩
      clear hx hk hcell hcell' hbw hve hvf c0 d0
      go_wp2_with fail
      go_region_held3 (fun w' => w'.cell? ⟨b, o + t, none⟩ = some (.slice ea xn ec) ∧ w'.cell? ⟨b', o' + t, none⟩ = some (.slice fa xn fc))
        (with_reducible first | exact K2 _ | exact K1 | exact K0)
        ((go_at_call 25; refine hsame.mono ?_; rintro r w4 ⟨rfl, kk, rfl⟩))
      go_wp2_with fail
      go_roundw
      case rel => exact ⟨t + 1, by go_num, by omega, _, by rw [HK.out, World.drewN_drewN]⟩
      case measure => simp [intOf]; omega
    · have hte : t = n := by omega
      subst hte
      have HK := Lib.hid hk
      clear hk
      go_wp2_with fail
      go_ret
      exact ⟨rfl, k, HK.out⟩
end Go.Proofs.YtahalimekacliaaGreatDoor
namespace Go.Proofs.YtahalimekacliaaGreatDoor
open Go.RowKit Go.Shelf Tx Gx
set_option maxRecDepth 100000 in
set_option maxHeartbeats 16000000 in
theorem rSameUnit_eq (b1 b2 : Nat) (x : Un) (hfew : UnFew x) (cs cs' : List Value) (w : World) (h1 : PUn b1 w cs x) (h2 : PUn b2 w cs' x) :
    Calls Tryz.prog 13 #[.agg cs.toArray, .agg cs'.toArray] w fun r w' => r = .returned (.bool true) ∧ Below w.heap.size w w' := by
  obtain ⟨vi, vv, vq, vx, rfl, hi1, hv1, hq1, hx1⟩ := h1
  obtain ⟨vi', vv', vq', vx', rfl, hi2, hv2, hq2, hx2⟩ := h2
  obtain ⟨ia, ic, rfl, -⟩ := hi1.form
  obtain ⟨ia2, ic2, rfl, -⟩ := hi2.form
  obtain ⟨va, vc, rfl, -⟩ := hv1.form
  obtain ⟨va2, vc2, rfl, -⟩ := hv2.form
  obtain ⟨qa, qc, rfl, -⟩ := hq1.form
  obtain ⟨qa2, qc2, rfl, -⟩ := hq2.form
  obtain ⟨xa, xc, rfl, -⟩ := hx1.form
  obtain ⟨xa2, xc2, rfl, -⟩ := hx2.form
  obtain ⟨cn, n, ins, ⟨on, ot⟩, vars, eqs, items⟩ := x
  simp only at hi1 hi2 hv1 hv2 hq1 hq2 hx1 hx2 ⊢
  have HFW := Lib.hid hfew
  have SI1 := Lib.hid hi1.sg
  have SI2 := Lib.hid hi2.sg
  have SV1 := Lib.hid hv1.sg
  have SV2 := Lib.hid hv2.sg
  have SQ1 := Lib.hid hq1.sg
  have SQ2 := Lib.hid hq2.sg
  have SX1 := Lib.hid hx1.sg
  have SX2 := Lib.hid hx2.sg
  clear hi1 hi2 hv1 hv2 hq1 hq2 hx1 hx2 hfew
  obtain ⟨il, h_il⟩ : ∃ k, k = ins.length := ⟨_, rfl⟩
  rw [← h_il] at SI1 SI2 ⊢
  have HIL := Lib.hid h_il
  obtain ⟨vl, h_vl⟩ : ∃ k, k = vars.length := ⟨_, rfl⟩
  rw [← h_vl] at SV1 SV2 ⊢
  have HVL := Lib.hid h_vl
  obtain ⟨ql, h_ql⟩ : ∃ k, k = eqs.length := ⟨_, rfl⟩
  rw [← h_ql] at SQ1 SQ2 ⊢
  have HQL := Lib.hid h_ql
  obtain ⟨xl, h_xl⟩ : ∃ k, k = items.length := ⟨_, rfl⟩
  rw [← h_xl] at SX1 SX2 ⊢
  have HXL := Lib.hid h_xl
  have hqb : ql ≤ 200 := by rw [h_ql]; exact HFW.out.q
  have hxb : xl ≤ 200 := by rw [h_xl]; exact HFW.out.x
  clear h_il h_vl h_ql h_xl
  obtain ⟨W0, hW0⟩ : ∃ W, W = (w.alloc (.cells #[.bool cn, .string n, .slice ia il ic, .string on, .int .i64 ot, .slice va vl vc, .slice qa ql qc, .slice xa xl xc] 43)).alloc (.cells #[.bool cn, .string n, .slice ia2 il ic2, .string on, .int .i64 ot, .slice va2 vl vc2, .slice qa2 ql qc2, .slice xa2 xl xc2] 43) := ⟨_, rfl⟩
  have b0 : Below w.heap.size w W0 := by rw [hW0]; exact ((Below.refl _ _).alloc (Nat.le_refl _) _).alloc (by simp) _
  have K1 : Blk W0 w.heap.size #[.bool cn, .string n, .slice ia il ic, .string on, .int .i64 ot, .slice va vl vc, .slice qa ql qc, .slice xa xl xc] 43 := by rw [hW0]; exact (Blk.new w _ _).below ((Below.refl _ _).alloc (Nat.le_refl _) _)
  have K2 : Blk W0 (w.heap.size + 1) #[.bool cn, .string n, .slice ia2 il ic2, .string on, .int .i64 ot, .slice va2 vl vc2, .slice qa2 ql qc2, .slice xa2 xl xc2] 43 := by rw [hW0]; have h := Blk.new (w.alloc (.cells #[.bool cn, .string n, .slice ia il ic, .string on, .int .i64 ot, .slice va vl vc, .slice qa ql qc, .slice xa xl xc] 43)) #[.bool cn, .string n, .slice ia2 il ic2, .string on, .int .i64 ot, .slice va2 vl vc2, .slice qa2 ql qc2, .slice xa2 xl xc2] 43; simpa using h
  have HW0 := Lib.hid hW0
  have HB0 := Lib.hid b0
  have HK1 := Lib.hid K1
  have HK2 := Lib.hid K2
  have hbb : (cn != cn) = false := by simp
  have hbe : (cn == cn) = true := by simp
  have hnn : (n.toList == n.toList) = true := by simp
  have hqq : ((ql : Int) != (ql : Int)) = false := by simp
  have hxx : ((xl : Int) != (xl : Int)) = false := by simp
  have HEQ := fun W => eqPm on ot W
  obtain ⟨x1, hx1⟩ : ∃ b, b = w.heap.size := ⟨_, rfl⟩
  obtain ⟨x2, hx2⟩ : ∃ b, b = w.heap.size + 1 := ⟨_, rfl⟩
  rw [← hx1] at HK1
  rw [← hx2] at HK2
  have HX1 := Lib.hid hx1
  have HX2 := Lib.hid hx2
  have hp1 := rParams_eq b1 b2 ins _ _ W0 HFW.out.i (by exact SI1.out.below (keepsPm b1) b0) (by exact SI2.out.below (keepsPm b2) b0)
  have k0 : W0.cell? ⟨x1, 0, none⟩ = some (.bool cn) := Blk.c HK1.out rfl
  have k1 : W0.cell? ⟨x1, 1, none⟩ = some (.string n) := Blk.c HK1.out rfl
  have k2 : W0.cell? ⟨x1, 2, none⟩ = some (.slice ia il ic) := Blk.c HK1.out rfl
  have k3 : W0.cell? ⟨x1, 3, none⟩ = some (.string on) := Blk.c HK1.out rfl
  have k4 : W0.cell? ⟨x1, 4, none⟩ = some (.int .i64 ot) := Blk.c HK1.out rfl
  have k5 : W0.cell? ⟨x1, 5, none⟩ = some (.slice va vl vc) := Blk.c HK1.out rfl
  have k6 : W0.cell? ⟨x1, 6, none⟩ = some (.slice qa ql qc) := Blk.c HK1.out rfl
  have k7 : W0.cell? ⟨x1, 7, none⟩ = some (.slice xa xl xc) := Blk.c HK1.out rfl
  have m0 : W0.cell? ⟨x2, 0, none⟩ = some (.bool cn) := Blk.c HK2.out rfl
  have m1 : W0.cell? ⟨x2, 1, none⟩ = some (.string n) := Blk.c HK2.out rfl
  have m2 : W0.cell? ⟨x2, 2, none⟩ = some (.slice ia2 il ic2) := Blk.c HK2.out rfl
  have m3 : W0.cell? ⟨x2, 3, none⟩ = some (.string on) := Blk.c HK2.out rfl
  have m4 : W0.cell? ⟨x2, 4, none⟩ = some (.int .i64 ot) := Blk.c HK2.out rfl
  have m5 : W0.cell? ⟨x2, 5, none⟩ = some (.slice va2 vl vc2) := Blk.c HK2.out rfl
  have m6 : W0.cell? ⟨x2, 6, none⟩ = some (.slice qa2 ql qc2) := Blk.c HK2.out rfl
  have m7 : W0.cell? ⟨x2, 7, none⟩ = some (.slice xa2 xl xc2) := Blk.c HK2.out rfl
  clear hW0 b0 K1 K2 hx1 hx2
  go_enter Tryz.func13, Tryz.ntmps13
  go_upto_region 1 with fail
  rw [← HW0.out, ← HX2.out, ← HX1.out]
  go_wp2_with fail
  refine hp1.mono ?_
  rintro r w1 ⟨rfl, q1, hq1⟩
  have B1 : Hid (Below w.heap.size w w1) := by show Below _ _ _; rw [hq1]; exact below_drawn HB0.out _
  have b01 : Below W0.heap.size W0 w1 := by rw [hq1]; exact below_drawn (Below.refl _ _) _
  have HK1 := Lib.hid (HK1.out.below b01)
  have HK2 := Lib.hid (HK2.out.below b01)
  have hp2 := rParams_eq b1 b2 vars _ _ w1 HFW.out.v (SV1.out.below (keepsPm b1) B1.out) (SV2.out.below (keepsPm b2) B1.out)
  clear hp1 hq1 b01 k0 m0 k1 m1 k2 m2 k3 m3 k4 m4 k5 m5 k6 m6 k7 m7
  have k0 : w1.cell? ⟨x1, 0, none⟩ = some (.bool cn) := Blk.c HK1.out rfl
  have k1 : w1.cell? ⟨x1, 1, none⟩ = some (.string n) := Blk.c HK1.out rfl
  have k2 : w1.cell? ⟨x1, 2, none⟩ = some (.slice ia il ic) := Blk.c HK1.out rfl
  have k3 : w1.cell? ⟨x1, 3, none⟩ = some (.string on) := Blk.c HK1.out rfl
  have k4 : w1.cell? ⟨x1, 4, none⟩ = some (.int .i64 ot) := Blk.c HK1.out rfl
  have k5 : w1.cell? ⟨x1, 5, none⟩ = some (.slice va vl vc) := Blk.c HK1.out rfl
  have k6 : w1.cell? ⟨x1, 6, none⟩ = some (.slice qa ql qc) := Blk.c HK1.out rfl
  have k7 : w1.cell? ⟨x1, 7, none⟩ = some (.slice xa xl xc) := Blk.c HK1.out rfl
  have m0 : w1.cell? ⟨x2, 0, none⟩ = some (.bool cn) := Blk.c HK2.out rfl
  have m1 : w1.cell? ⟨x2, 1, none⟩ = some (.string n) := Blk.c HK2.out rfl
  have m2 : w1.cell? ⟨x2, 2, none⟩ = some (.slice ia2 il ic2) := Blk.c HK2.out rfl
  have m3 : w1.cell? ⟨x2, 3, none⟩ = some (.string on) := Blk.c HK2.out rfl
  have m4 : w1.cell? ⟨x2, 4, none⟩ = some (.int .i64 ot) := Blk.c HK2.out rfl
  have m5 : w1.cell? ⟨x2, 5, none⟩ = some (.slice va2 vl vc2) := Blk.c HK2.out rfl
  have m6 : w1.cell? ⟨x2, 6, none⟩ = some (.slice qa2 ql qc2) := Blk.c HK2.out rfl
  have m7 : w1.cell? ⟨x2, 7, none⟩ = some (.slice xa2 xl xc2) := Blk.c HK2.out rfl
  go_wp2_with fail
  refine hp2.mono ?_
  rintro r w2 ⟨rfl, q2, hq2⟩
  have B2 : Hid (Below w.heap.size w w2) := by show Below _ _ _; rw [hq2]; exact below_drawn B1.out _
  have b12 : Below w1.heap.size w1 w2 := by rw [hq2]; exact below_drawn (Below.refl _ _) _
  have HK1 := Lib.hid (HK1.out.below b12)
  have HK2 := Lib.hid (HK2.out.below b12)
  clear hp2 hq2 b12 k0 m0 k1 m1 k2 m2 k3 m3 k4 m4 k5 m5 k6 m6 k7 m7
  have k0 : w2.cell? ⟨x1, 0, none⟩ = some (.bool cn) := Blk.c HK1.out rfl
  have k1 : w2.cell? ⟨x1, 1, none⟩ = some (.string n) := Blk.c HK1.out rfl
  have k2 : w2.cell? ⟨x1, 2, none⟩ = some (.slice ia il ic) := Blk.c HK1.out rfl
  have k3 : w2.cell? ⟨x1, 3, none⟩ = some (.string on) := Blk.c HK1.out rfl
  have k4 : w2.cell? ⟨x1, 4, none⟩ = some (.int .i64 ot) := Blk.c HK1.out rfl
  have k5 : w2.cell? ⟨x1, 5, none⟩ = some (.slice va vl vc) := Blk.c HK1.out rfl
  have k6 : w2.cell? ⟨x1, 6, none⟩ = some (.slice qa ql qc) := Blk.c HK1.out rfl
  have k7 : w2.cell? ⟨x1, 7, none⟩ = some (.slice xa xl xc) := Blk.c HK1.out rfl
  have m0 : w2.cell? ⟨x2, 0, none⟩ = some (.bool cn) := Blk.c HK2.out rfl
  have m1 : w2.cell? ⟨x2, 1, none⟩ = some (.string n) := Blk.c HK2.out rfl
  have m2 : w2.cell? ⟨x2, 2, none⟩ = some (.slice ia2 il ic2) := Blk.c HK2.out rfl
  have m3 : w2.cell? ⟨x2, 3, none⟩ = some (.string on) := Blk.c HK2.out rfl
  have m4 : w2.cell? ⟨x2, 4, none⟩ = some (.int .i64 ot) := Blk.c HK2.out rfl
  have m5 : w2.cell? ⟨x2, 5, none⟩ = some (.slice va2 vl vc2) := Blk.c HK2.out rfl
  have m6 : w2.cell? ⟨x2, 6, none⟩ = some (.slice qa2 ql qc2) := Blk.c HK2.out rfl
  have m7 : w2.cell? ⟨x2, 7, none⟩ = some (.slice xa2 xl xc2) := Blk.c HK2.out rfl
  go_wp2_with fail
  go_loopw [5] (fun i wr => ∃ t : Nat, i = .int .i64 t ∧ t ≤ ql ∧ ∃ k, wr = w2.drewN k) (fun i _ => ql - (intOf i).toNat)
  case atStart => exact ⟨0, rfl, Nat.zero_le _, 0, rfl⟩
  case round =>
    obtain ⟨t, rfl, ht, k, hk⟩ := hrel
    have bw : Below w2.heap.size w2 wr := by rw [hk]; exact below_drawn (Below.refl _ _) k
    have HK1 := Lib.hid (HK1.out.below bw)
    have HK2 := Lib.hid (HK2.out.below bw)
    have HBR : Hid (Below w.heap.size w wr) := below_next B2.out bw
    have HK := Lib.hid hk
    clear bw hk k0 m0 k1 m1 k2 m2 k3 m3 k4 m4 k5 m5 k6 m6 k7 m7
    have k0 : wr.cell? ⟨x1, 0, none⟩ = some (.bool cn) := Blk.c HK1.out rfl
    have k1 : wr.cell? ⟨x1, 1, none⟩ = some (.string n) := Blk.c HK1.out rfl
    have k2 : wr.cell? ⟨x1, 2, none⟩ = some (.slice ia il ic) := Blk.c HK1.out rfl
    have k3 : wr.cell? ⟨x1, 3, none⟩ = some (.string on) := Blk.c HK1.out rfl
    have k4 : wr.cell? ⟨x1, 4, none⟩ = some (.int .i64 ot) := Blk.c HK1.out rfl
    have k5 : wr.cell? ⟨x1, 5, none⟩ = some (.slice va vl vc) := Blk.c HK1.out rfl
    have k6 : wr.cell? ⟨x1, 6, none⟩ = some (.slice qa ql qc) := Blk.c HK1.out rfl
    have k7 : wr.cell? ⟨x1, 7, none⟩ = some (.slice xa xl xc) := Blk.c HK1.out rfl
    have m0 : wr.cell? ⟨x2, 0, none⟩ = some (.bool cn) := Blk.c HK2.out rfl
    have m1 : wr.cell? ⟨x2, 1, none⟩ = some (.string n) := Blk.c HK2.out rfl
    have m2 : wr.cell? ⟨x2, 2, none⟩ = some (.slice ia2 il ic2) := Blk.c HK2.out rfl
    have m3 : wr.cell? ⟨x2, 3, none⟩ = some (.string on) := Blk.c HK2.out rfl
    have m4 : wr.cell? ⟨x2, 4, none⟩ = some (.int .i64 ot) := Blk.c HK2.out rfl
    have m5 : wr.cell? ⟨x2, 5, none⟩ = some (.slice va2 vl vc2) := Blk.c HK2.out rfl
    have m6 : wr.cell? ⟨x2, 6, none⟩ = some (.slice qa2 ql qc2) := Blk.c HK2.out rfl
    have m7 : wr.cell? ⟨x2, 7, none⟩ = some (.slice xa2 xl xc2) := Blk.c HK2.out rfl
    by_cases hlt : t < ql
    · obtain ⟨x, hx⟩ : ∃ x, eqs[t]? = some x := ⟨_, List.getElem?_eq_getElem (by have := HQL.out; omega)⟩
      have hxs := HFW.out.qe x (List.mem_of_getElem? hx)
      obtain ⟨a_, c_, e_, -, hx1⟩ := SQ1.out.form (keepsEq b1)
      rw [← HQL.out] at e_
      cases e_
      obtain ⟨a_, c_, e_, -, hx2⟩ := SQ2.out.form (keepsEq b2)
      rw [← HQL.out] at e_
      cases e_
      obtain ⟨b, o, cs, rfl, ⟨ve, rfl, hve⟩, hcell⟩ := hx1 wr HBR.out t x hx
      obtain ⟨b', o', cs', rfl, ⟨vf, rfl, hvf⟩, hcell'⟩ := hx2 wr HBR.out t x hx
      obtain ⟨ea, ec, rfl, -⟩ := hve.form
      obtain ⟨fa, fc, rfl, -⟩ := hvf.form
      have c0 := hcell 0 _ rfl
      have c1 := hcell 1 _ rfl
      have d0 := hcell' 0 _ rfl
      have d1 := hcell' 1 _ rfl
      simp only [Nat.add_zero] at c0 d0
      have hsame := Same_any x.e x.e _ _ wr.drew (by omega) (by omega) (Sl.below hve.isE (Below.refl _ _).drew) (Sl.below hvf.isE (Below.refl _ _).drew)
      rw [decide_eq_true rfl] at hsame
      have htn2 : (t : Int) < (ql : Int) := by omega
      have ht0 : (0 : Int) ≤ (t : Int) := by omega
      have hee : (x.name.toList == x.name.toList) = true := by simp
      generalize x.e.length = xn at *
      generalize x.name = nm at *
      have KK0 : wr.cell? ⟨x1, 6, none⟩ = some (.slice (some ⟨b, o, none⟩) ql qc) ∧ wr.cell? ⟨x2, 6, none⟩ = some (.slice (some ⟨b', o', none⟩) ql qc2) ∧ wr.cell? ⟨b, o + t * 2, none⟩ = some (.string nm) ∧ wr.cell? ⟨b, o + t * 2 + 1, none⟩ = some (.slice ea xn ec) ∧ wr.cell? ⟨b', o' + t * 2, none⟩ = some (.string nm) ∧ wr.cell? ⟨b', o' + t * 2 + 1, none⟩ = some (.slice fa xn fc) := ⟨k6, m6, c0, c1, d0, d1⟩
      have KK1 : wr.drew.cell? ⟨x1, 6, none⟩ = some (.slice (some ⟨b, o, none⟩) ql qc) ∧ wr.drew.cell? ⟨x2, 6, none⟩ = some (.slice (some ⟨b', o', none⟩) ql qc2) ∧ wr.drew.cell? ⟨b, o + t * 2, none⟩ = some (.string nm) ∧ wr.drew.cell? ⟨b, o + t * 2 + 1, none⟩ = some (.slice ea xn ec) ∧ wr.drew.cell? ⟨b', o' + t * 2, none⟩ = some (.string nm) ∧ wr.drew.cell? ⟨b', o' + t * 2 + 1, none⟩ = some (.slice fa xn fc) := ⟨k6, m6, c0, c1, d0, d1⟩
      have KK2 : ∀ q, (wr.drewN q).cell? ⟨x1, 6, none⟩ = some (.slice (some ⟨b, o, none⟩) ql qc) ∧ (wr.drewN q).cell? ⟨x2, 6, none⟩ = some (.slice (some ⟨b', o', none⟩) ql qc2) ∧ (wr.drewN q).cell? ⟨b, o + t * 2, none⟩ = some (.string nm) ∧ (wr.drewN q).cell? ⟨b, o + t * 2 + 1, none⟩ = some (.slice ea xn ec) ∧ (wr.drewN q).cell? ⟨b', o' + t * 2, none⟩ = some (.string nm) ∧ (wr.drewN q).cell? ⟨b', o' + t * 2 + 1, none⟩ = some (.slice fa xn fc) := fun q => ⟨k6, m6, c0, c1, d0, d1⟩
      clear hx hcell hcell' hve hvf hx1 hx2 hxs
      go_wp2_with fail
      go_region_held3 (fun w' => w'.cell? ⟨x1, 6, none⟩ = some (.slice (some ⟨b, o, none⟩) ql qc) ∧ w'.cell? ⟨x2, 6, none⟩ = some (.slice (some ⟨b', o', none⟩) ql qc2) ∧ w'.cell? ⟨b, o + t * 2, none⟩ = some (.string nm) ∧ w'.cell? ⟨b, o + t * 2 + 1, none⟩ = some (.slice ea xn ec) ∧ w'.cell? ⟨b', o' + t * 2, none⟩ = some (.string nm) ∧ w'.cell? ⟨b', o' + t * 2 + 1, none⟩ = some (.slice fa xn fc))
        (with_reducible first | exact KK2 _ | exact KK1 | exact KK0)
        ((go_at_call 25; refine hsame.mono ?_; rintro r w4 ⟨rfl, kk, rfl⟩))
      go_wp2_with fail
      go_roundw
      case rel => exact ⟨t + 1, by go_num, by omega, _, by rw [HK.out, World.drewN_drewN]⟩
      case measure => simp [intOf]; omega
    · have hte : t = ql := by omega
      subst hte
      go_wp2_with fail
      obtain ⟨w3, rfl⟩ : ∃ W : World, W = wr := ⟨_, rfl⟩
      clear k0 m0 k1 m1 k2 m2 k3 m3 k4 m4 k5 m5 k6 m6 k7 m7
      go_loopw [6] (fun i wr2 => ∃ u : Nat, i = .int .i64 u ∧ u ≤ xl ∧ Below w3.heap.size w3 wr2) (fun i _ => xl - (intOf i).toNat)
      case atStart => exact ⟨0, rfl, Nat.zero_le _, Below.refl _ _⟩
      case round =>
        obtain ⟨u, rfl, hu, bw⟩ := hrel
        have HK1 := Lib.hid (HK1.out.below bw)
        have HK2 := Lib.hid (HK2.out.below bw)
        have HBW : Hid (Below w.heap.size w wr) := below_next HBR.out bw
        have HBU := Lib.hid bw
        clear bw
        have k0 : wr.cell? ⟨x1, 0, none⟩ = some (.bool cn) := Blk.c HK1.out rfl
        have k1 : wr.cell? ⟨x1, 1, none⟩ = some (.string n) := Blk.c HK1.out rfl
        have k2 : wr.cell? ⟨x1, 2, none⟩ = some (.slice ia il ic) := Blk.c HK1.out rfl
        have k3 : wr.cell? ⟨x1, 3, none⟩ = some (.string on) := Blk.c HK1.out rfl
        have k4 : wr.cell? ⟨x1, 4, none⟩ = some (.int .i64 ot) := Blk.c HK1.out rfl
        have k5 : wr.cell? ⟨x1, 5, none⟩ = some (.slice va vl vc) := Blk.c HK1.out rfl
        have k6 : wr.cell? ⟨x1, 6, none⟩ = some (.slice qa t qc) := Blk.c HK1.out rfl
        have k7 : wr.cell? ⟨x1, 7, none⟩ = some (.slice xa xl xc) := Blk.c HK1.out rfl
        have m0 : wr.cell? ⟨x2, 0, none⟩ = some (.bool cn) := Blk.c HK2.out rfl
        have m1 : wr.cell? ⟨x2, 1, none⟩ = some (.string n) := Blk.c HK2.out rfl
        have m2 : wr.cell? ⟨x2, 2, none⟩ = some (.slice ia2 il ic2) := Blk.c HK2.out rfl
        have m3 : wr.cell? ⟨x2, 3, none⟩ = some (.string on) := Blk.c HK2.out rfl
        have m4 : wr.cell? ⟨x2, 4, none⟩ = some (.int .i64 ot) := Blk.c HK2.out rfl
        have m5 : wr.cell? ⟨x2, 5, none⟩ = some (.slice va2 vl vc2) := Blk.c HK2.out rfl
        have m6 : wr.cell? ⟨x2, 6, none⟩ = some (.slice qa2 t qc2) := Blk.c HK2.out rfl
        have m7 : wr.cell? ⟨x2, 7, none⟩ = some (.slice xa2 xl xc2) := Blk.c HK2.out rfl
        by_cases hlu : u < xl
        · obtain ⟨y, hy⟩ : ∃ y, items[u]? = some y := ⟨_, List.getElem?_eq_getElem (by have := HXL.out; omega)⟩
          have hys := HFW.out.xe y (List.mem_of_getElem? hy)
          obtain ⟨a_, c_, e_, -, hx1⟩ := SX1.out.form (keepsIm b1)
          rw [← HXL.out] at e_
          cases e_
          obtain ⟨a_, c_, e_, -, hx2⟩ := SX2.out.form (keepsIm b2)
          rw [← HXL.out] at e_
          cases e_
          obtain ⟨b, o, cs, rfl, ⟨ve, vf, vg, rfl, hve, hvf, hvg⟩, hcell⟩ := hx1 wr HBW.out u y hy
          obtain ⟨b', o', cs', rfl, ⟨ve', vf', vg', rfl, hve', hvf', hvg'⟩, hcell'⟩ := hx2 wr HBW.out u y hy
          obtain ⟨ea, ec, rfl, -⟩ := hve.form
          obtain ⟨fa, fc, rfl, -⟩ := hvf.form
          obtain ⟨ga, gc, rfl, -⟩ := hvg.form
          obtain ⟨ea2, ec2, rfl, -⟩ := hve'.form
          obtain ⟨fa2, fc2, rfl, -⟩ := hvf'.form
          obtain ⟨ga2, gc2, rfl, -⟩ := hvg'.form
          have c0 := hcell 0 _ rfl
          have d0 := hcell' 0 _ rfl
          have c1 := hcell 1 _ rfl
          have d1 := hcell' 1 _ rfl
          have c2 := hcell 2 _ rfl
          have d2 := hcell' 2 _ rfl
          have c3 := hcell 3 _ rfl
          have d3 := hcell' 3 _ rfl
          have c4 := hcell 4 _ rfl
          have d4 := hcell' 4 _ rfl
          have c5 := hcell 5 _ rfl
          have d5 := hcell' 5 _ rfl
          simp only [Nat.add_zero] at c0 d0
          have HYS := Lib.hid hys
          have HE1 := Lib.hid hve
          have HE2 := Lib.hid hve'
          have HF1 := Lib.hid hvf
          have HF2 := Lib.hid hvf'
          have HG1 := Lib.hid hvg.sg
          have HG2 := Lib.hid hvg'.sg
          have hun : (u : Int) < (xl : Int) := by omega
          have hu0 : (0 : Int) ≤ (u : Int) := by omega
          have htt : (y.name.toList == y.name.toList) = true := by simp
          have hkk : (y.kind != y.kind) = false := by simp
          have hyy : (y.ty != y.ty) = false := by simp
          clear hy hcell hcell' hve hvf hvg hve' hvf' hvg' hx1 hx2 hys
          obtain ⟨W1, hW1⟩ : ∃ W, W = wr.alloc (.cells #[.int .i64 y.kind, .string y.name, .int .i64 y.ty, .slice ea y.e.length ec, .slice fa y.f.length fc, .slice ga y.args.length gc] 54) := ⟨_, rfl⟩
          obtain ⟨W2, hW2⟩ : ∃ W, W = W1.alloc (.cells #[.int .i64 y.kind, .string y.name, .int .i64 y.ty, .slice ea2 y.e.length ec2, .slice fa2 y.f.length fc2, .slice ga2 y.args.length gc2] 54) := ⟨_, rfl⟩
          have b1_ : Below wr.heap.size wr W1 := by rw [hW1]; exact (Below.refl _ _).alloc (Nat.le_refl _) _
          have b2_ : Below W1.heap.size W1 W2 := by rw [hW2]; exact (Below.refl _ _).alloc (Nat.le_refl _) _
          have Y1 : Hid (Blk W2 wr.heap.size #[.int .i64 y.kind, .string y.name, .int .i64 y.ty, .slice ea y.e.length ec, .slice fa y.f.length fc, .slice ga y.args.length gc] 54) := by show Blk _ _ _ _; exact (show Blk W1 wr.heap.size _ _ by rw [hW1]; exact Blk.new wr _ _).below b2_
          have Y2 : Hid (Blk W2 W1.heap.size #[.int .i64 y.kind, .string y.name, .int .i64 y.ty, .slice ea2 y.e.length ec2, .slice fa2 y.f.length fc2, .slice ga2 y.args.length gc2] 54) := by show Blk _ _ _ _; rw [hW2]; exact Blk.new W1 _ _
          have b12 : Hid (Below wr.heap.size wr W2) := below_next b1_ b2_
          have HW1 := Lib.hid hW1
          have HW2 := Lib.hid hW2
          have HX27 : ∀ j v, wr.cell? ⟨x2, j, none⟩ = some v → W1.cell? ⟨x2, j, none⟩ = some v := fun j v h => (b1_.cell (World.block_lt_of_cell? wr _ h)).trans h
          have HXD : ∀ j v, wr.cell? ⟨b', j, none⟩ = some v → W1.cell? ⟨b', j, none⟩ = some v := fun j v h => (b1_.cell (World.block_lt_of_cell? wr _ h)).trans h
          have m7 := HX27 _ _ m7
          have d0 := HXD _ _ d0
          have d1 := HXD _ _ d1
          have d2 := HXD _ _ d2
          have d3 := HXD _ _ d3
          have d4 := HXD _ _ d4
          have d5 := HXD _ _ d5
          have hs1 := Same_any y.e y.e _ _ W2 (by have := HYS.out.e; omega) (by have := HYS.out.e; omega) (Sl.below HE1.out.isE b12.out) (Sl.below HE2.out.isE b12.out)
          rw [decide_eq_true rfl] at hs1
          have HS2 : Hid (∀ W, Below W2.heap.size W2 W → Calls Tryz.prog 25 #[.slice fa y.f.length fc, .slice fa2 y.f.length fc2] W fun r w' => r = .returned (.bool true) ∧ ∃ k, w' = W.drewN k) := fun W hW => by
            have h := Same_any y.f y.f _ _ W (by have := HYS.out.f; omega) (by have := HYS.out.f; omega) (Sl.below HF1.out.isE (below_next b12.out hW)) (Sl.below HF2.out.isE (below_next b12.out hW))
            rw [decide_eq_true rfl] at h
            exact h
          have HS3 : Hid (∀ W, Below W2.heap.size W2 W → Calls Tryz.prog 26 #[.slice ga y.args.length gc, .slice ga2 y.args.length gc2] W fun r w' => r = .returned (.bool true) ∧ ∃ k, w' = W.drewN k) := fun W hW =>
            rExprs_eq b1 b2 y.args _ _ W HYS.out.n HYS.out.a (HG1.out.below (keepsE b1) (below_next b12.out hW)) (HG2.out.below (keepsE b2) (below_next b12.out hW))
          clear hW1 hW2 b1_ b2_ HX27 HXD
          generalize y.e.length = el at *
          generalize y.f.length = fl at *
          generalize y.args.length = gl at *
          generalize y.kind = kd at *
          generalize y.name = nm at *
          generalize y.ty = ty at *
          go_upto_region 12 with fail
          rw [← HW1.out]
          go_upto_region 13 with fail
          rw [← HW2.out]
          obtain ⟨y1, hy1⟩ : ∃ b, b = wr.heap.size := ⟨_, rfl⟩
          obtain ⟨y2, hy2⟩ : ∃ b, b = W1.heap.size := ⟨_, rfl⟩
          rw [← hy1] at Y1 ⊢
          rw [← hy2] at Y2 ⊢
          clear hy1 hy2
          clear k0 m0 k1 m1 k2 m2 k3 m3 k4 m4 k5 m5 k6 m6 k7 m7 c0 c1 c2 c3 c4 c5 d0 d1 d2 d3 d4 d5
          have c0 : W2.cell? ⟨y1, 0, none⟩ = some (.int .i64 kd) := Blk.c Y1.out rfl
          have c1 : W2.cell? ⟨y1, 1, none⟩ = some (.string nm) := Blk.c Y1.out rfl
          have c2 : W2.cell? ⟨y1, 2, none⟩ = some (.int .i64 ty) := Blk.c Y1.out rfl
          have c3 : W2.cell? ⟨y1, 3, none⟩ = some (.slice ea el ec) := Blk.c Y1.out rfl
          have c4 : W2.cell? ⟨y1, 4, none⟩ = some (.slice fa fl fc) := Blk.c Y1.out rfl
          have c5 : W2.cell? ⟨y1, 5, none⟩ = some (.slice ga gl gc) := Blk.c Y1.out rfl
          have d0 : W2.cell? ⟨y2, 0, none⟩ = some (.int .i64 kd) := Blk.c Y2.out rfl
          have d1 : W2.cell? ⟨y2, 1, none⟩ = some (.string nm) := Blk.c Y2.out rfl
          have d2 : W2.cell? ⟨y2, 2, none⟩ = some (.int .i64 ty) := Blk.c Y2.out rfl
          have d3 : W2.cell? ⟨y2, 3, none⟩ = some (.slice ea2 el ec2) := Blk.c Y2.out rfl
          have d4 : W2.cell? ⟨y2, 4, none⟩ = some (.slice fa2 fl fc2) := Blk.c Y2.out rfl
          have d5 : W2.cell? ⟨y2, 5, none⟩ = some (.slice ga2 gl gc2) := Blk.c Y2.out rfl
          go_wp2_with fail
          refine hs1.mono ?_
          rintro r w5 ⟨rfl, q_, hq_⟩
          have Bw5 : Hid (Below W2.heap.size W2 w5) := by show Below _ _ _; rw [hq_]; exact below_drawn (Below.refl _ _) _
          clear hs1 hq_ c0 c1 c2 c3 c4 c5 d0 d1 d2 d3 d4 d5
          have c0 : w5.cell? ⟨y1, 0, none⟩ = some (.int .i64 kd) := Blk.c (Y1.out.below Bw5.out) rfl
          have c1 : w5.cell? ⟨y1, 1, none⟩ = some (.string nm) := Blk.c (Y1.out.below Bw5.out) rfl
          have c2 : w5.cell? ⟨y1, 2, none⟩ = some (.int .i64 ty) := Blk.c (Y1.out.below Bw5.out) rfl
          have c3 : w5.cell? ⟨y1, 3, none⟩ = some (.slice ea el ec) := Blk.c (Y1.out.below Bw5.out) rfl
          have c4 : w5.cell? ⟨y1, 4, none⟩ = some (.slice fa fl fc) := Blk.c (Y1.out.below Bw5.out) rfl
          have c5 : w5.cell? ⟨y1, 5, none⟩ = some (.slice ga gl gc) := Blk.c (Y1.out.below Bw5.out) rfl
          have d0 : w5.cell? ⟨y2, 0, none⟩ = some (.int .i64 kd) := Blk.c (Y2.out.below Bw5.out) rfl
          have d1 : w5.cell? ⟨y2, 1, none⟩ = some (.string nm) := Blk.c (Y2.out.below Bw5.out) rfl
          have d2 : w5.cell? ⟨y2, 2, none⟩ = some (.int .i64 ty) := Blk.c (Y2.out.below Bw5.out) rfl
          have d3 : w5.cell? ⟨y2, 3, none⟩ = some (.slice ea2 el ec2) := Blk.c (Y2.out.below Bw5.out) rfl
          have d4 : w5.cell? ⟨y2, 4, none⟩ = some (.slice fa2 fl fc2) := Blk.c (Y2.out.below Bw5.out) rfl
          have d5 : w5.cell? ⟨y2, 5, none⟩ = some (.slice ga2 gl gc2) := Blk.c (Y2.out.below Bw5.out) rfl
          have hs2 := HS2.out w5 Bw5.out
          go_wp2_with fail
          refine hs2.mono ?_
          rintro r w6 ⟨rfl, q_, hq_⟩
          have Bw6 : Hid (Below W2.heap.size W2 w6) := by show Below _ _ _; rw [hq_]; exact below_drawn Bw5.out _
          clear hs2 hq_ c0 c1 c2 c3 c4 c5 d0 d1 d2 d3 d4 d5
          have c0 : w6.cell? ⟨y1, 0, none⟩ = some (.int .i64 kd) := Blk.c (Y1.out.below Bw6.out) rfl
          have c1 : w6.cell? ⟨y1, 1, none⟩ = some (.string nm) := Blk.c (Y1.out.below Bw6.out) rfl
          have c2 : w6.cell? ⟨y1, 2, none⟩ = some (.int .i64 ty) := Blk.c (Y1.out.below Bw6.out) rfl
          have c3 : w6.cell? ⟨y1, 3, none⟩ = some (.slice ea el ec) := Blk.c (Y1.out.below Bw6.out) rfl
          have c4 : w6.cell? ⟨y1, 4, none⟩ = some (.slice fa fl fc) := Blk.c (Y1.out.below Bw6.out) rfl
          have c5 : w6.cell? ⟨y1, 5, none⟩ = some (.slice ga gl gc) := Blk.c (Y1.out.below Bw6.out) rfl
          have d0 : w6.cell? ⟨y2, 0, none⟩ = some (.int .i64 kd) := Blk.c (Y2.out.below Bw6.out) rfl
          have d1 : w6.cell? ⟨y2, 1, none⟩ = some (.string nm) := Blk.c (Y2.out.below Bw6.out) rfl
          have d2 : w6.cell? ⟨y2, 2, none⟩ = some (.int .i64 ty) := Blk.c (Y2.out.below Bw6.out) rfl
          have d3 : w6.cell? ⟨y2, 3, none⟩ = some (.slice ea2 el ec2) := Blk.c (Y2.out.below Bw6.out) rfl
          have d4 : w6.cell? ⟨y2, 4, none⟩ = some (.slice fa2 fl fc2) := Blk.c (Y2.out.below Bw6.out) rfl
          have d5 : w6.cell? ⟨y2, 5, none⟩ = some (.slice ga2 gl gc2) := Blk.c (Y2.out.below Bw6.out) rfl
          have hs3 := HS3.out w6 Bw6.out
          go_wp2_with fail
          refine hs3.mono ?_
          rintro r w7 ⟨rfl, q_, hq_⟩
          have Bw7 : Hid (Below W2.heap.size W2 w7) := by show Below _ _ _; rw [hq_]; exact below_drawn Bw6.out _
          clear hs3 hq_ c0 c1 c2 c3 c4 c5 d0 d1 d2 d3 d4 d5
          have c0 : w7.cell? ⟨y1, 0, none⟩ = some (.int .i64 kd) := Blk.c (Y1.out.below Bw7.out) rfl
          have c1 : w7.cell? ⟨y1, 1, none⟩ = some (.string nm) := Blk.c (Y1.out.below Bw7.out) rfl
          have c2 : w7.cell? ⟨y1, 2, none⟩ = some (.int .i64 ty) := Blk.c (Y1.out.below Bw7.out) rfl
          have c3 : w7.cell? ⟨y1, 3, none⟩ = some (.slice ea el ec) := Blk.c (Y1.out.below Bw7.out) rfl
          have c4 : w7.cell? ⟨y1, 4, none⟩ = some (.slice fa fl fc) := Blk.c (Y1.out.below Bw7.out) rfl
          have c5 : w7.cell? ⟨y1, 5, none⟩ = some (.slice ga gl gc) := Blk.c (Y1.out.below Bw7.out) rfl
          have d0 : w7.cell? ⟨y2, 0, none⟩ = some (.int .i64 kd) := Blk.c (Y2.out.below Bw7.out) rfl
          have d1 : w7.cell? ⟨y2, 1, none⟩ = some (.string nm) := Blk.c (Y2.out.below Bw7.out) rfl
          have d2 : w7.cell? ⟨y2, 2, none⟩ = some (.int .i64 ty) := Blk.c (Y2.out.below Bw7.out) rfl
          have d3 : w7.cell? ⟨y2, 3, none⟩ = some (.slice ea2 el ec2) := Blk.c (Y2.out.below Bw7.out) rfl
          have d4 : w7.cell? ⟨y2, 4, none⟩ = some (.slice fa2 fl fc2) := Blk.c (Y2.out.below Bw7.out) rfl
          have d5 : w7.cell? ⟨y2, 5, none⟩ = some (.slice ga2 gl gc2) := Blk.c (Y2.out.below Bw7.out) rfl
          go_wp2_with fail
          go_roundw
          case rel => exact ⟨u + 1, by go_num, by omega, below_next HBU.out (below_next b12.out Bw7.out)⟩
          case measure => simp [intOf]; omega
        · have hue : u = xl := by omega
          subst hue
          go_wp2_with fail
          go_ret
          exact ⟨rfl, HBW.out⟩
end Go.Proofs.YtahalimekacliaaGreatDoor
namespace Go.Proofs.YtahalimekacliaaGreatDoor
open Go.RowKit Go.Shelf Tx Gx
set_option maxRecDepth 100000 in
set_option maxHeartbeats 8000000 in
theorem rSamePg_eq (b1 b2 : Nat) (us : List Un) (mn bk : ByteArray) (n : Nat) (hn : n = us.length) (hl : us.length ≤ 200) (hfew : ∀ y ∈ us, UnFew y) (ua ua2 : Option Addr) (uc uc2 : Nat) (w : World) (h1 : Sg 8 (PUn b1) w (.slice ua n uc) us) (h2 : Sg 8 (PUn b2) w (.slice ua2 n uc2) us) :
    Calls Tryz.prog 12 #[.agg #[.slice ua n uc, .string mn, .string bk], .agg #[.slice ua2 n uc2, .string mn, .string bk]] w fun r w' => r = .returned (.bool true) ∧ Below w.heap.size w w' := by
  have HS1 := Lib.hid h1
  have HS2 := Lib.hid h2
  have HN := Lib.hid hn
  have HFW := Lib.hid hfew
  have hnb : n ≤ 200 := by omega
  clear h1 h2 hn hfew hl
  obtain ⟨W0, hW0⟩ : ∃ W, W = (w.alloc (.cells #[.slice ua n uc, .string mn, .string bk] 31)).alloc (.cells #[.slice ua2 n uc2, .string mn, .string bk] 31) := ⟨_, rfl⟩
  have b0 : Below w.heap.size w W0 := by rw [hW0]; exact ((Below.refl _ _).alloc (Nat.le_refl _) _).alloc (by simp) _
  have K1 : Blk W0 w.heap.size #[.slice ua n uc, .string mn, .string bk] 31 := by rw [hW0]; exact (Blk.new w _ _).below ((Below.refl _ _).alloc (Nat.le_refl _) _)
  have K2 : Blk W0 (w.heap.size + 1) #[.slice ua2 n uc2, .string mn, .string bk] 31 := by rw [hW0]; have h := Blk.new (w.alloc (.cells #[.slice ua n uc, .string mn, .string bk] 31)) #[.slice ua2 n uc2, .string mn, .string bk] 31; simpa using h
  have HW0 := Lib.hid hW0
  have HB0 := Lib.hid b0
  have HK1 := Lib.hid K1
  have HK2 := Lib.hid K2
  have hmm : (mn.toList == mn.toList) = true := by simp
  have hkk : (bk.toList == bk.toList) = true := by simp
  have hnn : ((n : Int) != (n : Int)) = false := by simp
  obtain ⟨x1, hx1⟩ : ∃ b, b = w.heap.size := ⟨_, rfl⟩
  obtain ⟨x2, hx2⟩ : ∃ b, b = w.heap.size + 1 := ⟨_, rfl⟩
  rw [← hx1] at HK1
  rw [← hx2] at HK2
  have HX1 := Lib.hid hx1
  have HX2 := Lib.hid hx2
  have k0 : W0.cell? ⟨x1, 0, none⟩ = some (.slice ua n uc) := Blk.c HK1.out rfl
  have k1 : W0.cell? ⟨x1, 1, none⟩ = some (.string mn) := Blk.c HK1.out rfl
  have k2 : W0.cell? ⟨x1, 2, none⟩ = some (.string bk) := Blk.c HK1.out rfl
  have m0 : W0.cell? ⟨x2, 0, none⟩ = some (.slice ua2 n uc2) := Blk.c HK2.out rfl
  have m1 : W0.cell? ⟨x2, 1, none⟩ = some (.string mn) := Blk.c HK2.out rfl
  have m2 : W0.cell? ⟨x2, 2, none⟩ = some (.string bk) := Blk.c HK2.out rfl
  clear hW0 b0 K1 K2 hx1 hx2
  go_enter Tryz.func12, Tryz.ntmps12
  go_upto_region 1 with fail
  rw [← HW0.out, ← HX2.out, ← HX1.out]
  go_wp2_with fail
  go_loopw [5] (fun i wr => ∃ t : Nat, i = .int .i64 t ∧ t ≤ n ∧ Below W0.heap.size W0 wr) (fun i _ => n - (intOf i).toNat)
  case atStart => exact ⟨0, rfl, Nat.zero_le _, Below.refl _ _⟩
  case round =>
    obtain ⟨t, rfl, ht, bw⟩ := hrel
    have HK1 := Lib.hid (HK1.out.below bw)
    have HK2 := Lib.hid (HK2.out.below bw)
    have HBR : Hid (Below w.heap.size w wr) := below_next HB0.out bw
    have HBU := Lib.hid bw
    clear bw k0 k1 k2 m0 m1 m2
    have k0 : wr.cell? ⟨x1, 0, none⟩ = some (.slice ua n uc) := Blk.c HK1.out rfl
    have k1 : wr.cell? ⟨x1, 1, none⟩ = some (.string mn) := Blk.c HK1.out rfl
    have k2 : wr.cell? ⟨x1, 2, none⟩ = some (.string bk) := Blk.c HK1.out rfl
    have m0 : wr.cell? ⟨x2, 0, none⟩ = some (.slice ua2 n uc2) := Blk.c HK2.out rfl
    have m1 : wr.cell? ⟨x2, 1, none⟩ = some (.string mn) := Blk.c HK2.out rfl
    have m2 : wr.cell? ⟨x2, 2, none⟩ = some (.string bk) := Blk.c HK2.out rfl
    by_cases hlt : t < n
    · obtain ⟨x, hx⟩ : ∃ x, us[t]? = some x := ⟨_, List.getElem?_eq_getElem (by have := HN.out; omega)⟩
      have hxs := HFW.out x (List.mem_of_getElem? hx)
      obtain ⟨a_, c_, e_, -, hx1⟩ := HS1.out.form (keepsUn b1)
      rw [← HN.out] at e_
      cases e_
      obtain ⟨a_, c_, e_, -, hx2⟩ := HS2.out.form (keepsUn b2)
      rw [← HN.out] at e_
      cases e_
      obtain ⟨b, o, cs, rfl, hp1, hcell⟩ := hx1 wr HBR.out t x hx
      obtain ⟨b', o', cs', rfl, hp2, hcell'⟩ := hx2 wr HBR.out t x hx
      have hcall := rSameUnit_eq b1 b2 x hxs cs cs' wr.drew (keepsUn b1 _ _ _ _ hp1 (Below.refl _ _).drew) (keepsUn b2 _ _ _ _ hp2 (Below.refl _ _).drew)
      obtain ⟨vi, vv, vq, vx, rfl, hi1, hv1, hq1, hx1_⟩ := hp1
      obtain ⟨vi', vv', vq', vx', rfl, hi2, hv2, hq2, hx2_⟩ := hp2
      obtain ⟨ia, ic, rfl, -⟩ := hi1.form
      obtain ⟨ia2, ic2, rfl, -⟩ := hi2.form
      obtain ⟨va, vc, rfl, -⟩ := hv1.form
      obtain ⟨va2, vc2, rfl, -⟩ := hv2.form
      obtain ⟨qa, qc, rfl, -⟩ := hq1.form
      obtain ⟨qa2, qc2, rfl, -⟩ := hq2.form
      obtain ⟨xa, xc, rfl, -⟩ := hx1_.form
      obtain ⟨xa2, xc2, rfl, -⟩ := hx2_.form
      have c0 := hcell 0 _ rfl
      have d0 := hcell' 0 _ rfl
      have c1 := hcell 1 _ rfl
      have d1 := hcell' 1 _ rfl
      have c2 := hcell 2 _ rfl
      have d2 := hcell' 2 _ rfl
      have c3 := hcell 3 _ rfl
      have d3 := hcell' 3 _ rfl
      have c4 := hcell 4 _ rfl
      have d4 := hcell' 4 _ rfl
      have c5 := hcell 5 _ rfl
      have d5 := hcell' 5 _ rfl
      have c6 := hcell 6 _ rfl
      have d6 := hcell' 6 _ rfl
      have c7 := hcell 7 _ rfl
      have d7 := hcell' 7 _ rfl
      simp only [Nat.add_zero] at c0 d0
      clear hi1 hi2 hv1 hv2 hq1 hq2 hx1_ hx2_ hcell hcell' hx1 hx2 hx hxs
      obtain ⟨cn, nm, ins, ⟨on, ot⟩, vars, eqs, items⟩ := x
      simp only at hcall c0 c1 c2 c3 c4 c5 c6 c7 d0 d1 d2 d3 d4 d5 d6 d7
      generalize ins.length = il at *
      generalize vars.length = vl at *
      generalize eqs.length = ql at *
      generalize items.length = xl at *
      have HK : Hid (∀ W, Below wr.heap.size wr W → W.cell? ⟨x1, 0, none⟩ = some (.slice (some ⟨b, o, none⟩) n uc) ∧ W.cell? ⟨x2, 0, none⟩ = some (.slice (some ⟨b', o', none⟩) n uc2) ∧ W.cell? ⟨b, o + t * 8, none⟩ = some (.bool cn) ∧ W.cell? ⟨b, o + t * 8 + 1, none⟩ = some (.string nm) ∧ W.cell? ⟨b, o + t * 8 + 2, none⟩ = some (.slice ia il ic) ∧ W.cell? ⟨b, o + t * 8 + 3, none⟩ = some (.string on) ∧ W.cell? ⟨b, o + t * 8 + 4, none⟩ = some (.int .i64 ot) ∧ W.cell? ⟨b, o + t * 8 + 5, none⟩ = some (.slice va vl vc) ∧ W.cell? ⟨b, o + t * 8 + 6, none⟩ = some (.slice qa ql qc) ∧ W.cell? ⟨b, o + t * 8 + 7, none⟩ = some (.slice xa xl xc) ∧ W.cell? ⟨b', o' + t * 8, none⟩ = some (.bool cn) ∧ W.cell? ⟨b', o' + t * 8 + 1, none⟩ = some (.string nm) ∧ W.cell? ⟨b', o' + t * 8 + 2, none⟩ = some (.slice ia2 il ic2) ∧ W.cell? ⟨b', o' + t * 8 + 3, none⟩ = some (.string on) ∧ W.cell? ⟨b', o' + t * 8 + 4, none⟩ = some (.int .i64 ot) ∧ W.cell? ⟨b', o' + t * 8 + 5, none⟩ = some (.slice va2 vl vc2) ∧ W.cell? ⟨b', o' + t * 8 + 6, none⟩ = some (.slice qa2 ql qc2) ∧ W.cell? ⟨b', o' + t * 8 + 7, none⟩ = some (.slice xa2 xl xc2)) := fun W hW =>
        ⟨(hW.cell (World.block_lt_of_cell? wr _ k0)).trans k0, (hW.cell (World.block_lt_of_cell? wr _ m0)).trans m0, (hW.cell (World.block_lt_of_cell? wr _ c0)).trans c0, (hW.cell (World.block_lt_of_cell? wr _ c1)).trans c1, (hW.cell (World.block_lt_of_cell? wr _ c2)).trans c2, (hW.cell (World.block_lt_of_cell? wr _ c3)).trans c3, (hW.cell (World.block_lt_of_cell? wr _ c4)).trans c4, (hW.cell (World.block_lt_of_cell? wr _ c5)).trans c5, (hW.cell (World.block_lt_of_cell? wr _ c6)).trans c6, (hW.cell (World.block_lt_of_cell? wr _ c7)).trans c7, (hW.cell (World.block_lt_of_cell? wr _ d0)).trans d0, (hW.cell (World.block_lt_of_cell? wr _ d1)).trans d1, (hW.cell (World.block_lt_of_cell? wr _ d2)).trans d2, (hW.cell (World.block_lt_of_cell? wr _ d3)).trans d3, (hW.cell (World.block_lt_of_cell? wr _ d4)).trans d4, (hW.cell (World.block_lt_of_cell? wr _ d5)).trans d5, (hW.cell (World.block_lt_of_cell? wr _ d6)).trans d6, (hW.cell (World.block_lt_of_cell? wr _ d7)).trans d7⟩
      have htn : (t : Int) < (n : Int) := by omega
      have ht0 : (0 : Int) ≤ (t : Int) := by omega
      have KK0 := HK.out wr (Below.refl _ _)
      have KK1 := HK.out wr.drew (Below.refl _ _).drew
      clear c0 c1 c2 c3 c4 c5 c6 c7 d0 d1 d2 d3 d4 d5 d6 d7
      go_wp2_with fail
      go_region_held3 (fun w' => w'.cell? ⟨x1, 0, none⟩ = some (.slice (some ⟨b, o, none⟩) n uc) ∧ w'.cell? ⟨x2, 0, none⟩ = some (.slice (some ⟨b', o', none⟩) n uc2) ∧ w'.cell? ⟨b, o + t * 8, none⟩ = some (.bool cn) ∧ w'.cell? ⟨b, o + t * 8 + 1, none⟩ = some (.string nm) ∧ w'.cell? ⟨b, o + t * 8 + 2, none⟩ = some (.slice ia il ic) ∧ w'.cell? ⟨b, o + t * 8 + 3, none⟩ = some (.string on) ∧ w'.cell? ⟨b, o + t * 8 + 4, none⟩ = some (.int .i64 ot) ∧ w'.cell? ⟨b, o + t * 8 + 5, none⟩ = some (.slice va vl vc) ∧ w'.cell? ⟨b, o + t * 8 + 6, none⟩ = some (.slice qa ql qc) ∧ w'.cell? ⟨b, o + t * 8 + 7, none⟩ = some (.slice xa xl xc) ∧ w'.cell? ⟨b', o' + t * 8, none⟩ = some (.bool cn) ∧ w'.cell? ⟨b', o' + t * 8 + 1, none⟩ = some (.string nm) ∧ w'.cell? ⟨b', o' + t * 8 + 2, none⟩ = some (.slice ia2 il ic2) ∧ w'.cell? ⟨b', o' + t * 8 + 3, none⟩ = some (.string on) ∧ w'.cell? ⟨b', o' + t * 8 + 4, none⟩ = some (.int .i64 ot) ∧ w'.cell? ⟨b', o' + t * 8 + 5, none⟩ = some (.slice va2 vl vc2) ∧ w'.cell? ⟨b', o' + t * 8 + 6, none⟩ = some (.slice qa2 ql qc2) ∧ w'.cell? ⟨b', o' + t * 8 + 7, none⟩ = some (.slice xa2 xl xc2))
        (with_reducible first | exact KK2 | exact KK1 | exact KK0)
        ((go_at_call 13; refine hcall.mono ?_; rintro r w4 ⟨rfl, hb4⟩; have B4 : Below wr.heap.size wr w4 := below_next ((Below.refl wr.heap.size wr).drew) hb4; have KK2 := HK.out w4 B4))
      go_wp2_with fail
      go_roundw
      case rel => exact ⟨t + 1, by go_num, by omega, below_next HBU.out B4⟩
      case measure => simp [intOf]; omega
    · have hte : t = n := by omega
      subst hte
      go_wp2_with fail
      go_ret
      exact ⟨rfl, HBR.out⟩
end Go.Proofs.YtahalimekacliaaGreatDoor
namespace Go.Proofs.YtahalimekacliaaGreatDoor
open Go.RowKit Go.Shelf
namespace Lx
theorem join_snoc (l : List Bs) (t : Bs) : join (l ++ [t]) = if l = [] then t else join l ++ 32 :: t := by
  induction l with
  | nil => rfl
  | cons a l ih =>
    cases l with
    | nil => simp [join]
    | cons b l =>
      have e : (a :: b :: l) ++ [t] = a :: ((b :: l) ++ [t]) := rfl
      have e2 : ∀ m : List Bs, m ≠ [] → join (a :: m) = a ++ 32 :: join m := by
        intro m hm
        cases m with
        | nil => exact absurd rfl hm
        | cons _ _ => rfl
      rw [e, e2 _ (by simp), ih, if_neg (by simp), if_neg (by simp), e2 (b :: l) (by simp)]
      simp
def room (l : List Bs) : Nat := (l.map (fun t => t.length + 1)).sum
theorem lexS_room : ∀ r, room ((lexS r).1.map (·.t)) ≤ 2 * r.length := by
  refine lex_ind ?_ ?_ ?_ ?_ ?_
  · rw [lexS_nil]; simp [room]
  · intro c r hb ih; rw [lexS_blank hb]; simp; omega
  · intro u hn hu hc ih; rw [lexS_com hn hu hc]; have := after_len hu; omega
  · intro u e hn hu hc he; rw [lexS_err hn hu hc he]; simp [room]
  · intro u k t hn hu hc ht hp hne ih
    rw [lexS_tok hn hu hc ht]
    have h1 := hp.length_le
    have h2 := List.length_pos_iff.2 hne
    simp only [room, List.map_cons, List.sum_cons, List.length_drop] at ih ⊢
    omega
end Lx
def texts (l : List Tok) : List Lx.Bs := l.map (fun x => x.t.data.toList)
end Go.Proofs.YtahalimekacliaaGreatDoor
namespace Go.Proofs.YtahalimekacliaaGreatDoor
open Go.RowKit Go.Shelf
theorem concat_list (a b : ByteArray) : (a ++ b).data.toList = a.data.toList ++ b.data.toList := by simp
set_option maxHeartbeats 1000000 in
theorem rJoin_any (w : World) (v : Value) (l : List Tok) (hv : Sl tokC 3 w v l) (hl : Lx.room (texts l) ≤ 1000000) :
    Calls Tryz.prog 11 #[v] w fun e w' => ∃ s : ByteArray, e = .returned (.string s) ∧ s.data.toList = Lx.join (texts l) ∧ w' = w := by
  obtain ⟨a, c, rfl, hlc, hcell⟩ := hv.form
  obtain ⟨n, hn⟩ : ∃ n, n = l.length := ⟨_, rfl⟩
  have hn2 : n ≤ 1000000 := by
    have : ∀ m : List Lx.Bs, m.length ≤ Lx.room m := by
      intro m; induction m with
      | nil => simp [Lx.room]
      | cons a m ih => simp only [Lx.room, List.map_cons, List.sum_cons, List.length_cons] at ih ⊢; omega
    have h3 := this (texts l)
    have h4 : (texts l).length = l.length := by simp [texts]
    omega
  rw [← hn] at hlc ⊢
  have HN : Hid (n = l.length) := hn
  clear hn hv
  go_enter Tryz.func11, Tryz.ntmps11
  go_wp2_with fail
  go_loopw [3, 4] (fun s i wr => ∃ (k : Nat) (q : ByteArray), k ≤ n ∧ i = .int .i64 k ∧ s = .string q ∧ q.data.toList = Lx.join ((texts l).take k) ∧ wr = w) (fun _ i _ => n - (intOf i).toNat)
  case atStart => exact ⟨0, ⟨#[]⟩, Nat.zero_le _, rfl, rfl, rfl, rfl⟩
  case round =>
    obtain ⟨k, q, hk, rfl, rfl, hq, hW⟩ := hrel
    subst hW
    by_cases hlt : k < n
    · obtain ⟨x, hx⟩ : ∃ x, l[k]? = some x := ⟨_, List.getElem?_eq_getElem (by have := HN.out; omega)⟩
      obtain ⟨b, o, rfl, hc⟩ := hcell wr (Below.refl _ _) k x hx
      have c1 : wr.cell? ⟨b, o + k * 3 + 1, none⟩ = some (.string x.t) := hc 1 _ rfl
      have hkn : (k : Int) < (n : Int) := by omega
      obtain ⟨xt, hxt⟩ : ∃ q, q = x.t := ⟨_, rfl⟩
      rw [← hxt] at c1
      have hroom : (Lx.join ((texts l).take k)).length + xt.size + 1 ≤ 1000000 := by
        have h1 := Lx.join_length ((texts l).take k)
        have h2 := Lx.sum_take (fun t => t.length + 1) (texts l) k xt.data.toList (by simp [texts, hx, hxt])
        have h3 : ((texts l).map (fun t => t.length + 1)).sum = Lx.room (texts l) := rfl
        have h4 := size_toList xt
        omega
      rw [← hq, size_toList] at hroom
      have HS : Hid (Lx.join ((texts l).take (k + 1)) = if k = 0 then xt.data.toList else Lx.join ((texts l).take k) ++ 32 :: xt.data.toList) := by
        show _ = _
        have e : (texts l).take (k + 1) = (texts l).take k ++ [xt.data.toList] := by
          rw [List.take_add_one]; simp [texts, hx, hxt]
        rw [e, Lx.join_snoc]
        have : (texts l).take k = [] ↔ k = 0 := by
          have hl2 : (texts l).length = n := by have := HN.out; simp [texts]; omega
          constructor
          · intro h
            have := congrArg List.length h
            rw [List.length_take, List.length_nil] at this; omega
          · rintro rfl; rfl
        simp only [this]
      have HQ : Hid (q.data.toList = Lx.join ((texts l).take k)) := hq
      clear hx hxt hc hcell hq
      by_cases hk0 : k = 0
      · rw [if_pos hk0] at HS
        have hq0 : q.data.toList = [] := by rw [HQ.out, hk0]; rfl
        have HQ0 : Hid (q.data.toList = []) := hq0
        have hk1 : ¬ 0 < k := by omega
        clear hk0 hq0
        go_wp2_with fail
        go_roundw
        case rel => exact ⟨k + 1, _, by omega, by go_num, rfl, by rw [concat_list, HQ0.out, HS.out]; rfl, by trivial⟩
        case measure => simp [intOf]; omega
      · have hk0' : 0 < k := by omega
        rw [if_neg hk0] at HS
        clear hk0
        go_wp2_with fail
        go_roundw
        case rel => exact ⟨k + 1, _, by omega, by go_num, rfl, by rw [concat_list, concat_list, HQ.out, HS.out, List.append_assoc]; rfl, by trivial⟩
        case measure => simp [intOf]; omega
    · have hke : k = n := by omega
      subst hke
      have HQ : Hid (q.data.toList = Lx.join (texts l)) := by
        show _ = _
        rw [hq, List.take_of_length_le (by have := HN.out; simp [texts]; omega)]
      clear hq hcell
      go_wp2_with fail
      go_ret
      exact ⟨q, rfl, HQ.out, rfl⟩
end Go.Proofs.YtahalimekacliaaGreatDoor
namespace Go.Proofs.YtahalimekacliaaGreatDoor
open Go.RowKit Go.Shelf Tx Px Gx
theorem alike_toks {N M : Nat} {l l' : List Lx.R} (h : l.map (fun x => (x.k, x.t)) = l'.map (fun x => (x.k, x.t))) : Px.AlkT (toks N l) (toks M l') := by
  unfold Px.AlkT toks
  rw [List.map_map, List.map_map]
  have h2 := congrArg (List.map (fun y : Nat × Lx.Bs => (y.1, (⟨y.2.toArray⟩ : ByteArray)))) h
  rw [List.map_map, List.map_map] at h2
  exact h2
theorem texts_of (N : Nat) (l : List Lx.R) : texts (toks N l) = l.map (·.t) := by
  unfold texts toks
  rw [List.map_map]
  apply List.map_congr_left
  intro x _
  simp [tok]
set_option maxRecDepth 100000 in
theorem rLex_big (s : ByteArray) (hs : 100000 < s.size) (w : World) :
    Calls Tryz.prog 8 #[.string s] w fun e w' => e = .returned (.tuple #[.slice none 0 0, .agg #[.int .i64 7, .int .i64 (-1)]]) ∧ Below w.heap.size w w' := by
  have hb : (100000 : Int) < (s.size : Int) := by omega
  have b1 : Below w.heap.size w (((w.alloc (.cells #[.int .i64 0, .int .i64 0] 25)).setCell ⟨w.heap.size, 0, none⟩ (.int .i64 7)).setCell ⟨w.heap.size, 1, none⟩ (.int .i64 (-1))) := (((Below.refl _ _).alloc (Nat.le_refl _) _).setCell (Nat.le_refl _) _).setCell (Nat.le_refl _) _
  have b2 : Below w.heap.size w (w.alloc (.cells #[.int .i64 7, .int .i64 (-1)] 25)) := (Below.refl _ _).alloc (Nat.le_refl _) _
  obtain ⟨u0, u1, u2, u3⟩ := two_cells (Blk.new w #[.int .i64 0, .int .i64 0] 25)
  clear hs
  go_enter Tryz.func8, Tryz.ntmps8
  go_wp2_with fail
  refine bodyPost_ret (v := .tuple #[.slice none 0 0, .agg #[.int .i64 7, .int .i64 (-1)]]) (by simp [results, Tryz.results8, go_sem, u0, u1]) rfl ?_
  exact ⟨rfl, by first | exact b1 | exact b2 | exact b1.drew⟩
theorem rLex_all (s : ByteArray) (w : World) : Calls Tryz.prog 8 #[.string s] w fun e w' => ∃ a n c er at_, e = .returned (.tuple #[.slice a n c, .agg #[.int .i64 er, .int .i64 at_]]) ∧ Below w.heap.size w w' := by
  by_cases h : 100000 < s.size
  · exact (rLex_big s h w).mono fun e w' ⟨h1, h2⟩ => ⟨none, 0, 0, 7, -1, h1, h2⟩
  · refine (rLex_any s (by omega) w).mono fun e w' ⟨v, er, at_, h1, h2, h3⟩ => ?_
    rcases h3 with ⟨_, _, _, hown⟩ | ⟨_, _, _, _, _, _, rfl⟩
    · obtain ⟨a, c, rfl, _⟩ := (Sl.own tokC_len hown (by simp [toks])).form
      exact ⟨_, _, _, er, at_, h1, h2⟩
    · exact ⟨_, _, _, er, at_, h1, h2⟩
set_option maxRecDepth 100000 in
set_option maxHeartbeats 8000000 in
theorem progBlank_any (s : ByteArray) (hs : s.size ≤ maxLen) (w : World) (G : Gl w) :
    Calls Tryz.prog 3 #[.string s] w fun e w' => e = .returned (.bool true) ∧ Below w.heap.size w w' := by
  have hlive := fun W (hW : Below w.heap.size w W) => live06_any W (G.below hW)
  unfold maxLen at hs
  by_cases hbig : 1500 < s.size
  · have hlex := rLex_all s w
    have hb1 : (1500 : Int) < (s.size : Int) := by omega
    have HLV := Lib.hid hlive
    clear hlive G
    go_enter Tryz.func3, Tryz.ntmps3
    go_wp2_with fail
    refine hlex.mono ?_
    rintro e w1 ⟨a, n, c, er, at_, rfl, hb⟩
    clear hlex
    go_upto_region 2 with fail
    refine wp_letW ?_
    intro W1 hW1
    have b1 : Below w1.heap.size w1 W1 := by rw [hW1]; exact (Below.refl _ _).alloc (Nat.le_refl _) _
    have F1 : Hid (Blk W1 w1.heap.size #[.int .i64 er, .int .i64 at_] 25) := by show Blk _ _ _ _; rw [hW1]; exact Blk.new w1 _ _
    obtain ⟨x1, hx1⟩ : ∃ b, b = w1.heap.size := ⟨_, rfl⟩
    rw [← hx1] at F1 ⊢
    clear hW1 hx1
    have B1 : Hid (Below w.heap.size w W1) := below_next hb b1
    obtain ⟨u0, u1, -, -⟩ := two_cells F1.out
    have hl2 := HLV.out W1 B1.out
    clear b1 hb
    go_wp2_with fail
    refine hl2.mono ?_
    rintro e w9 ⟨rfl, hb9⟩
    have HB9 := Lib.hid (below_next B1.out hb9)
    clear hl2 hb9
    go_wp2_with fail
    go_ret
    exact ⟨rfl, HB9.out⟩
  · have hb1 : ¬ (1500 : Int) < (s.size : Int) := by omega
    obtain ⟨r, hr⟩ := PgS.all s
    have HR := Lib.hid hr
    have HPR := Lib.hid (fun (t : ByteArray) (ht : t.size ≤ 100000) (q : Except (Int × Int) Pg) (hq : PgS t q) W (hW : Below w.heap.size w W) => pProg_any t ht q hq W (G.below hW))
    have hlex := rLex_any s (by omega) w
    have HLV := Lib.hid hlive
    have HSZ : Hid (s.size ≤ 1500) := by show _ ≤ _; omega
    clear hlive G hr
    go_enter Tryz.func3, Tryz.ntmps3
    go_wp2_with fail
    refine hlex.mono ?_
    rintro e w1 ⟨v, er, at_, rfl, hb1', hcase⟩
    have HBW1 := Lib.hid hb1'
    clear hlex hb1'
    rcases hcase with ⟨rfl, rfl, hl, hown⟩ | ⟨k, m, hk, rfl, rfl, hl, rfl⟩
    · obtain ⟨L, hL⟩ : ∃ L, L = toks s.size (Lx.lexS s.data.toList).1 := ⟨_, rfl⟩
      rw [← hL] at hown
      have hLlen : (Lx.lexS s.data.toList).1.length = L.length := by rw [hL]; simp [toks]
      rw [hLlen] at hown
      have hsl : Sl tokC 3 w1 v L := Sl.own tokC_len hown rfl
      obtain ⟨ta, tc, rfl, htc, -⟩ := hsl.form
      have HSL := Lib.hid hsl
      have HL := Lib.hid hL
      have HLX := Lib.hid hl
      clear hL hown hLlen hsl hl htc
      go_upto_region 2 with fail
      refine wp_letW ?_
      intro W1 hW1
      have b1 : Below w1.heap.size w1 W1 := by rw [hW1]; exact (Below.refl _ _).alloc (Nat.le_refl _) _
      have F1 : Hid (Blk W1 w1.heap.size #[.int .i64 0, .int .i64 0] 25) := by show Blk _ _ _ _; rw [hW1]; exact Blk.new w1 _ _
      obtain ⟨x1, hx1⟩ : ∃ b, b = w1.heap.size := ⟨_, rfl⟩
      rw [← hx1] at F1 ⊢
      clear hW1 hx1
      have B1 : Hid (Below w.heap.size w W1) := below_next HBW1.out b1
      have HSL1 : Hid (Sl tokC 3 W1 (.slice ta L.length tc) L) := Sl.below HSL.out b1
      obtain ⟨u0, u1, -, -⟩ := two_cells F1.out
      have hprs := HPR.out s (by have := HSZ.out; omega) r HR.out W1 B1.out
      clear b1
      go_upto_region 4 with fail
      go_wp2_with fail
      refine hprs.mono ?_
      rintro e w2 ⟨hb2, hpost⟩
      have HB2 := Lib.hid hb2
      have HSL2 : Hid (Sl tokC 3 w2 (.slice ta L.length tc) L) := Sl.below HSL1.out hb2
      have B2 : Hid (Below w.heap.size w w2) := below_next B1.out hb2
      clear hprs hb2 u0 u1
      have hroom : Lx.room (texts L) ≤ 1000000 := by
        rw [HL.out, texts_of]
        have h1 := Lx.lexS_room s.data.toList
        have h2 := HSZ.out
        rw [size_toList] at h1
        omega
      have hjl : (Lx.join (texts L)).length ≤ 3000 := by
        have h1 := Lx.join_length (texts L)
        have h3 := Lx.lexS_room s.data.toList
        have h2 := HSZ.out
        rw [size_toList] at h3
        rw [← texts_of s.size, ← HL.out] at h3
        have h4 : ((texts L).map (fun t => t.length + 1)).sum = Lx.room (texts L) := rfl
        omega
      obtain ⟨j1, j2⟩ := Lx.lexS_join (Lx.lexS s.data.toList).1 (Lx.lexS_is s.data.toList)
      rw [← texts_of s.size, ← HL.out] at j1 j2
      have HJ : Hid (∀ J : ByteArray, J.data.toList = Lx.join (texts L) → J.size ≤ 3000 ∧ ((∃ p, r = .ok p ∧ PgS J (.ok p)) ∨ ∃ (c : Int) (a b : Int), c ≠ 0 ∧ r = .error (c, a) ∧ PgS J (.error (c, b)) ∧ (a == -1) = (b == -1))) := fun J hJ => by
        refine ⟨by rw [← size_toList, hJ]; exact hjl, HR.out.alike HLX.out (by rw [hJ]; exact j1) ?_⟩
        rw [hJ]
        exact alike_toks j2.symm
      clear hjl j1 j2
      rcases Classical.em (∃ p, r = .ok p) with ⟨p, rfl⟩ | hno
      · obtain ⟨va, n, vc, he, hU⟩ := hpost
        cases he
        have hn : n = p.units.length := by
          obtain ⟨a_, c_, h_, _⟩ := hU.form
          cases h_; rfl
        have HN := Lib.hid hn
        have HU := Lib.hid hU.sg
        have HFW := Lib.hid HR.out.few
        clear hU hn
        go_upto_region 5 with fail
        refine wp_letW ?_
        intro W3 hW3
        have b3 : Below w2.heap.size w2 W3 := by rw [hW3]; exact ((Below.refl _ _).alloc (Nat.le_refl _) _).alloc (by simp) _
        have P3 : Hid (Blk W3 w2.heap.size #[.slice va n vc, .string p.main, .string p.back] 31) := by show Blk _ _ _ _; rw [hW3]; exact (Blk.new w2 _ _).below ((Below.refl _ _).alloc (Nat.le_refl _) _)
        have F3 : Hid (Blk W3 (w2.heap.size + 1) #[.int .i64 0, .int .i64 0] 25) := by show Blk _ _ _ _; rw [hW3]; have h := Blk.new (w2.alloc (.cells #[.slice va n vc, .string p.main, .string p.back] 31)) #[.int .i64 0, .int .i64 0] 25; simpa using h
        obtain ⟨x3, hx3⟩ : ∃ b, b = w2.heap.size := ⟨_, rfl⟩
        rw [← hx3] at P3 F3 ⊢
        clear hW3 hx3
        have B3 : Hid (Below w.heap.size w W3) := below_next B2.out b3
        have hjoin := rJoin_any W3 _ L (Sl.below HSL2.out b3) hroom
        have HB23 := Lib.hid b3
        clear b3 hroom
        go_wp2_with fail
        refine hjoin.mono ?_
        rintro e w3 ⟨J, rfl, hJ, rfl⟩
        obtain ⟨hJs, hJr⟩ := HJ.out J hJ
        have hJp : PgS J (.ok p) := by
          rcases hJr with ⟨q, h1, h2⟩ | ⟨c, a, b, _, h1, _⟩
          · cases h1; exact h2
          · cases h1
        have hprs := HPR.out J (by omega) _ hJp w3 B3.out
        clear hjoin hJ hJr hJp hJs
        go_wp2_with fail
        refine hprs.mono ?_
        rintro e w4 ⟨hb4, va2, n2, vc2, rfl, hU2⟩
        have hn2 : n2 = p.units.length := by
          obtain ⟨a_, c_, h_, _⟩ := hU2.form
          cases h_; rfl
        obtain rfl : n2 = n := by rw [hn2]; exact HN.out.symm
        have HU2 := Lib.hid hU2.sg
        have HB4 := Lib.hid hb4
        clear hprs hU2 hn2 hb4
        go_upto_region 6 with fail
        refine wp_letW ?_
        intro W4 hW4
        have b4 : Below w4.heap.size w4 W4 := by rw [hW4]; exact ((Below.refl _ _).alloc (Nat.le_refl _) _).alloc (by simp) _
        have P4 : Hid (Blk W4 w4.heap.size #[.slice va2 n2 vc2, .string p.main, .string p.back] 31) := by show Blk _ _ _ _; rw [hW4]; exact (Blk.new w4 _ _).below ((Below.refl _ _).alloc (Nat.le_refl _) _)
        have F4 : Hid (Blk W4 (w4.heap.size + 1) #[.int .i64 0, .int .i64 0] 25) := by show Blk _ _ _ _; rw [hW4]; have h := Blk.new (w4.alloc (.cells #[.slice va2 n2 vc2, .string p.main, .string p.back] 31)) #[.int .i64 0, .int .i64 0] 25; simpa using h
        obtain ⟨x4, hx4⟩ : ∃ b, b = w4.heap.size := ⟨_, rfl⟩
        rw [← hx4] at P4 F4 ⊢
        clear hW4 hx4
        have B4 : Hid (Below w.heap.size w W4) := below_next B3.out (below_next HB4.out b4)
        have PA := P3.out.below (below_next HB4.out b4)
        have FA := Lib.hid (F3.out.below (below_next HB4.out b4))
        have PB := P4.out
        have FB := F4
        have hsame := rSamePg_eq _ _ p.units p.main p.back n2 HN.out HFW.out.n HFW.out.u va va2 vc vc2 W4 (HU.out.below (keepsUn _) (below_next HB23.out (below_next HB4.out b4))) (HU2.out.below (keepsUn _) b4)
        have pa0 : W4.cell? ⟨x3, 0, none⟩ = some (.slice va n2 vc) := by unfold Blk at PA; simp [World.cell?, PA]
        have pb0 : W4.cell? ⟨x4, 0, none⟩ = some (.slice va2 n2 vc2) := by unfold Blk at PB; simp [World.cell?, PB]
        have pa1 : W4.cell? ⟨x3, 1, none⟩ = some (.string p.main) := by unfold Blk at PA; simp [World.cell?, PA]
        have pb1 : W4.cell? ⟨x4, 1, none⟩ = some (.string p.main) := by unfold Blk at PB; simp [World.cell?, PB]
        have pa2 : W4.cell? ⟨x3, 2, none⟩ = some (.string p.back) := by unfold Blk at PA; simp [World.cell?, PA]
        have pb2 : W4.cell? ⟨x4, 2, none⟩ = some (.string p.back) := by unfold Blk at PB; simp [World.cell?, PB]
        clear b4 PA PB
        have h00 : ((0 : Int) == 0) = true := by simp
        go_wp2_with fail
        refine hsame.mono ?_
        rintro e w5 ⟨rfl, hb5⟩
        obtain ⟨u0, u1, -, -⟩ := two_cells (FA.out.below hb5)
        obtain ⟨v0, v1, -, -⟩ := two_cells (FB.out.below hb5)
        have B5 : Hid (Below w.heap.size w w5) := below_next B4.out hb5
        have hl2 := HLV.out w5 B5.out
        clear hsame hb5
        go_wp2_with fail
        refine hl2.mono ?_
        rintro e w9 ⟨rfl, hb9⟩
        have HB9 := Lib.hid (below_next B5.out hb9)
        clear hl2 hb9
        go_wp2_with fail
        go_ret
        exact ⟨rfl, HB9.out⟩
      · match r, hpost, hno with
        | .ok p, _, hno => exact absurd ⟨p, rfl⟩ hno
        | .error (c, a), ⟨hc, he⟩, _ =>
        subst he
        have hcc : ((c : Int) == c) = true := by simp
        have HC := Lib.hid hc
        clear hno hc hpost
        go_upto_region 5 with fail
        refine wp_letW ?_
        intro W3 hW3
        have b3 : Below w2.heap.size w2 W3 := by rw [hW3]; exact ((Below.refl _ _).alloc (Nat.le_refl _) _).alloc (by simp) _
        have P3 : Hid (Blk W3 w2.heap.size #[.slice none 0 0, .string ⟨#[]⟩, .string ⟨#[]⟩] 31) := by show Blk _ _ _ _; rw [hW3]; exact (Blk.new w2 _ _).below ((Below.refl _ _).alloc (Nat.le_refl _) _)
        have F3 : Hid (Blk W3 (w2.heap.size + 1) #[.int .i64 c, .int .i64 a] 25) := by show Blk _ _ _ _; rw [hW3]; have h := Blk.new (w2.alloc (.cells #[.slice none 0 0, .string ⟨#[]⟩, .string ⟨#[]⟩] 31)) #[.int .i64 c, .int .i64 a] 25; simpa using h
        obtain ⟨x3, hx3⟩ : ∃ b, b = w2.heap.size := ⟨_, rfl⟩
        rw [← hx3] at P3 F3 ⊢
        clear hW3 hx3
        have B3 : Hid (Below w.heap.size w W3) := below_next B2.out b3
        have hjoin := rJoin_any W3 _ L (Sl.below HSL2.out b3) hroom
        clear b3 hroom
        go_wp2_with fail
        refine hjoin.mono ?_
        rintro e w3 ⟨J, rfl, hJ, rfl⟩
        obtain ⟨hJs, hJr⟩ := HJ.out J hJ
        obtain ⟨b, hJp, hab⟩ : ∃ b, PgS J (.error (c, b)) ∧ (a == -1) = (b == -1) := by
          rcases hJr with ⟨q, h1, _⟩ | ⟨c', a', b, _, h1, h2, h3⟩
          · cases h1
          · cases h1; exact ⟨b, h2, h3⟩
        have hprs := HPR.out J (by omega) _ hJp w3 B3.out
        obtain ⟨z, hz⟩ : ∃ z, (b == -1) = z := ⟨_, rfl⟩
        have hz1 : (a == -1) = z := by rw [hab, hz]
        clear hjoin hJ hJr hJp hJs hab
        go_wp2_with fail
        refine hprs.mono ?_
        rintro e w4 ⟨hb4, -, rfl⟩
        have HB4 := Lib.hid hb4
        clear hprs hb4
        go_upto_region 6 with fail
        refine wp_letW ?_
        intro W4 hW4
        have b4 : Below w4.heap.size w4 W4 := by rw [hW4]; exact ((Below.refl _ _).alloc (Nat.le_refl _) _).alloc (by simp) _
        have P4 : Hid (Blk W4 w4.heap.size #[.slice none 0 0, .string ⟨#[]⟩, .string ⟨#[]⟩] 31) := by show Blk _ _ _ _; rw [hW4]; exact (Blk.new w4 _ _).below ((Below.refl _ _).alloc (Nat.le_refl _) _)
        have F4 : Hid (Blk W4 (w4.heap.size + 1) #[.int .i64 c, .int .i64 b] 25) := by show Blk _ _ _ _; rw [hW4]; have h := Blk.new (w4.alloc (.cells #[.slice none 0 0, .string ⟨#[]⟩, .string ⟨#[]⟩] 31)) #[.int .i64 c, .int .i64 b] 25; simpa using h
        obtain ⟨x4, hx4⟩ : ∃ b, b = w4.heap.size := ⟨_, rfl⟩
        rw [← hx4] at P4 F4 ⊢
        clear hW4 hx4
        have B4 : Hid (Below w.heap.size w W4) := below_next B3.out (below_next HB4.out b4)
        have PA := P3.out.below (below_next HB4.out b4)
        have FA := Lib.hid (F3.out.below (below_next HB4.out b4))
        have PB := P4.out
        have FB := F4
        have hsame := rSamePg_eq 0 0 [] ⟨#[]⟩ ⟨#[]⟩ 0 rfl (by simp) (fun y hy => by cases hy) none none 0 0 W4 Sg.nil_ Sg.nil_
        have pa0 : W4.cell? ⟨x3, 0, none⟩ = some (.slice none 0 0) := by unfold Blk at PA; simp [World.cell?, PA]
        have pb0 : W4.cell? ⟨x4, 0, none⟩ = some (.slice none 0 0) := by unfold Blk at PB; simp [World.cell?, PB]
        have pa1 : W4.cell? ⟨x3, 1, none⟩ = some (.string ⟨#[]⟩) := by unfold Blk at PA; simp [World.cell?, PA]
        have pb1 : W4.cell? ⟨x4, 1, none⟩ = some (.string ⟨#[]⟩) := by unfold Blk at PB; simp [World.cell?, PB]
        have pa2 : W4.cell? ⟨x3, 2, none⟩ = some (.string ⟨#[]⟩) := by unfold Blk at PA; simp [World.cell?, PA]
        have pb2 : W4.cell? ⟨x4, 2, none⟩ = some (.string ⟨#[]⟩) := by unfold Blk at PB; simp [World.cell?, PB]
        clear b4 PA PB
        cases z
        all_goals
          have h00 : ((0 : Int) == 0) = true := by simp
          go_wp2_with fail
          refine hsame.mono ?_
          rintro e w5 ⟨rfl, hb5⟩
          obtain ⟨u0, u1, -, -⟩ := two_cells (FA.out.below hb5)
          obtain ⟨v0, v1, -, -⟩ := two_cells (FB.out.below hb5)
          have B5 : Hid (Below w.heap.size w w5) := below_next B4.out hb5
          have hl2 := HLV.out w5 B5.out
          clear hsame hb5
          go_wp2_with fail
          refine hl2.mono ?_
          rintro e w9 ⟨rfl, hb9⟩
          have HB9 := Lib.hid (below_next B5.out hb9)
          clear hl2 hb9
          go_wp2_with fail
          go_ret
          exact ⟨rfl, HB9.out⟩
    · have hk0 : ((k : Int) != 0) = true := by simp [hk]
      obtain ⟨pm, hpm⟩ : ∃ pm, pm = s.size - m := ⟨_, rfl⟩
      rw [← hpm]
      clear hpm hl
      go_upto_region 2 with fail
      refine wp_letW ?_
      intro W1 hW1
      have b1 : Below w1.heap.size w1 W1 := by rw [hW1]; exact (Below.refl _ _).alloc (Nat.le_refl _) _
      have F1 : Hid (Blk W1 w1.heap.size #[.int .i64 k, .int .i64 pm] 25) := by show Blk _ _ _ _; rw [hW1]; exact Blk.new w1 _ _
      obtain ⟨x1, hx1⟩ : ∃ b, b = w1.heap.size := ⟨_, rfl⟩
      rw [← hx1] at F1 ⊢
      clear hW1 hx1
      have B1 : Hid (Below w.heap.size w W1) := below_next HBW1.out b1
      obtain ⟨u0, u1, -, -⟩ := two_cells F1.out
      have hl2 := HLV.out W1 B1.out
      clear b1
      go_wp2_with fail
      refine hl2.mono ?_
      rintro e w9 ⟨rfl, hb9⟩
      have HB9 := Lib.hid (below_next B1.out hb9)
      clear hl2 hb9
      go_wp2_with fail
      go_ret
      exact ⟨rfl, HB9.out⟩
end Go.Proofs.YtahalimekacliaaGreatDoor
