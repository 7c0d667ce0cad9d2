/- Slices that read as lists, each element in some cells; appends of one element. Tokens in memory; bytes, texts: what both lexers share. Blocks and slices in memory, for all that follows. Nodes and expressions in memory; the operands of a node. Tokens: the shelf's words, and the lexer's. DERIVED: THE SHELF's CONTRACTS AT THIS DUMP, IN PLAIN WORDS (tools/lay-plain.mjs out of 'TrydShelf.lean', which tools/lay-shelf.mjs wrote): THE SAME DECLARATIONS UNDER THE SAME NAMES: 'import', 'namespace', 'open', 'def', 'theorem' AND NOTHING ELSE: no command of the shelf's: FOR A HAND-IN. Each laying: the table of numbers ('.._ren') and one theorem, a field a fact of the dump's own or the kernel's comparison; each contract: ONE APPLICATION. Tokens in memory; the small functions of the lexer. -/
import Derived.WalkKit
import Derived.WalkSpells
import Derived.Deep.Onto
import Derived.Deep.AppendLies
import Derived.Deep.Draws
import Derived.OwnWalk
import Derived.Test.YtmklieoikbgmpaaDoorProg
import Derived.Shelf.Abstract
import Derived.Lib.Strings
import Derived.WalkLawsBesides
import Derived.Outline
import Derived.Laws.EntriesVeiled
import Derived.Deep.RegionHeld3
import Derived.Deep.QuietTactic
import Derived.BigQuiet
import Derived.StillTailTactics
import Derived.Lib.AtoiAll
import Derived.Lib.AtoiAllCases
import Derived.Shelf.Spec.SearchS
import Derived.Shelf.GgClosure.StringsIndexFunc
import Derived.Lib.SlBy
import Derived.Lib.SlTrimSet
import Derived.Lib.CutLaws
import Derived.Lib.IndexLaws
import Derived.Lib.IndexBytes
import Derived.Shelf.Strings.SlTrimAscii
import Derived.Shelf.Strings.Trim
import Derived.Shelf.Small.Utf8
import Derived.Shelf.Small.Strs
import Derived.Shelf.Strconv.Atoi
import Derived.Shelf.Strconv.Itoa0
import Derived.Shelf.Strconv.Itoa1
import Derived.Shelf.LaysM
import Derived.Shelf.Strconv.Itoa2
import Derived.Shelf.Strconv.Itoa3
import Derived.Shelf.Strconv.AtoiErrFast
import Derived.Shelf.Strconv.ParseIntEmpty
import Derived.Shelf.Strconv.AtoiFail
import Derived.Shelf.Strconv.Clone
import Derived.Shelf.Strconv.SyntaxError
import Derived.Shelf.LaysC
import Derived.Shelf.Strconv.ToError
import Derived.Shelf.Strconv.AtoiErr
import Derived.Shelf.Strconv.ErrVar
import Derived.Shelf.Strconv.Lower
import Derived.Shelf.Strconv.ParseUint10
import Derived.Shelf.Strconv.ParseUint10Empty
import Derived.Shelf.Strconv.ParseUint10Any
import Derived.Shelf.Strconv.ParseInt10
import Derived.Shelf.Strconv.AtoiLong
import Derived.Shelf.Strconv.AtoiInnerAll
import Derived.Shelf.Strconv.RangeError
import Derived.Shelf.Strconv.ToErrorRange
import Derived.Shelf.Strconv.AtoiAll
import Derived.Shelf.Strconv.ErrVarAll
import Derived.Shelf.Strconv.ParseUintEmpty
import Derived.Shelf.Strconv.ParseUint10b64
import Derived.Shelf.Strconv.ParseUint10b32
import Derived.Shelf.Strconv.ParseUint10b16
import Derived.Shelf.Strconv.ParseUint10b8
import Derived.Shelf.Strconv.ParseUint10At
import Derived.Shelf.Strconv.ParseInt10At64
import Derived.Shelf.Strconv.ParseInt10At32
import Derived.Shelf.Strconv.ParseInt10At16
import Derived.Shelf.Strconv.ParseInt10At8
import Derived.Shelf.Strconv.ParseInt10All
import Derived.Shelf.Strings.Search1
import Derived.Shelf.Strings.Search2
import Derived.Shelf.Strings.Cut
import Derived.Shelf.Strings.Shaped
import Derived.Ground.GgwProg
import Derived.Shelf.GgClosure.StringsIndexFuncTop
import Derived.Shelf.Strings.Prefix
import Derived.Shelf.Unicode.Decode
import Derived.Shelf.Strings.Runes
import Derived.Shelf.Strings.AsciiSet
import Derived.Shelf.Unicode.DecodeSlow
import Derived.Shelf.Unicode.DecodeAny
import Derived.Ground.SlgfProg
import Derived.Shelf.SlicesE.IndexFunc
import Derived.Test.YtmklieoikbgmpaaDoorJ1
namespace Go.Proofs.YtmklieoikbgmpaaDoor
open Go.RowKit
theorem below_drawn {B : Nat} {a w : World} (h : Below B a w) (n : Nat) : Below B a (w.drewN n) := ⟨h.os, h.tape, h.output, h.size, h.block⟩
theorem below_grow {w w' : World} (h : Below w.heap.size w w') (row : Option Nat) : w.grownBy w' row := ⟨h.os, h.tape, h.output, h.size, fun k hk _ => h.block k hk⟩
theorem below_next {a w w' : World} (h : Below a.heap.size a w) (k : Below w.heap.size w w') : Below a.heap.size a w' := h.trans (k.mono h.size)
theorem below_row {w w' : World} (h : Below w.heap.size w w') {base e size n : Nat} {v : Value} {xs : List Value} (ho : w.ownsRow base e size v n xs) : w'.ownsRow base e size v n xs :=
  ho.kept (below_grow h none) (by cases v.ownBlock <;> simp)
def Sl {α : Type} (enc : α → List Value) (k : Nat) (w : World) (v : Value) (l : List α) : Prop :=
  (l = [] ∧ ∃ a c, v = .slice a 0 c) ∨ ∃ b o c, v = .slice (some ⟨b, o, none⟩) l.length c ∧ l.length ≤ c ∧ b < w.heap.size ∧ ∀ i x, l[i]? = some x → ∀ j u, (enc x)[j]? = some u → w.cell? ⟨b, o + i * k + j, none⟩ = some u
section
variable {α : Type} {enc : α → List Value} {k : Nat} {w w' : World} {v : Value} {l : List α}
theorem Sl.nil_ : Sl enc k w (.slice none 0 0) [] := Or.inl ⟨rfl, none, 0, rfl⟩
theorem Sl.below (h : Sl enc k w v l) (hb : Below w.heap.size w w') : Sl enc k w' v l := by
  rcases h with h | ⟨b, o, c, rfl, hc, hlt, hx⟩
  · exact Or.inl h
  · exact Or.inr ⟨b, o, c, rfl, hc, Nat.lt_of_lt_of_le hlt hb.size, fun i x hi j u hu => (hb.cell (p := ⟨b, o + i * k + j, none⟩) hlt).trans (hx i x hi j u hu)⟩
theorem Sl.form (h : Sl enc k w v l) : ∃ a c, v = .slice a l.length c ∧ l.length ≤ c ∧ ∀ W, Below w.heap.size w W → ∀ i x, l[i]? = some x → ∃ b o, a = some ⟨b, o, none⟩ ∧ ∀ j u, (enc x)[j]? = some u → W.cell? ⟨b, o + i * k + j, none⟩ = some u := by
  rcases h with ⟨rfl, a, c, rfl⟩ | ⟨b, o, c, rfl, hc, hlt, hx⟩
  · exact ⟨a, c, rfl, Nat.zero_le _, fun W _ i x hi => by simp at hi⟩
  · exact ⟨_, c, rfl, hc, fun W hW i x hi => ⟨b, o, rfl, fun j u hu => (hW.cell (p := ⟨b, o + i * k + j, none⟩) hlt).trans (hx i x hi j u hu)⟩⟩
end
theorem flatMap_cell {α : Type} {enc : α → List Value} {k : Nat} (hk : ∀ x, (enc x).length = k) : ∀ (l : List α) (i : Nat) (x : α), l[i]? = some x → ∀ j u, (enc x)[j]? = some u → (l.flatMap enc)[i * k + j]? = some u
  | [], i, x, h, _, _, _ => by simp at h
  | y :: r, 0, x, h, j, u, hu => by
    simp at h; subst h
    have hj : j < (enc y).length := (List.getElem?_eq_some_iff.1 hu).1
    rw [List.flatMap_cons, Nat.zero_mul, Nat.zero_add, List.getElem?_append_left hj]; exact hu
  | y :: r, i + 1, x, h, j, u, hu => by
    have h' : r[i]? = some x := by simpa using h
    have := flatMap_cell hk r i x h' j u hu
    rw [List.flatMap_cons, List.getElem?_append_right (by rw [hk, Nat.add_mul]; omega), hk, show (i + 1) * k + j - k = i * k + j by rw [Nat.add_mul]; omega]
    exact this
theorem Sl.own {α : Type} {enc : α → List Value} {k : Nat} (hk : ∀ x, (enc x).length = k) {w : World} {v : Value} {l : List α} {base e n : Nat} (h : w.ownsRow base e k v n (l.flatMap enc)) (hn : l.length = n) : Sl enc k w v l := by
  subst hn
  rcases h.2 with ⟨rfl, h0⟩ | ⟨g, cap, cur, rfl, _, hg, hcap, _, hsz, htake⟩
  · exact Or.inl ⟨List.eq_nil_of_length_eq_zero h0, none, 0, rfl⟩
  · refine Or.inr ⟨g, 0, cap, rfl, hcap, (Array.getElem?_eq_some_iff.1 hg).1, fun i x hi j u hu => ?_⟩
    have hc := flatMap_cell hk l i x hi j u hu
    rw [cell_of_row w g (0 + i * k + j) cur e (0, 0) hg, Nat.zero_add]
    rw [← htake, List.getElem?_take] at hc
    split at hc
    · simpa using hc
    · cases hc
structure RowTy (P : Program) (t e size bytes : Nat) : Prop where
  ht : P.underlying t = some (.slice e)
  ex : ∃ i z, P.info? e = some i ∧ i.zero = some z ∧ i.size = size ∧ i.bytes = bytes ∧ z.cells.size = size
  pos : 0 < size
theorem RowTy.mk' {P : Program} {t e size bytes : Nat} {z : Value} (ht : P.underlying t = some (.slice e)) (h : (P.info? e).map (fun i => (i.zero, i.size, i.bytes)) = some (some z, size, bytes)) (hz : z.cells.size = size) (hp : 0 < size) : RowTy P t e size bytes := by
  obtain ⟨i, hi, a, b, c⟩ := info_parts h
  exact ⟨ht, ⟨i, z, hi, a, b, c, hz⟩, hp⟩
theorem wpList_app {P : Program} {w : World} {ops : Array Oper} {rest : List Oper} {o : Oper} {a : Act} {Q : Exit → Act → World → Prop} {t e size bytes : Nat} (R : RowTy P t e size bytes) (hgd : o.guard = none) (s x : Operand)
    (ho : o.op = .call { callee := .builtin .append, args := #[s, x], argTypes := #[t, t] })
    (base : Nat) (v : Value) (n : Nat) (xs : List Value) (hs : a.eval s = v) (hown : w.ownsRow base e size v n xs)
    (ad : Addr) (c : Nat) (news : List Value) (hx : a.eval x = .slice (some ad) 1 c) (hl : news.length = size) (hnews : ∀ j u, news[j]? = some u → w.cell? (ad.add j) = some u) (h1 : ∀ u ∈ news, u.oneCell' = true)
    (hn : (n + 1) * (bytes + 1) ≤ 140737488355328) (hbase : base ≤ w.heap.size) (H : Nat) (hH : w.heap.size = H)
    (h : ∀ g cap w', w'.ownsRow base e size (.slice (some ⟨g, 0, none⟩) (n + 1) cap) (n + 1) (xs ++ news) → w.grownBy w' v.ownBlock → (v.ownBlock = some g ∨ g = H) → g < w'.heap.size → n + 1 ≤ cap → wpList P ops Q rest (a.put o.dst (.slice (some ⟨g, 0, none⟩) (n + 1) cap)) w') : wpList P ops Q (o :: rest) a w := by
  obtain ⟨i, z, hi, hz, hsize, hby, hzs⟩ := R.ex
  have hb : (n + 1) * bytes ≤ 140737488355328 := Nat.le_trans (Nat.mul_le_mul_left _ (by omega)) hn
  have hm : n + 1 ≤ maxLen := by
    have : (n + 1) * 1 ≤ (n + 1) * (bytes + 1) := Nat.mul_le_mul_left _ (by omega)
    unfold maxLen; omega
  refine wpList_append_lies w hgd s x t ho base e i z size bytes R.ht hi hz hsize hby hzs R.pos v n xs hs hown ad 1 c news hx (by rw [hl]; omega) hnews h1 (by omega) hm hb hbase H hH ?_
  intro g cap w' ho' hg hat hlt
  refine h g cap w' ho' hg hat hlt ?_
  rcases ho'.2 with ⟨h0, _⟩ | ⟨g', cap', cur, h0, _, _, hc, _⟩
  · cases h0
  · cases h0; exact hc
end Go.Proofs.YtmklieoikbgmpaaDoor
namespace Go.Proofs.YtmklieoikbgmpaaDoor
open Go.RowKit Go.Shelf
namespace Lx
theorem dig_nat {c : UInt8} (h : isDig c = true) : 48 ≤ c.toNat ∧ c.toNat ≤ 57 := by
  simp only [isDig, Bool.and_eq_true, decide_eq_true_eq, UInt8.le_iff_toNat_le] at h
  exact h
end Lx
theorem ret_bool {a b : Bool} (h : a = b) : Ending.returned (.bool a) = .returned (.bool b) := by rw [h]
def digN (x : Nat) : Bool := decide (48 ≤ x ∧ x ≤ 57)
def letN (x : Nat) : Bool := decide ((97 ≤ x ∧ x ≤ 122) ∨ x = 95)
def partN (x : Nat) : Bool := letN x || digN x
theorem digN_byte (c : UInt8) : digN c.toNat = Lx.isDig c := by
  rw [Bool.eq_iff_iff]; simp [digN, Lx.isDig, UInt8.le_iff_toNat_le]
theorem letN_byte (c : UInt8) : letN c.toNat = Lx.isLet c := by
  rw [Bool.eq_iff_iff]; simp [letN, Lx.isLet, UInt8.le_iff_toNat_le, ← UInt8.toNat_inj]
theorem partN_byte (c : UInt8) : partN c.toNat = Lx.isPt c := by
  unfold partN Lx.isPt; rw [digN_byte, letN_byte]
theorem high_no (x : Nat) (h : 128 ≤ x) : digN x = false ∧ partN x = false := by
  have a : digN x = false := by simp [digN]; omega
  have b : letN x = false := by simp [letN]; omega
  exact ⟨a, by unfold partN; rw [a, b]; rfl⟩
theorem size_toList (s : ByteArray) : s.data.toList.length = s.size := by rw [Array.length_toList]; rfl
theorem extract_take (s : ByteArray) (n : Nat) : (s.extract 0 n).data.toList = s.data.toList.take n := by simp
theorem extract_drop (s : ByteArray) (n : Nat) : (s.extract n s.size).data.toList = s.data.toList.drop n := by
  rw [ByteArray.data_extract, Array.toList_extract, List.extract_eq_take_drop, ← size_toList]
  rw [List.take_of_length_le (by simp)]
theorem headD_byte (s : ByteArray) (h : 0 < s.size) : s.data.toList.headD 0 = s[0] := by
  rw [List.headD_eq_head?_getD, List.head?_eq_getElem?, List.getElem?_eq_getElem (by rw [size_toList]; exact h)]; rfl
theorem toList_nil {t : ByteArray} : t.toList = [] ↔ t.data.toList = [] := by rw [Lib.toList_data]
def tokC (x : Tok) : List Value := [.int .i64 x.k, .string x.t, .int .i64 x.p]
theorem tokC_len (x : Tok) : (tokC x).length = 3 := rfl
def tok (N : Nat) (x : Lx.R) : Tok := ⟨x.k, ⟨x.t.toArray⟩, N - x.m⟩
def toks (N : Nat) (l : List Lx.R) : List Tok := l.map (tok N)
theorem rowTok : RowTy Tryd.prog 36 42 3 32 := RowTy.mk' (z := .agg #[.int .i64 0, .string ⟨#[]⟩, .int .i64 0]) Tryd.underlying36 (by kernel_rfl) rfl (by omega)
def strLen : Value → Nat
  | .string r => r.size
  | _ => 0
def LexPost (s : ByteArray) (w : World) (e : Ending) (w' : World) : Prop :=
  ∃ (v : Value) (er at_ : Int), e = .returned (.tuple #[v, .agg #[.int .i64 er, .int .i64 at_]]) ∧ Below w.heap.size w w' ∧
    ((er = 0 ∧ at_ = 0 ∧ (Lx.lexS s.data.toList).2 = none ∧ w'.ownsRow w.heap.size 42 3 v (Lx.lexS s.data.toList).1.length ((toks s.size (Lx.lexS s.data.toList).1).flatMap tokC)) ∨
     (∃ c m : Nat, c ≠ 0 ∧ er = c ∧ at_ = (s.size - m : Nat) ∧ (Lx.lexS s.data.toList).2 = some (c, m) ∧ v = .slice none 0 0))
structure LexLp (s : ByteArray) (w : World) (l : Value) (r : ByteArray) (done : List Lx.R) (wr : World) : Prop where
  sz : r.size ≤ s.size
  few : done.length + r.size ≤ s.size
  below : Below w.heap.size w wr
  ret : wr.heap[w.heap.size]? = some (.cells #[.int .i64 0, .int .i64 0] 29 (0, 0))
  own : wr.ownsRow (w.heap.size + 1) 42 3 l done.length ((toks s.size done).flatMap tokC)
  eq : Lx.lexS s.data.toList = (done ++ (Lx.lexS r.data.toList).1, (Lx.lexS r.data.toList).2)
theorem two_cells {W : World} {b T : Nat} {x y : Value} (h : W.heap[b]? = some (.cells #[x, y] T (0, 0))) :
    W.cell? ⟨b, 0, none⟩ = some x ∧ W.cell? ⟨b, 1, none⟩ = some y ∧ W.frozen? ⟨b, 0, none⟩ = false ∧ W.frozen? ⟨b, 1, none⟩ = false :=
  ⟨by simp [World.cell?, h], by simp [World.cell?, h], by simp [World.frozen?, h], by simp [World.frozen?, h]⟩
theorem size_of_list (r : ByteArray) : r.size = r.data.toList.length := (size_toList r).symm
theorem LexLp.step {s : ByteArray} {w : World} {l : Value} {r u : ByteArray} {done : List Lx.R} {wr w1 : World} (h : LexLp s w l r done wr) (hb : Below wr.heap.size wr w1) (hu : u.size ≤ r.size) (he : Lx.lexS u.data.toList = Lx.lexS r.data.toList) : LexLp s w l u done w1 where
  sz := Nat.le_trans hu h.sz
  few := Nat.le_trans (Nat.add_le_add_left hu _) h.few
  below := below_next h.below hb
  ret := (hb.block _ (Array.getElem?_eq_some_iff.1 h.ret).1).trans h.ret
  own := below_row hb h.own
  eq := by rw [he]; exact h.eq
theorem LexLp.push {s : ByteArray} {w : World} {l : Value} {u u' t : ByteArray} {done : List Lx.R} {w3 w4 : World} {o : Obj} {g cap k d : Nat} (h : LexLp s w l u done w3) (hd : (s.size : Int) - (u.size : Int) = (d : Int)) (hne : t.data.toList ≠ []) (hle : t.size ≤ u.size)
    (he : Lx.lexS u.data.toList = (⟨k, t.data.toList, u.data.toList.length⟩ :: (Lx.lexS (u.data.toList.drop t.data.toList.length)).1, (Lx.lexS (u.data.toList.drop t.data.toList.length)).2))
    (hu : u'.data.toList = u.data.toList.drop t.data.toList.length)
    (ho : w4.ownsRow (w.heap.size + 1) 42 3 (.slice (some ⟨g, 0, none⟩) (done.length + 1) cap) (done.length + 1) ((toks s.size done).flatMap tokC ++ [.int .i64 k, .string t, .int .i64 d])) (hg : (w3.alloc o).grownBy w4 l.ownBlock) :
    LexLp s w (.slice (some ⟨g, 0, none⟩) (done.length + 1) cap) u' (done ++ [⟨k, t.data.toList, u.data.toList.length⟩]) w4 := by
  have hsz := h.sz
  have hpos : 0 < t.size := by rw [size_of_list]; exact List.length_pos_iff.2 hne
  have hu2 : u'.size = u.size - t.size := by rw [size_of_list, hu, List.length_drop, size_toList, size_toList]
  have hlow : ∀ k, l.ownBlock = some k → w.heap.size + 1 ≤ k := fun k hk => (h.own.lt k hk).1
  have hsize := h.below.size
  have hret := (Array.getElem?_eq_some_iff.1 h.ret).1
  refine ⟨by omega, ?_, ?_, ?_, ?_, ?_⟩
  · have := h.few; simp; omega
  · exact (h.below.alloc hsize o).grown hg (by simp; omega) (fun q hq => by have := hlow q hq; omega)
  · rw [hg.block w.heap.size (by simp; omega) (fun e => by have := hlow _ e.symm; omega), Below.heap_alloc _ _ _ hret]; exact h.ret
  · have e : (toks s.size (done ++ [⟨k, t.data.toList, u.data.toList.length⟩])).flatMap tokC = (toks s.size done).flatMap tokC ++ [.int .i64 k, .string t, .int .i64 d] := by
      unfold toks
      rw [List.map_append, List.flatMap_append]
      congr 1
      have e2 : s.size - u.size = d := by omega
      simp [tok, tokC, e2]
    rw [e]
    simpa using ho
  · rw [h.eq, he, hu]; simp
theorem first_dig {r : Lx.Bs} (h : r.takeWhile Lx.isDig ≠ []) : Lx.first r = if Lx.tooBig (r.takeWhile Lx.isDig) then .err 2 else .tok 2 (r.takeWhile Lx.isDig) := by
  unfold Lx.first
  have : (r.takeWhile Lx.isDig).isEmpty = false := by
    cases h2 : r.takeWhile Lx.isDig with
    | nil => exact absurd h2 h
    | cons _ _ => rfl
  simp only [this, Bool.false_eq_true, if_false]
theorem first_word {r : Lx.Bs} (h : r.takeWhile Lx.isDig = []) (hw : Lx.isWord (r.takeWhile Lx.isPt) = true) : Lx.first r = .tok 3 (r.takeWhile Lx.isPt) := by
  unfold Lx.first; simp [h, hw]
theorem first_name {r : Lx.Bs} (h : r.takeWhile Lx.isDig = []) (hw : Lx.isWord (r.takeWhile Lx.isPt) = false) (hn : Lx.isName (r.takeWhile Lx.isPt) = true) : Lx.first r = .tok 1 (r.takeWhile Lx.isPt) := by
  unfold Lx.first; simp [h, hw, hn]
theorem first_none {r : Lx.Bs} (h : r.takeWhile Lx.isDig = []) (hw : Lx.isWord (r.takeWhile Lx.isPt) = false) (hn : Lx.isName (r.takeWhile Lx.isPt) = false) (hp : r.takeWhile Lx.isPt ≠ []) : Lx.first r = .err 5 := by
  unfold Lx.first
  have : (r.takeWhile Lx.isPt).isEmpty = false := by
    cases h2 : r.takeWhile Lx.isPt with
    | nil => exact absurd h2 hp
    | cons _ _ => rfl
  simp [h, hw, hn, this]
theorem first_sign {r : Lx.Bs} (h : r.takeWhile Lx.isDig = []) (hp : r.takeWhile Lx.isPt = []) : Lx.first r = match Lx.signs.find? (·.isPrefixOf r) with | some t => .tok 4 t | none => .err 5 := by
  unfold Lx.first
  have a : Lx.isWord [] = false := by decide
  have b : Lx.isName [] = false := by decide
  simp only [h, hp, a, b, List.isEmpty_nil, if_true, Bool.false_eq_true, if_false]
  all_goals rfl
theorem tooBig_iff (d : Lx.Bs) : Lx.tooBig d = true ↔ 10 < d.length ∨ 2147483647 < Lx.val d ∨ (1 < d.length ∧ d.headD 0 = 48) := by
  unfold Lx.tooBig
  simp only [Bool.or_eq_true, decide_eq_true_eq, Bool.and_eq_true, beq_iff_eq, or_assoc]
theorem byte48 {c : UInt8} : ((c.toNat : Int) == 48) = true ↔ c = 48 := by
  rw [beq_iff_eq, ← UInt8.toNat_inj]
  have : (48 : UInt8).toNat = 48 := rfl
  omega
end Go.Proofs.YtmklieoikbgmpaaDoor
namespace Go.Proofs.YtmklieoikbgmpaaDoor
open Go.RowKit Go.Shelf
theorem bytes_ext {a b : ByteArray} (h : a.data.toList = b.data.toList) : a = b := by
  obtain ⟨⟨a⟩⟩ := a
  obtain ⟨⟨b⟩⟩ := b
  simp at h; rw [h]
theorem fields_eq {P : Program} {t : TypeId} {fs : Array Field} (h : P.underlying t = some (.struct fs)) : P.fieldsOf t = fs := by unfold Program.fieldsOf; rw [h]
def Blk (w : World) (b : Nat) (cs : Array Value) (T : Nat) : Prop := w.heap[b]? = some (.cells cs T (0, 0))
theorem Blk.new (w : World) (cs : Array Value) (T : Nat) : Blk (w.alloc (.cells cs T)) w.heap.size cs T := heap_alloc_new w _
theorem Blk.below {w w' : World} {b T : Nat} {cs : Array Value} (h : Blk w b cs T) (hb : Below w.heap.size w w') : Blk w' b cs T := (hb.block b (Array.getElem?_eq_some_iff.1 h).1).trans h
theorem Blk.lt {w : World} {b T : Nat} {cs : Array Value} (h : Blk w b cs T) : b < w.heap.size := (Array.getElem?_eq_some_iff.1 h).1
theorem one_cell {W : World} {b T : Nat} {x : Value} (h : Blk W b #[x] T) : W.cell? ⟨b, 0, none⟩ = some x ∧ W.frozen? ⟨b, 0, none⟩ = false := by
  unfold Blk at h; exact ⟨by simp [World.cell?, h], by simp [World.frozen?, h]⟩
theorem Blk.set1 {W : World} {b T : Nat} {x : Value} (h : Blk W b #[x] T) (y : Value) : Blk (W.setCell ⟨b, 0, none⟩ y) b #[y] T := by
  unfold Blk at h ⊢
  simp [World.setCell, Array.getElem?_modify, h]
theorem Blk.other {W : World} {b T : Nat} {cs : Array Value} (h : Blk W b cs T) {p : Nat} (i : Nat) (hp : b ≠ p) (y : Value) : Blk (W.setCell ⟨p, i, none⟩ y) b cs T := by
  unfold Blk at h ⊢
  rw [Below.heap_setCell _ _ _ _ hp]; exact h
theorem Sl.lit {α : Type} {enc : α → List Value} {k : Nat} (hk : ∀ x, (enc x).length = k) {w : World} {b c T : Nat} {fr : Nat × Nat} {l : List α} (h : w.heap[b]? = some (.cells (l.flatMap enc).toArray T fr)) (hc : l.length ≤ c) : Sl enc k w (.slice (some ⟨b, 0, none⟩) l.length c) l :=
  Or.inr ⟨b, 0, c, rfl, hc, (Array.getElem?_eq_some_iff.1 h).1, fun i x hi j u hu => by
    rw [cell_of_row w b (0 + i * k + j) _ T fr h, Nat.zero_add]
    have := flatMap_cell hk l i x hi j u hu
    simpa using this⟩
theorem Sl.take {α : Type} {enc : α → List Value} {k : Nat} {w : World} {a : Option Addr} {l : List α} {c n : Nat} (h : Sl enc k w (.slice a l.length c) l) (hn : n ≤ l.length) : Sl enc k w (.slice a n c) (l.take n) := by
  rcases h with ⟨h2, a', c', h1⟩ | ⟨b, o, c', h1, hc, hlt, hx⟩
  · subst h2; simp at hn; subst hn; exact Or.inl ⟨rfl, _, _, rfl⟩
  · simp only [Value.slice.injEq] at h1
    obtain ⟨rfl, _, rfl⟩ := h1
    refine Or.inr ⟨b, o, c, by rw [List.length_take, Nat.min_eq_left hn], by rw [List.length_take]; omega, hlt, fun i x hi j u hu => hx i x ?_ j u hu⟩
    rw [List.getElem?_take] at hi
    split at hi
    · exact hi
    · cases hi
def intC (x : Int) : List Value := [.int .i64 x]
theorem intC_len (x : Int) : (intC x).length = 1 := rfl
def oneC (v : Value) : List Value := [v]
theorem oneC_len (x : Value) : (oneC x).length = 1 := rfl
theorem flat_one (l : List Value) : l.flatMap oneC = l := by induction l with
  | nil => rfl
  | cons a l ih => simp [List.flatMap_cons, oneC, ih]
def Sg {β : Type} (k : Nat) (P : World → List Value → β → Prop) (w : World) (v : Value) (L : List β) : Prop :=
  ∃ cs : List (List Value), Sl id k w v cs ∧ cs.length = L.length ∧ ∀ (i : Nat) (c : List Value) (x : β), cs[i]? = some c → L[i]? = some x → P w c x
def Keeps {β : Type} (P : World → List Value → β → Prop) : Prop := ∀ (w w' : World) (c : List Value) (x : β), P w c x → Below w.heap.size w w' → P w' c x
section
variable {β : Type} {k : Nat} {P : World → List Value → β → Prop} {w w' : World} {v : Value} {L : List β}
theorem Sg.below (hP : Keeps P) (h : Sg k P w v L) (hb : Below w.heap.size w w') : Sg k P w' v L := by
  obtain ⟨cs, h1, h2, h3⟩ := h
  exact ⟨cs, h1.below hb, h2, fun i c x hc hx => hP _ _ _ _ (h3 i c x hc hx) hb⟩
theorem Sg.nil_ : Sg k P w (.slice none 0 0) [] := ⟨[], Sl.nil_, rfl, fun i c x hc _ => by simp at hc⟩
theorem Sg.form (hP : Keeps P) (h : Sg k P w v L) : ∃ a c, v = .slice a L.length c ∧ L.length ≤ c ∧ ∀ W, Below w.heap.size w W → ∀ i x, L[i]? = some x → ∃ b o cs, a = some ⟨b, o, none⟩ ∧ P W cs x ∧ ∀ j u, cs[j]? = some u → W.cell? ⟨b, o + i * k + j, none⟩ = some u := by
  obtain ⟨cs, h1, h2, h3⟩ := h
  obtain ⟨a, c, rfl, hc, hx⟩ := h1.form
  rw [h2]
  refine ⟨a, c, rfl, by omega, fun W hW i x hi => ?_⟩
  have hi2 := (List.getElem?_eq_some_iff.1 hi).1
  obtain ⟨y, hy⟩ : ∃ y, cs[i]? = some y := ⟨_, List.getElem?_eq_getElem (by omega)⟩
  obtain ⟨b, o, rfl, hj⟩ := hx W hW i y hy
  exact ⟨b, o, y, rfl, hP _ _ _ _ (h3 i y x hy hi) hW, hj⟩
end
def Og {β : Type} (T k : Nat) (P : World → List Value → β → Prop) (base : Nat) (w : World) (v : Value) (L : List β) : Prop :=
  ∃ cs : List (List Value), w.ownsRow base T k v L.length (cs.flatMap id) ∧ cs.length = L.length ∧ (∀ c ∈ cs, c.length = k) ∧ ∀ (i : Nat) (c : List Value) (x : β), cs[i]? = some c → L[i]? = some x → P w c x
section
variable {β : Type} {T k base : Nat} {P : World → List Value → β → Prop} {w w' : World} {v : Value} {L : List β}
theorem Og.nil_ : Og T k P base w (.slice none 0 0) [] := ⟨[], World.ownsRow_nil _ _ _ _, rfl, fun c hc => by simp at hc, fun i c x hc _ => by simp at hc⟩
theorem Og.below (hP : Keeps P) (h : Og T k P base w v L) (hb : Below w.heap.size w w') : Og T k P base w' v L := by
  obtain ⟨cs, h1, h2, h3, h4⟩ := h
  exact ⟨cs, below_row hb h1, h2, h3, fun i c x hc hx => hP _ _ _ _ (h4 i c x hc hx) hb⟩
theorem flatMap_cell' {k : Nat} : ∀ (l : List (List Value)) (i : Nat) (x : List Value), (∀ c ∈ l, c.length = k) → l[i]? = some x → ∀ j u, x[j]? = some u → (l.flatMap id)[i * k + j]? = some u
  | [], i, x, _, h, _, _, _ => by simp at h
  | y :: r, 0, x, hk, h, j, u, hu => by
    simp at h; subst h
    have hj := (List.getElem?_eq_some_iff.1 hu).1
    rw [List.flatMap_cons, Nat.zero_mul, Nat.zero_add]
    show (y ++ _)[j]? = _
    rw [List.getElem?_append_left hj]; exact hu
  | y :: r, i + 1, x, hk, h, j, u, hu => by
    have h' : r[i]? = some x := by simpa using h
    have := flatMap_cell' r i x (fun c hc => hk c (by simp [hc])) h' j u hu
    have hy := hk y (by simp)
    rw [List.flatMap_cons, List.getElem?_append_right (by simp only [id]; rw [hy, Nat.add_mul]; omega)]
    simp only [id]
    rw [hy, show (i + 1) * k + j - k = i * k + j by rw [Nat.add_mul]; omega]
    exact this
theorem Og.sg (h : Og T k P base w v L) : Sg k P w v L := by
  obtain ⟨cs, h1, h2, h3, h4⟩ := h
  refine ⟨cs, ?_, h2, h4⟩
  rcases h1.2 with ⟨rfl, h0⟩ | ⟨g, cap, cur, rfl, _, hg, hcap, _, hsz, htake⟩
  · exact Or.inl ⟨List.eq_nil_of_length_eq_zero (by omega), none, 0, rfl⟩
  · refine Or.inr ⟨g, 0, cap, by rw [h2], by omega, (Array.getElem?_eq_some_iff.1 hg).1, fun i x hi j u hu => ?_⟩
    have hc := flatMap_cell' cs i x h3 hi j u hu
    rw [cell_of_row w g (0 + i * k + j) cur T (0, 0) hg, Nat.zero_add]
    rw [← htake, List.getElem?_take] at hc
    split at hc
    · simpa using hc
    · cases hc
theorem Og.len (h : Og T k P base w v L) (hP : Keeps P) : ∃ a c, v = .slice a L.length c ∧ L.length ≤ c := by
  obtain ⟨a, c, h1, h2, _⟩ := h.sg.form hP
  exact ⟨a, c, h1, h2⟩
theorem Og.push (h : Og T k P base w v L) {w1 : World} {v1 : Value} {x : β} {news : List Value} (hP : ∀ c x, P w c x → P w1 c x) (hn : news.length = k) (hx : P w1 news x)
    (ho : ∀ xs, w.ownsRow base T k v L.length xs → w1.ownsRow base T k v1 (L.length + 1) (xs ++ news)) : Og T k P base w1 v1 (L ++ [x]) := by
  obtain ⟨cs, h1, h2, h3, h4⟩ := h
  refine ⟨cs ++ [news], ?_, by simp [h2], ?_, ?_⟩
  · have := ho _ h1
    simpa using this
  · intro c hc
    rcases List.mem_append.1 hc with hc | hc
    · exact h3 c hc
    · rw [List.mem_singleton.1 hc]; exact hn
  · intro i c y hc hy
    rcases Nat.lt_or_ge i L.length with hi | hi
    · rw [List.getElem?_append_left (by omega)] at hc hy
      exact hP c y (h4 i c y hc hy)
    · have hi2 : i = L.length := by
        have := (List.getElem?_eq_some_iff.1 hy).1
        simp at this; omega
      subst hi2
      rw [List.getElem?_append_right (by omega)] at hc hy
      simp [h2] at hc hy
      subst hc hy; exact hx
end
end Go.Proofs.YtmklieoikbgmpaaDoor
namespace Go.Proofs.YtmklieoikbgmpaaDoor
open Go.RowKit Go.Shelf Tx
def ndL (x : Nd) : List Value := [.int .i64 x.op, .int .i64 x.a, .int .i64 x.b, .int .i64 x.c, .int .i64 x.n, .string x.s]
theorem ndL_len (x : Nd) : (ndL x).length = 6 := rfl
abbrev ndV (x : Nd) : Value := .agg #[.int .i64 x.op, .int .i64 x.a, .int .i64 x.b, .int .i64 x.c, .int .i64 x.n, .string x.s]
theorem rowNd : RowTy Tryd.prog 26 33 6 56 := RowTy.mk' (z := .agg #[.int .i64 0, .int .i64 0, .int .i64 0, .int .i64 0, .int .i64 0, .string ⟨#[]⟩]) Tryd.underlying26 (by kernel_rfl) rfl (by omega)
theorem rowI : RowTy Tryd.prog 23 3 1 8 := RowTy.mk' (z := .int .i64 0) Tryd.underlying23 (by kernel_rfl) rfl (by omega)
def IsE (w : World) (v : Value) (e : List Nd) : Prop := Sl ndL 6 w v e
def OwnE (base : Nat) (w : World) (v : Value) (e : List Nd) : Prop := w.ownsRow base 33 6 v e.length (e.flatMap ndL)
theorem OwnE.isE {base : Nat} {w : World} {v : Value} {e : List Nd} (h : OwnE base w v e) : IsE w v e := Sl.own ndL_len h rfl
theorem OwnE.nil_ (base : Nat) (w : World) : OwnE base w (.slice none 0 0) [] := World.ownsRow_nil _ _ _ _
theorem OwnE.below {base : Nat} {w w' : World} {v : Value} {e : List Nd} (h : OwnE base w v e) (hb : Below w.heap.size w w') : OwnE base w' v e := below_row hb h
theorem OwnE.mono {base b2 : Nat} {w : World} {v : Value} {e : List Nd} (h : OwnE base w v e) (hb : b2 ≤ base) : OwnE b2 w v e := World.ownsRow.mono h hb
theorem nd_cells {W : World} {b o : Nat} {x : Nd} (h : ∀ j u, (ndL x)[j]? = some u → W.cell? ⟨b, o + j, none⟩ = some u) :
    W.cell? ⟨b, o, none⟩ = some (.int .i64 x.op) ∧ W.cell? ⟨b, o + 1, none⟩ = some (.int .i64 x.a) ∧ W.cell? ⟨b, o + 2, none⟩ = some (.int .i64 x.b) ∧ W.cell? ⟨b, o + 3, none⟩ = some (.int .i64 x.c) ∧ W.cell? ⟨b, o + 4, none⟩ = some (.int .i64 x.n) ∧ W.cell? ⟨b, o + 5, none⟩ = some (.string x.s) :=
  ⟨h 0 _ rfl, h 1 _ rfl, h 2 _ rfl, h 3 _ rfl, h 4 _ rfl, h 5 _ rfl⟩
def RowI (base : Nat) (w : World) (v : Value) (l : List Int) : Prop :=
  (l = [] ∧ v = .slice none 0 0) ∨ ∃ g, v = .slice (some ⟨g, 0, none⟩) l.length l.length ∧ base ≤ g ∧ Blk w g (l.map (Value.int .i64)).toArray 3
theorem flat_ints (l : List Int) : l.flatMap intC = l.map (Value.int .i64) := by
  induction l with
  | nil => rfl
  | cons a l ih => rw [List.flatMap_cons, List.map_cons, ih]; rfl
theorem RowI.sl {base : Nat} {w : World} {v : Value} {l : List Int} (h : RowI base w v l) : Sl intC 1 w v l := by
  rcases h with ⟨rfl, rfl⟩ | ⟨g, rfl, _, hb⟩
  · exact Sl.nil_
  · refine Sl.lit intC_len (T := 3) (fr := (0, 0)) ?_ (Nat.le_refl _)
    rw [flat_ints]; exact hb
theorem RowI.below {base : Nat} {w w' : World} {v : Value} {l : List Int} (h : RowI base w v l) (hb : Below w.heap.size w w') : RowI base w' v l := by
  rcases h with h | ⟨g, h1, h2, h3⟩
  · exact Or.inl h
  · exact Or.inr ⟨g, h1, h2, h3.below hb⟩
theorem RowI.form {base : Nat} {w : World} {v : Value} {l : List Int} (h : RowI base w v l) : ∃ a c, v = .slice a l.length c ∧ l.length ≤ c := by
  rcases h with ⟨rfl, rfl⟩ | ⟨g, rfl, _⟩
  · exact ⟨none, 0, rfl, Nat.le_refl _⟩
  · exact ⟨_, _, rfl, Nat.le_refl _⟩
theorem RowI.at {base : Nat} {w : World} {a : Option Addr} {n c : Nat} {l : List Int} (h : RowI base w (.slice a n c) l) {t : Nat} {y : Int} (hy : l[t]? = some y) : ∃ g, a = some ⟨g, 0, none⟩ ∧ base ≤ g ∧ g < w.heap.size ∧ w.cell? ⟨g, t, none⟩ = some (.int .i64 y) ∧ w.frozen? ⟨g, t, none⟩ = false := by
  rcases h with ⟨rfl, _⟩ | ⟨g, h1, h2, h3⟩
  · simp at hy
  · cases h1
    refine ⟨g, rfl, h2, h3.lt, ?_, ?_⟩
    · unfold Blk at h3; simp [World.cell?, h3, hy]
    · unfold Blk at h3; simp [World.frozen?, h3]
theorem RowI.other {base : Nat} {w : World} {v : Value} {l : List Int} (h : RowI base w v l) {p : Nat} (hp : p < base) (i : Nat) (y : Value) : RowI base (w.setCell ⟨p, i, none⟩ y) v l := by
  rcases h with h | ⟨g, h1, h2, h3⟩
  · exact Or.inl h
  · exact Or.inr ⟨g, h1, h2, h3.other i (by omega) y⟩
theorem RowI.mono {base b2 : Nat} {w : World} {v : Value} {l : List Int} (h : RowI base w v l) (hb : b2 ≤ base) : RowI b2 w v l := by
  rcases h with h | ⟨g, h1, h2, h3⟩
  · exact Or.inl h
  · exact Or.inr ⟨g, h1, by omega, h3⟩
def KidsPost (x : Nd) (w : World) (e : Ending) (w' : World) : Prop := ∃ v, e = .returned v ∧ RowI w.heap.size w' v (kids x) ∧ Below w.heap.size w w'
theorem kidsPost_nil {x : Nd} {w w' : World} (h : kids x = []) (hb : Below w.heap.size w w') : KidsPost x w (.returned (.slice none 0 0)) w' := ⟨_, rfl, Or.inl ⟨h, rfl⟩, hb⟩
theorem kidsPost_row {x : Nd} {w w' : World} {l : List Int} {g : Nat} {n : Nat} (h : kids x = l) (hn : l.length = n) (hg : w.heap.size ≤ g) (hk : Blk w' g (l.map (Value.int .i64)).toArray 3) (hb : Below w.heap.size w w') : KidsPost x w (.returned (.slice (some ⟨g, 0, none⟩) n n)) w' := by
  subst h hn; exact ⟨_, rfl, Or.inr ⟨g, rfl, hg, hk⟩, hb⟩
end Go.Proofs.YtmklieoikbgmpaaDoor
namespace Go.Proofs.YtmklieoikbgmpaaDoor.Lx
theorem decode_low (s : ByteArray) (i : Nat) (h : (s.get! i).toNat < 128) : Utf8.decode s i = ((s.get! i).toNat, 1) := by
  unfold Utf8.decode
  simp only [Nat.add_zero]
  rw [if_pos h]
theorem decode_high (s : ByteArray) (i : Nat) (h : 128 ≤ (s.get! i).toNat) : 128 ≤ (Utf8.decode s i).1 := by
  unfold Utf8.decode Utf8.runeError
  simp only [Nat.add_zero]
  rw [if_neg (by omega)]
  repeat' split
  all_goals first | omega | (simp_all; omega)
theorem idx_row (p : Nat → Bool) (q : UInt8 → Bool) (hlow : ∀ c : UInt8, c.toNat < 128 → p c.toNat = q c) (hhigh : ∀ x, 128 ≤ x → p x = false) (hq : ∀ c : UInt8, 128 ≤ c.toNat → q c = false) (s : ByteArray) :
    Lib.idxFunc (fun x => !p x) true s = if (s.data.toList.takeWhile q).length = s.size then -1 else ((s.data.toList.takeWhile q).length : Int) := by
  have key : ∀ (f pos : Nat), s.size - pos ≤ f → pos ≤ s.size → Lib.idxFuncFrom (fun x => !p x) true s f pos = if pos + ((s.data.toList.drop pos).takeWhile q).length = s.size then -1 else ((pos + ((s.data.toList.drop pos).takeWhile q).length : Nat) : Int) := by
    intro f
    induction f with
    | zero =>
      intro pos h1 h2
      have : pos = s.size := by omega
      subst this
      have e : s.data.toList.drop s.size = [] := by rw [List.drop_eq_nil_iff]; simp
      rw [e]
      simp [Lib.idxFuncFrom]
    | succ f ih =>
      intro pos h1 h2
      unfold Lib.idxFuncFrom
      by_cases hp : pos < s.size
      · rw [if_pos hp]
        have hd : s.data.toList.drop pos = s.get! pos :: s.data.toList.drop (pos + 1) := by
          rw [List.drop_eq_getElem_cons (by simpa using hp)]
          congr 1
          have : s.data.size = s.size := rfl
          simp only [ByteArray.get!, Array.getElem_toList]
          rw [getElem!_pos s.data pos (by omega)]
        rw [hd]
        by_cases hl : (s.get! pos).toNat < 128
        · rw [decode_low s pos hl]
          simp only [hlow _ hl]
          by_cases hqq : q (s.get! pos) = true
          · simp only [hqq, Bool.not_true, Bool.false_eq_true, if_false, List.takeWhile_cons, if_true, List.length_cons]
            rw [ih (pos + 1) (by omega) (by omega)]
            have e : ∀ n : Nat, pos + 1 + n = pos + (n + 1) := fun n => by omega
            rw [e]
          · have hqf : q (s.get! pos) = false := by simpa using hqq
            simp only [hqf, Bool.not_false, if_true, List.takeWhile_cons, Bool.false_eq_true, if_false, List.length_nil, Nat.add_zero]
            rw [if_neg (by omega)]
        · have h3 := decode_high s pos (by omega)
          have hqf := hq (s.get! pos) (by omega)
          simp only [hhigh _ h3, Bool.not_false, if_true, List.takeWhile_cons, hqf, Bool.false_eq_true, if_false, List.length_nil, Nat.add_zero]
          rw [if_neg (by omega)]
      · have : pos = s.size := by omega
        subst this
        have e : s.data.toList.drop s.size = [] := by rw [List.drop_eq_nil_iff]; simp
        rw [if_neg hp, e]
        simp
  have := key s.size 0 (by omega) (by omega)
  simpa [Lib.idxFunc] using this
theorem less_irrefl : ∀ a : Bs, Op.bytesLess a a = false
  | [] => rfl
  | c :: a => by simp [Op.bytesLess, less_irrefl a]
theorem less_trans : ∀ {a b c : Bs}, Op.bytesLess a b = true → Op.bytesLess b c = true → Op.bytesLess a c = true
  | _, [], _, h, _ => by simp [Op.bytesLess] at h
  | _, _ :: _, [], _, h => by simp [Op.bytesLess] at h
  | [], _ :: _, _ :: _, _, _ => rfl
  | x :: a, y :: b, z :: c, h, k => by
    simp only [Op.bytesLess, Bool.or_eq_true, decide_eq_true_eq, Bool.and_eq_true, beq_iff_eq] at h k ⊢
    rcases h with h | ⟨rfl, h⟩
    · rcases k with k | ⟨rfl, k⟩
      · exact Or.inl (UInt8.lt_trans h k)
      · exact Or.inl h
    · rcases k with k | ⟨rfl, k⟩
      · exact Or.inl k
      · exact Or.inr ⟨rfl, less_trans h k⟩
theorem bs_spec (less : Nat → Bool) (n k : Nat) (h1 : ∀ t, t < k → less t = true) (h2 : ∀ t, k ≤ t → t < n → less t = false) : ∀ (f lo hi : Nat), hi - lo ≤ f → lo ≤ k → k ≤ hi → hi ≤ n → Lib.bsGo less f lo hi = k
  | 0, lo, hi, hf, a, b, _ => by simp [Lib.bsGo]; omega
  | f + 1, lo, hi, hf, a, b, c => by
    unfold Lib.bsGo
    by_cases h : lo < hi
    · rw [if_pos h]
      by_cases hm : (lo + hi) / 2 < k
      · rw [h1 _ hm, if_pos rfl]; exact bs_spec less n k h1 h2 f _ _ (by omega) (by omega) b c
      · rw [h2 _ (by omega) (by omega)]; exact bs_spec less n k h1 h2 f _ _ (by omega) a (by omega) (by omega)
    · rw [if_neg h]; omega
theorem words_sorted : words.Pairwise (fun a b => Op.bytesLess a b = true) := by decide
theorem sorted_get {l : List Bs} (h : l.Pairwise (fun a b => Op.bytesLess a b = true)) {i j : Nat} (hij : i < j) (hj : j < l.length) : Op.bytesLess (l[i]'(by omega)) l[j] = true :=
  (List.pairwise_iff_getElem.1 h) i j (by omega) hj hij
theorem search_is (l : List Bs) (hl : l.Pairwise (fun a b => Op.bytesLess a b = true)) (x : Bs) :
    decide (Lib.bsGo (fun t => Op.bytesLess (l.getD t []) x) l.length 0 l.length < l.length ∧ l.getD (Lib.bsGo (fun t => Op.bytesLess (l.getD t []) x) l.length 0 l.length) [] = x) = l.contains x := by
  obtain ⟨k, hk⟩ : ∃ k, k = (l.takeWhile (fun a => Op.bytesLess a x)).length := ⟨_, rfl⟩
  have hkl : k ≤ l.length := by rw [hk]; exact (List.takeWhile_prefix _).length_le
  have h1 : ∀ t, t < k → Op.bytesLess (l.getD t []) x = true := by
    have : ∀ (l : List Bs) (t : Nat), t < (l.takeWhile (fun a => Op.bytesLess a x)).length → Op.bytesLess (l.getD t []) x = true := by
      intro l
      induction l with
      | nil => intro t h; simp at h
      | cons a l ih =>
        intro t h
        rw [List.takeWhile_cons] at h
        split at h
        · rename_i ha
          cases t with
          | zero => simpa using ha
          | succ t => simp at h; simpa using ih t h
        · simp at h
    intro t ht
    exact this l t (by rw [← hk]; exact ht)
  have hge : k < l.length → Op.bytesLess (l.getD k []) x = false := by
    intro h
    have : ∀ (l : List Bs) (k : Nat), k = (l.takeWhile (fun a => Op.bytesLess a x)).length → k < l.length → Op.bytesLess (l.getD k []) x = false := by
      intro l
      induction l with
      | nil => intro k _ h; simp at h
      | cons a l ih =>
        intro k hk h
        rw [List.takeWhile_cons] at hk
        split at hk
        · simp at hk; subst hk
          simp at h
          simpa using ih _ rfl h
        · rename_i ha
          simp at hk; subst hk; simpa using ha
    exact this l k hk h
  have h2 : ∀ t, k ≤ t → t < l.length → Op.bytesLess (l.getD t []) x = false := by
    intro t h3 h4
    by_cases e : t = k
    · subst e; exact hge h4
    · by_cases q : Op.bytesLess (l.getD t []) x = true
      · exfalso
        have h5 := sorted_get hl (i := k) (j := t) (by omega) h4
        have e1 : l.getD t [] = l[t] := by rw [List.getD_eq_getElem?_getD, List.getElem?_eq_getElem h4]; rfl
        have e2 : l.getD k [] = l[k]'(by omega) := by rw [List.getD_eq_getElem?_getD, List.getElem?_eq_getElem (by omega)]; rfl
        have h6 := less_trans h5 (by rw [← e1]; exact q)
        have h7 := hge (by omega)
        rw [e2, h6] at h7; cases h7
      · simpa using q
  rw [bs_spec _ l.length k h1 h2 l.length 0 l.length (by omega) (by omega) hkl (Nat.le_refl _)]
  rw [Bool.eq_iff_iff, decide_eq_true_eq, List.contains_iff_mem]
  constructor
  · rintro ⟨h3, h4⟩
    rw [List.getD_eq_getElem?_getD, List.getElem?_eq_getElem h3] at h4
    rw [← h4]; exact List.getElem_mem _
  · intro hm
    obtain ⟨j, hj, e⟩ := List.getElem_of_mem hm
    have ej : l.getD j [] = x := by rw [List.getD_eq_getElem?_getD, List.getElem?_eq_getElem hj]; exact e
    have e1 : ¬ j < k := by
      intro h
      have := h1 j h
      rw [ej, less_irrefl] at this; cases this
    have e2 : ¬ k < j := by
      intro h
      have h5 := sorted_get hl h hj
      rw [e] at h5
      have h7 := hge (by omega)
      rw [List.getD_eq_getElem?_getD, List.getElem?_eq_getElem (by omega)] at h7
      simp at h7
      rw [h5] at h7; cases h7
    have : j = k := by omega
    subst this
    exact ⟨hj, ej⟩
theorem all_takeWhile {p : UInt8 → Bool} : ∀ {l : Bs}, l.takeWhile p = l → l.all p = true
  | [], _ => rfl
  | c :: l, h => by
    rw [List.takeWhile_cons] at h
    split at h
    · rename_i hc
      have h2 : l.takeWhile p = l := by injection h
      simp [hc]; simpa using all_takeWhile h2
    · cases h
theorem name_yes {t : Bs} (h1 : t ≠ []) (h2 : t.length ≤ 40) (h3 : t.takeWhile isPt = t) : isName t = (!isDig (t.headD 0) && !isWord t) := by
  unfold isName
  have e1 : t.isEmpty = false := by cases t with | nil => exact absurd rfl h1 | cons _ _ => rfl
  rw [e1, all_takeWhile h3]
  simp only [h2, decide_true, Bool.not_false, Bool.true_and]
theorem name_no {t : Bs} (h3 : t.takeWhile isPt ≠ t) : isName t = false := by
  unfold isName
  have : t.all isPt = false := by
    by_cases q : t.all isPt = true
    · exfalso
      apply h3
      have : ∀ l : Bs, l.all isPt = true → l.takeWhile isPt = l := by
        intro l
        induction l with
        | nil => intro _; rfl
        | cons c l ih =>
          intro h
          simp only [List.all_cons, Bool.and_eq_true] at h
          rw [List.takeWhile_cons, if_pos h.1, ih h.2]
      exact this t q
    · simpa using q
  rw [this]; simp
theorem uint_go : ∀ (l : Bs) (acc : Nat), l.all isDig = true → (acc + 1) * 10 ^ l.length ≤ 18446744073709551616 → Lib.parseUint10 acc l = .ok (l.foldl (fun n c => 10 * n + (c.toNat - 48)) acc)
  | [], acc, _, _ => rfl
  | c :: l, acc, h, hb => by
    simp only [List.all_cons, Bool.and_eq_true] at h
    have hc := dig_nat h.1
    have hp : 1 ≤ 10 ^ l.length := Nat.one_le_pow _ _ (by omega)
    rw [List.length_cons, Nat.pow_succ] at hb
    have hb2 : (acc + 1) * 10 * 10 ^ l.length ≤ 18446744073709551616 := by rw [Nat.mul_assoc, Nat.mul_comm 10]; exact hb
    have hb3 : (acc + 1) * 10 ≤ 18446744073709551616 := Nat.le_trans (Nat.le_mul_of_pos_right _ hp) hb2
    have e : acc * 10 + (c.toNat - 48) = 10 * acc + (c.toNat - 48) := by omega
    simp only [Lib.parseUint10, hc.1, hc.2, and_self, if_true]
    rw [if_neg (by omega), if_neg (by omega), e]
    exact uint_go l _ h.2 (Nat.le_trans (Nat.mul_le_mul_right _ (by omega)) hb2)
theorem atoi_digits {d : Bs} (hd : d.all isDig = true) (hn : d ≠ []) (hl : d.length ≤ 10) : Lib.atoiAll d = .ok (val d : Int) := by
  cases d with
  | nil => exact absurd rfl hn
  | cons c r =>
    have h1 := hd
    simp only [List.all_cons, Bool.and_eq_true] at h1
    have hc := dig_nat h1.1
    have hp : 10 ^ (c :: r).length ≤ 10 ^ 10 := Nat.pow_le_pow_right (by omega) hl
    have hu := uint_go (c :: r) 0 hd (by omega)
    have hv : ∀ (l : Bs) (acc : Nat), l.all isDig = true → l.foldl (fun n c => 10 * n + (c.toNat - 48)) acc < (acc + 1) * 10 ^ l.length := by
      intro l
      induction l with
      | nil => intro acc _; simp
      | cons c l ih =>
        intro acc h
        simp only [List.all_cons, Bool.and_eq_true] at h
        have hc := dig_nat h.1
        have := ih (10 * acc + (c.toNat - 48)) h.2
        rw [List.foldl_cons, List.length_cons, Nat.pow_succ]
        refine Nat.lt_of_lt_of_le this ?_
        have e : (acc + 1) * (10 ^ l.length * 10) = (acc + 1) * 10 * 10 ^ l.length := by rw [Nat.mul_comm (10 ^ _), ← Nat.mul_assoc]
        rw [e]
        exact Nat.mul_le_mul_right _ (by omega)
    have hv2 := hv (c :: r) 0 hd
    rw [Lib.atoiAll_plain c r (by omega) (by omega)]
    have e : Lib.parseMag (c :: r) = .ok (val (c :: r)) := by unfold Lib.parseMag; rw [if_neg (by simp), hu]; rfl
    rw [e]
    unfold Lib.signless
    have : val (c :: r) < 9223372036854775808 := by show List.foldl _ _ _ < _; omega
    simp only
    first
      | rw [if_neg (by omega)]
      | simp [this]
theorem idx_find {α : Type} (p : α → Bool) (d : α) : ∀ (l : List α) (i : Nat), (Lib.idxByFrom (fun _ y => p y) d l i = -1 ∧ l.find? p = none) ∨ ∃ k x, l[k]? = some x ∧ Lib.idxByFrom (fun _ y => p y) d l i = ((i + k : Nat) : Int) ∧ l.find? p = some x
  | [], _ => Or.inl ⟨rfl, rfl⟩
  | y :: r, i => by
    unfold Lib.idxByFrom
    by_cases h : p y = true
    · exact Or.inr ⟨0, y, rfl, by rw [if_pos h]; rfl, by rw [List.find?_cons, h]⟩
    · rw [if_neg h]
      have hf : p y = false := by simpa using h
      rcases idx_find p d r (i + 1) with ⟨h1, h2⟩ | ⟨k, x, h1, h2, h3⟩
      · exact Or.inl ⟨h1, by rw [List.find?_cons, hf]; exact h2⟩
      · exact Or.inr ⟨k + 1, x, h1, by rw [h2]; congr 1; omega, by rw [List.find?_cons, hf]; exact h3⟩
theorem index_line : ∀ (l : Bs), Lib.indexByte l 10 = if (10 : UInt8) ∈ l then ((l.takeWhile (· != 10)).length : Int) else -1
  | [] => rfl
  | c :: l => by
    have ih := index_line l
    unfold Lib.indexByte
    by_cases hc : c = 10
    · subst hc; simp
    · have h1 : (c == 10) = false := by simpa using hc
      have h2 : (c != 10) = true := by simpa using hc
      rw [h1]
      simp only [List.takeWhile_cons, h2, if_true, List.length_cons, ih, Bool.false_eq_true, if_false]
      by_cases hm : (10 : UInt8) ∈ l
      · have : (10 : UInt8) ∈ c :: l := by simp [hm]
        rw [if_pos hm, if_pos this]
        simp <;> omega
      · have : (10 : UInt8) ∉ c :: l := by simp [hm, Ne.symm hc]
        rw [if_neg hm, if_neg this]; rfl
theorem cut_line (l : Bs) : (Lib.cut l [10]).2.1 = afterLine l := by
  unfold Lib.cut
  rw [Lib.index_one, index_line]
  have key : ∀ l : Bs, (10 : UInt8) ∈ l → l.dropWhile (· != 10) = l.drop (l.takeWhile (· != 10)).length := by
    intro l
    induction l with
    | nil => intro h; simp at h
    | cons c l ih =>
      intro h
      by_cases hc : c = 10
      · subst hc; simp
      · have h2 : (c != 10) = true := by simpa using hc
        simp only [List.dropWhile_cons, List.takeWhile_cons, h2, if_true, List.length_cons, List.drop_succ_cons]
        exact ih (by simpa [Ne.symm hc] using h)
  by_cases hm : (10 : UInt8) ∈ l
  · rw [if_pos hm, if_pos (by omega)]
    unfold afterLine
    rw [key l hm, List.drop_drop]
    simp
  · rw [if_neg hm, if_neg (by omega)]
    have : l.dropWhile (· != 10) = [] := by
      have : ∀ l : Bs, (10 : UInt8) ∉ l → l.dropWhile (· != 10) = [] := by
        intro l
        induction l with
        | nil => intro _; rfl
        | cons c l ih =>
          intro h
          have hc : c ≠ 10 := by rintro rfl; simp at h
          have h2 : (c != 10) = true := by simpa using hc
          rw [List.dropWhile_cons, if_pos h2]
          exact ih (by simp at h; exact h.2)
      exact this l hm
    unfold afterLine
    rw [this]; rfl
end Go.Proofs.YtmklieoikbgmpaaDoor.Lx
namespace Go.Proofs
open Go.Shelf
def Tryd.lays161_ren : Go.Shelf.Ren := ⟨fun | 161 => 9 | 231 => 18 | 227 => 19 | 233 => 20 | 235 => 21 | 228 => 34 | 197 => 35 | 151 => 36 | 260 => 48 | 152 => 49 | 137 => 69 | 119 => 70 | 224 => 52 | 225 => 51 | 217 => 50 | 266 => 71 | n => n, fun | 9 => 9 | 4 => 4 | 3 => 3 | 5 => 5 | 117 => 61 | 116 => 60 | 0 => 0 | 124 => 64 | 105 => 78 | 21 => 21 | 119 => 106 | 46 => 92 | 139 => 109 | 138 => 108 | n => n, fun | 3 => 3 | 4 => 4 | n => n⟩
theorem Tryd.lays161 : Go.Proofs.Lays.n161 Tryd.prog Tryd.lays161_ren := {
  mixed := by kernel_rfl
  f119 := Tryd.func70.trans (congrArg some (by kernel_rfl))
  f137 := Tryd.func69.trans (congrArg some (by kernel_rfl))
  f151 := Tryd.func36.trans (congrArg some (by kernel_rfl))
  f152 := Tryd.func49.trans (congrArg some (by kernel_rfl))
  f161 := Tryd.func9.trans (congrArg some (by kernel_rfl))
  f197 := Tryd.func35.trans (congrArg some (by kernel_rfl))
  f217 := Tryd.func50.trans (congrArg some (by kernel_rfl))
  f224 := Tryd.func52.trans (congrArg some (by kernel_rfl))
  f225 := Tryd.func51.trans (congrArg some (by kernel_rfl))
  f227 := Tryd.func19.trans (congrArg some (by kernel_rfl))
  f228 := Tryd.func34.trans (congrArg some (by kernel_rfl))
  f231 := Tryd.func18.trans (congrArg some (by kernel_rfl))
  f233 := Tryd.func20.trans (congrArg some (by kernel_rfl))
  f235 := Tryd.func21.trans (congrArg some (by kernel_rfl))
  f260 := Tryd.func48.trans (congrArg some (by kernel_rfl))
  f266 := Tryd.func71.trans (congrArg some (by kernel_rfl))
  t0 := Tryd.underlying0
  a0 := Tryd.isAgg0
  z0 := Tryd.sizeOf0
  v0 := Tryd.zeroValue0
  t3 := Tryd.underlying3
  a3 := Tryd.isAgg3
  z3 := Tryd.sizeOf3
  v3 := Tryd.zeroValue3
  t4 := Tryd.underlying4
  a4 := Tryd.isAgg4
  z4 := Tryd.sizeOf4
  v4 := Tryd.zeroValue4
  t5 := Tryd.underlying5
  a5 := Tryd.isAgg5
  z5 := Tryd.sizeOf5
  v5 := Tryd.zeroValue5
  t9 := Tryd.underlying9
  a9 := Tryd.isAgg9
  z9 := Tryd.sizeOf9
  v9 := Tryd.zeroValue9
  t21 := Tryd.underlying21
  a21 := Tryd.isAgg21
  z21 := Tryd.sizeOf21
  v21 := Tryd.zeroValue21
  t46 := Tryd.underlying92
  a46 := Tryd.isAgg92
  z46 := Tryd.sizeOf92
  v46 := Tryd.zeroValue92
  t105 := Tryd.underlying78
  a105 := Tryd.isAgg78
  z105 := Tryd.sizeOf78
  v105 := Tryd.zeroValue78
  t116 := Tryd.underlying60
  a116 := Tryd.isAgg60
  z116 := Tryd.sizeOf60
  t117 := Tryd.underlying61
  a117 := Tryd.isAgg61
  z117 := Tryd.sizeOf61
  v117 := Tryd.zeroValue61
  t119 := Tryd.underlying106
  a119 := Tryd.isAgg106
  z119 := Tryd.sizeOf106
  t124 := Tryd.underlying64
  a124 := Tryd.isAgg64
  z124 := Tryd.sizeOf64
  v124 := Tryd.zeroValue64
  t138 := Tryd.underlying108
  a138 := Tryd.isAgg108
  z138 := Tryd.sizeOf108
  v138 := Tryd.zeroValue108
  t139 := Tryd.underlying109
  a139 := Tryd.isAgg109
  z139 := Tryd.sizeOf109
  v139 := Tryd.zeroValue109
  g3 := by kernel_rfl
  g4 := by kernel_rfl }
def Tryd.laysC172_ren : Go.Shelf.Ren := ⟨fun | 172 => 26 | 244 => 40 | 245 => 41 | 247 => 55 | 279 => 56 | 280 => 57 | 281 => 58 | 282 => 59 | 287 => 73 | 316 => 74 | 171 => 76 | 205 => 75 | 321 => 80 | 322 => 81 | 243 => 82 | 246 => 83 | 283 => 84 | 284 => 85 | 285 => 86 | 286 => 87 | 129 => 89 | 317 => 88 | 318 => 90 | 319 => 91 | 320 => 92 | 337 => 93 | 338 => 94 | n => n, fun | 9 => 9 | 3 => 3 | 75 => 68 | 76 => 69 | 4 => 4 | 5 => 5 | 167 => 94 | 37 => 95 | 0 => 0 | 85 => 96 | 2 => 2 | 168 => 98 | 53 => 113 | 175 => 114 | 46 => 92 | 210 => 118 | 127 => 124 | 145 => 127 | 143 => 125 | 21 => 21 | 171 => 131 | 173 => 134 | 212 => 137 | 51 => 110 | 20 => 20 | 213 => 138 | 232 => 142 | 233 => 143 | 80 => 86 | n => n, fun | 15 => 5 | 16 => 6 | 17 => 7 | 18 => 8 | 19 => 9 | n => n⟩
theorem Tryd.laysC172 : Go.Proofs.LaysC.n172 Tryd.prog Tryd.laysC172_ren := {
  mixed := by kernel_rfl
  f129 := Tryd.func89.trans (congrArg some (by kernel_rfl))
  f171 := Tryd.func76.trans (congrArg some (by kernel_rfl))
  f172 := Tryd.func26.trans (congrArg some (by kernel_rfl))
  f205 := Tryd.func75.trans (congrArg some (by kernel_rfl))
  f243 := Tryd.func82.trans (congrArg some (by kernel_rfl))
  f244 := Tryd.func40.trans (congrArg some (by kernel_rfl))
  f245 := Tryd.func41.trans (congrArg some (by kernel_rfl))
  f246 := Tryd.func83.trans (congrArg some (by kernel_rfl))
  f247 := Tryd.func55.trans (congrArg some (by kernel_rfl))
  f279 := Tryd.func56.trans (congrArg some (by kernel_rfl))
  f280 := Tryd.func57.trans (congrArg some (by kernel_rfl))
  f281 := Tryd.func58.trans (congrArg some (by kernel_rfl))
  f282 := Tryd.func59.trans (congrArg some (by kernel_rfl))
  f283 := Tryd.func84.trans (congrArg some (by kernel_rfl))
  f284 := Tryd.func85.trans (congrArg some (by kernel_rfl))
  f285 := Tryd.func86.trans (congrArg some (by kernel_rfl))
  f286 := Tryd.func87.trans (congrArg some (by kernel_rfl))
  f287 := Tryd.func73.trans (congrArg some (by kernel_rfl))
  f316 := Tryd.func74.trans (congrArg some (by kernel_rfl))
  f317 := Tryd.func88.trans (congrArg some (by kernel_rfl))
  f318 := Tryd.func90.trans (congrArg some (by kernel_rfl))
  f319 := Tryd.func91.trans (congrArg some (by kernel_rfl))
  f320 := Tryd.func92.trans (congrArg some (by kernel_rfl))
  f321 := Tryd.func80.trans (congrArg some (by kernel_rfl))
  f322 := Tryd.func81.trans (congrArg some (by kernel_rfl))
  f337 := Tryd.func93.trans (congrArg some (by kernel_rfl))
  f338 := Tryd.func94.trans (congrArg some (by kernel_rfl))
  t0 := Tryd.underlying0
  a0 := Tryd.isAgg0
  z0 := Tryd.sizeOf0
  v0 := Tryd.zeroValue0
  t2 := Tryd.underlying2
  a2 := Tryd.isAgg2
  z2 := Tryd.sizeOf2
  v2 := Tryd.zeroValue2
  t3 := Tryd.underlying3
  a3 := Tryd.isAgg3
  z3 := Tryd.sizeOf3
  v3 := Tryd.zeroValue3
  t4 := Tryd.underlying4
  a4 := Tryd.isAgg4
  z4 := Tryd.sizeOf4
  v4 := Tryd.zeroValue4
  t5 := Tryd.underlying5
  a5 := Tryd.isAgg5
  z5 := Tryd.sizeOf5
  v5 := Tryd.zeroValue5
  t9 := Tryd.underlying9
  a9 := Tryd.isAgg9
  z9 := Tryd.sizeOf9
  v9 := Tryd.zeroValue9
  t20 := Tryd.underlying20
  a20 := Tryd.isAgg20
  z20 := Tryd.sizeOf20
  v20 := Tryd.zeroValue20
  t21 := Tryd.underlying21
  a21 := Tryd.isAgg21
  z21 := Tryd.sizeOf21
  v21 := Tryd.zeroValue21
  t37 := Tryd.underlying95
  a37 := Tryd.isAgg95
  z37 := Tryd.sizeOf95
  v37 := Tryd.zeroValue95
  t46 := Tryd.underlying92
  a46 := Tryd.isAgg92
  z46 := Tryd.sizeOf92
  v46 := Tryd.zeroValue92
  t51 := Tryd.underlying110
  a51 := Tryd.isAgg110
  z51 := Tryd.sizeOf110
  v51 := Tryd.zeroValue110
  t53 := Tryd.underlying113
  a53 := Tryd.isAgg113
  z53 := Tryd.sizeOf113
  v53 := Tryd.zeroValue113
  t75 := Tryd.underlying68
  a75 := Tryd.isAgg68
  z75 := Tryd.sizeOf68
  v75 := Tryd.zeroValue68
  t76 := Tryd.underlying69
  a76 := Tryd.isAgg69
  z76 := Tryd.sizeOf69
  v76 := Tryd.zeroValue69
  t85 := Tryd.underlying96
  a85 := Tryd.isAgg96
  z85 := Tryd.sizeOf96
  v85 := Tryd.zeroValue96
  t127 := Tryd.underlying124
  a127 := Tryd.isAgg124
  z127 := Tryd.sizeOf124
  v127 := Tryd.zeroValue124
  t143 := Tryd.underlying125
  a143 := Tryd.isAgg125
  z143 := Tryd.sizeOf125
  v143 := Tryd.zeroValue125
  t145 := Tryd.underlying127
  a145 := Tryd.isAgg127
  z145 := Tryd.sizeOf127
  v145 := Tryd.zeroValue127
  t167 := Tryd.underlying94
  a167 := Tryd.isAgg94
  z167 := Tryd.sizeOf94
  v167 := Tryd.zeroValue94
  t168 := Tryd.underlying98
  a168 := Tryd.isAgg98
  z168 := Tryd.sizeOf98
  v168 := Tryd.zeroValue98
  t171 := Tryd.underlying131
  a171 := Tryd.isAgg131
  z171 := Tryd.sizeOf131
  v171 := Tryd.zeroValue131
  t173 := Tryd.underlying134
  a173 := Tryd.isAgg134
  z173 := Tryd.sizeOf134
  v173 := Tryd.zeroValue134
  t175 := Tryd.underlying114
  a175 := Tryd.isAgg114
  z175 := Tryd.sizeOf114
  v175 := Tryd.zeroValue114
  t210 := Tryd.underlying118
  a210 := Tryd.isAgg118
  z210 := Tryd.sizeOf118
  v210 := Tryd.zeroValue118
  t212 := Tryd.underlying137
  a212 := Tryd.isAgg137
  z212 := Tryd.sizeOf137
  v212 := Tryd.zeroValue137
  t213 := Tryd.underlying138
  a213 := Tryd.isAgg138
  z213 := Tryd.sizeOf138
  t232 := Tryd.underlying142
  a232 := Tryd.isAgg142
  z232 := Tryd.sizeOf142
  v232 := Tryd.zeroValue142
  t233 := Tryd.underlying143
  a233 := Tryd.isAgg143
  z233 := Tryd.sizeOf143
  v233 := Tryd.zeroValue143
  g15 := by kernel_rfl
  g16 := by kernel_rfl
  g17 := by kernel_rfl
  g18 := by kernel_rfl
  g19 := by kernel_rfl
  t80 := Tryd.underlying86
  a80 := Tryd.isAgg86
  z80 := Tryd.sizeOf86
  v80 := Tryd.zeroValue86
  i0 := by kernel_rfl
  i2 := by kernel_rfl
  i3 := by kernel_rfl
  i4 := by kernel_rfl
  i5 := by kernel_rfl
  i9 := by kernel_rfl
  i20 := by kernel_rfl
  i21 := by kernel_rfl
  i37 := by kernel_rfl
  i46 := by kernel_rfl
  i51 := by kernel_rfl
  i53 := by kernel_rfl
  i75 := by kernel_rfl
  i76 := by kernel_rfl
  i80 := by kernel_rfl
  i85 := by kernel_rfl
  i127 := by kernel_rfl
  i143 := by kernel_rfl
  i145 := by kernel_rfl
  i167 := by kernel_rfl
  i168 := by kernel_rfl
  i171 := by kernel_rfl
  i173 := by kernel_rfl
  i175 := by kernel_rfl
  i210 := by kernel_rfl
  i212 := by kernel_rfl
  i232 := by kernel_rfl
  i233 := by kernel_rfl
  m15 := by kernel_rfl
  m16 := by kernel_rfl
  m17 := by kernel_rfl
  m18 := by kernel_rfl
  m19 := by kernel_rfl
  c0 := by kernel_rfl
  c2 := by kernel_rfl
  c3 := by kernel_rfl
  c4 := by kernel_rfl
  c5 := by kernel_rfl
  c9 := by kernel_rfl
  c20 := by kernel_rfl
  c21 := by kernel_rfl
  c37 := by kernel_rfl
  c46 := by kernel_rfl
  c51 := by kernel_rfl
  c53 := by kernel_rfl
  c75 := by kernel_rfl
  c76 := by kernel_rfl
  c80 := by kernel_rfl
  c85 := by kernel_rfl
  c127 := by kernel_rfl
  c143 := by kernel_rfl
  c145 := by kernel_rfl
  c167 := by kernel_rfl
  c168 := by kernel_rfl
  c171 := by kernel_rfl
  c173 := by kernel_rfl
  c175 := by kernel_rfl
  c210 := by kernel_rfl
  c212 := by kernel_rfl
  c213 := by kernel_rfl
  c232 := by kernel_rfl
  c233 := by kernel_rfl }
open Go.RowKit in
theorem Tryd.strconv_Atoi_ok (s : ByteArray) (hmax : s.size ≤ 9223372036854775806) (v : Int) (h : Lib.atoiAll s.data.toList = .ok v) (w : World) :
    Calls Tryd.prog 26 #[.string s] w fun e w' => e = .returned (.tuple #[.int .i64 v, .nilIface]) ∧ (w' = w ∨ ∃ t, w' = Lib.bytesWorld w 5 t) := Any.strconv_Atoi_ok Tryd.laysC172 s hmax v h w
def Tryd.laysM145_ren : Go.Shelf.Ren := ⟨fun | 145 => 11 | 220 => 23 | 219 => 37 | 217 => 50 | 225 => 51 | 224 => 52 | 267 => 53 | 266 => 71 | 314 => 72 | n => n, fun | 9 => 9 | 4 => 4 | 59 => 45 | 3 => 3 | 5 => 5 | 46 => 92 | 146 => 111 | 51 => 110 | n => n, fun | 1 => 2 | n => n⟩
theorem Tryd.laysM145 : Go.Proofs.LaysM.n145 Tryd.prog Tryd.laysM145_ren := {
  mixed := by kernel_rfl
  f145 := Tryd.func11.trans (congrArg some (by kernel_rfl))
  f217 := Tryd.func50.trans (congrArg some (by kernel_rfl))
  f219 := Tryd.func37.trans (congrArg some (by kernel_rfl))
  f220 := Tryd.func23.trans (congrArg some (by kernel_rfl))
  f224 := Tryd.func52.trans (congrArg some (by kernel_rfl))
  f225 := Tryd.func51.trans (congrArg some (by kernel_rfl))
  f266 := Tryd.func71.trans (congrArg some (by kernel_rfl))
  f267 := Tryd.func53.trans (congrArg some (by kernel_rfl))
  f314 := Tryd.func72.trans (congrArg some (by kernel_rfl))
  t3 := Tryd.underlying3
  a3 := Tryd.isAgg3
  z3 := Tryd.sizeOf3
  v3 := Tryd.zeroValue3
  t4 := Tryd.underlying4
  a4 := Tryd.isAgg4
  z4 := Tryd.sizeOf4
  v4 := Tryd.zeroValue4
  t5 := Tryd.underlying5
  a5 := Tryd.isAgg5
  z5 := Tryd.sizeOf5
  v5 := Tryd.zeroValue5
  t9 := Tryd.underlying9
  a9 := Tryd.isAgg9
  z9 := Tryd.sizeOf9
  v9 := Tryd.zeroValue9
  t46 := Tryd.underlying92
  a46 := Tryd.isAgg92
  z46 := Tryd.sizeOf92
  v46 := Tryd.zeroValue92
  t51 := Tryd.underlying110
  a51 := Tryd.isAgg110
  z51 := Tryd.sizeOf110
  v51 := Tryd.zeroValue110
  t59 := Tryd.underlying45
  a59 := Tryd.isAgg45
  z59 := Tryd.sizeOf45
  v59 := Tryd.zeroValue45
  t146 := Tryd.underlying111
  a146 := Tryd.isAgg111
  z146 := Tryd.sizeOf111
  v146 := Tryd.zeroValue111
  g1 := by kernel_rfl
  i3 := by kernel_rfl
  i4 := by kernel_rfl
  i5 := by kernel_rfl
  i9 := by kernel_rfl
  i46 := by kernel_rfl
  i51 := by kernel_rfl
  i59 := by kernel_rfl
  i146 := by kernel_rfl
  m1 := by kernel_rfl
  s1_3 := fun w h => Go.Proofs.cell_of_shapedOpen_int (zero := #[.int .i64 0]) (t := 3) h (of_decide_eq_true (by kernel_rfl)) (by kernel_rfl) rfl (by kernel_rfl) (by kernel_rfl) Tryd.underlying3 }
open Go.RowKit Go.Lib in
theorem Tryd.strings_Cut_shaped (s sep : ByteArray) (w : World) (h : w.ShapedOpen Tryd.prog) (hs : s.size < 4294967281) :
    Calls Tryd.prog 11 #[.string s, .string sep] w fun e w' => e = .returned (.tuple #[.string ⟨(Lib.cut s.data.toList sep.data.toList).1.toArray⟩, .string ⟨(Lib.cut s.data.toList sep.data.toList).2.1.toArray⟩, .bool (Lib.cut s.data.toList sep.data.toList).2.2]) ∧ ∃ n, w' = w.drewN n := Any.strings_Cut_shaped Tryd.laysM145 s sep w h hs
def Tryd.laysGw15_ren : Go.Shelf.Ren := ⟨fun | 15 => 38 | 20 => 54 | n => n, fun | 9 => 9 | 23 => 66 | 3 => 3 | 4 => 4 | 0 => 0 | 21 => 21 | n => n, fun | n => n⟩
theorem Tryd.laysGw15 : Go.Proofs.LaysGw.n15 Tryd.prog Tryd.laysGw15_ren := {
  mixed := by kernel_rfl
  f15 := Tryd.func38.trans (congrArg some (by kernel_rfl))
  f20 := Tryd.func54.trans (congrArg some (by kernel_rfl))
  t0 := Tryd.underlying0
  a0 := Tryd.isAgg0
  z0 := Tryd.sizeOf0
  v0 := Tryd.zeroValue0
  i0 := by kernel_rfl
  t3 := Tryd.underlying3
  a3 := Tryd.isAgg3
  z3 := Tryd.sizeOf3
  v3 := Tryd.zeroValue3
  i3 := by kernel_rfl
  t4 := Tryd.underlying4
  a4 := Tryd.isAgg4
  z4 := Tryd.sizeOf4
  v4 := Tryd.zeroValue4
  i4 := by kernel_rfl
  t9 := Tryd.underlying9
  a9 := Tryd.isAgg9
  z9 := Tryd.sizeOf9
  v9 := Tryd.zeroValue9
  i9 := by kernel_rfl
  t21 := Tryd.underlying21
  a21 := Tryd.isAgg21
  z21 := Tryd.sizeOf21
  v21 := Tryd.zeroValue21
  i21 := by kernel_rfl
  t23 := Tryd.underlying66
  a23 := Tryd.isAgg66
  z23 := Tryd.sizeOf66
  v23 := Tryd.zeroValue66
  i23 := by kernel_rfl }
open Go.RowKit Go.Lib in
theorem Tryd.strings_IndexFunc (g : Nat) (lb : Array Value) (eg : ∀ args w, (callFunc g args).run Tryd.prog w = .ok (.enter g args) w) (p : Nat → Bool) (s : ByteArray) (w : World) (hp : PredAt Tryd.prog g lb encR p w) :
    Calls Tryd.prog 38 #[.string s, .func (.func g) #[] lb] w fun e w' => e = .returned (.int .i64 (Lib.idxFunc p true s)) ∧ Below w.heap.size w w' := Any.strings_IndexFunc Tryd.laysGw15 g lb eg p s w hp
def Tryd.lays99_ren : Go.Shelf.Ren := ⟨fun | 99 => 10 | 206 => 22 | n => n, fun | 9 => 9 | 4 => 4 | 3 => 3 | n => n, fun | n => n⟩
theorem Tryd.lays99 : Go.Proofs.Lays.n99 Tryd.prog Tryd.lays99_ren := {
  mixed := by kernel_rfl
  f99 := Tryd.func10.trans (congrArg some (by kernel_rfl))
  f206 := Tryd.func22.trans (congrArg some (by kernel_rfl))
  t3 := Tryd.underlying3
  a3 := Tryd.isAgg3
  z3 := Tryd.sizeOf3
  v3 := Tryd.zeroValue3
  t4 := Tryd.underlying4
  a4 := Tryd.isAgg4
  z4 := Tryd.sizeOf4
  v4 := Tryd.zeroValue4
  t9 := Tryd.underlying9
  a9 := Tryd.isAgg9
  z9 := Tryd.sizeOf9
  v9 := Tryd.zeroValue9 }
open Go.RowKit Go.Lib in
theorem Tryd.strings_HasPrefix (s p : ByteArray) (w : World) :
    Calls Tryd.prog 10 #[.string s, .string p] w fun e w' => e = .returned (.bool (Lib.hasPrefix s.data.toList p.data.toList)) ∧ w' = w := Any.strings_HasPrefix Tryd.lays99 s p w
def Tryd.laysSlH6_f30_ren : Go.Shelf.Ren := ⟨fun | 6 => 30 | n => n, fun | 22 => 22 | 23 => 9 | 25 => 71 | 3 => 3 | 0 => 0 | 4 => 4 | n => n, fun | n => n⟩
theorem Tryd.laysSlH6_f30 : Go.Proofs.SlLaysH.n6 Tryd.prog Tryd.laysSlH6_f30_ren := {
  mixed := by kernel_rfl
  f6 := ⟨Tryd.f30.name, by decide, Tryd.func30.trans (congrArg some (by kernel_rfl))⟩
  t0 := Tryd.underlying0
  a0 := Tryd.isAgg0
  z0 := Tryd.sizeOf0
  v0 := Tryd.zeroValue0
  t3 := Tryd.underlying3
  a3 := Tryd.isAgg3
  z3 := Tryd.sizeOf3
  v3 := Tryd.zeroValue3
  t4 := Tryd.underlying4
  a4 := Tryd.isAgg4
  z4 := Tryd.sizeOf4
  v4 := Tryd.zeroValue4
  t22 := Tryd.underlying22
  a22 := Tryd.isAgg22
  z22 := Tryd.sizeOf22
  v22 := Tryd.zeroValue22
  a23 := Tryd.isAgg9
  z23 := Tryd.sizeOf9
  t25 := Tryd.underlying71
  a25 := Tryd.isAgg71
  z25 := Tryd.sizeOf71
  v25 := Tryd.zeroValue71 }
open Go.RowKit Go.Lib in
theorem Tryd.slices_IndexFunc {α : Type} [Inhabited α] (enc : α → Value) (p : α → Bool) (g : Nat) (lb : Array Value) (eg : ∀ args w, (callFunc g args).run Tryd.prog w = .ok (.enter g args) w) (b off n c : Nat) (zs : List α) (w : World) (hp : PredAt Tryd.prog g lb enc p w) (hz : n ≤ zs.length) (hbig : n ≤ 9223372036854775807) (hc : ∀ j, j < zs.length → w.cell? ⟨b, off + j, none⟩ = some (enc zs[j]!)) :
    Calls Tryd.prog 30 #[.slice (some ⟨b, off, none⟩) n c, .func (.func g) #[] lb] w fun e w' => e = .returned (.int .i64 (Lib.idxBy (fun _ y => p y) (zs.take n) default)) ∧ ∃ q, w' = w.drewN q := AnyE.slices_IndexFunc Tryd.laysSlH6_f30 enc p g lb eg b off n c zs w hp hz hbig hc
open Go.RowKit in
theorem Tryd.strings_TrimLeft_laid (s cutset : ByteArray) (w : World) (hcs : cutset.size < 4294967281) (hascii : ∀ (j : Nat) b, cutset.data.toList[j]? = some b → b.toNat < 128) :
    Calls Tryd.prog 9 #[.string s, .string cutset] w fun e w' => e = .returned (.string ⟨(Lib.trimLeftS s.data.toList cutset.data.toList).toArray⟩) ∧ Below w.heap.size w w' := Any.strings_TrimLeft_laid Tryd.lays161 (by kernel_rfl) s cutset w hcs hascii
def Tryd.lays2_26_ren : Go.Shelf.Ren := ⟨fun | 26 => 43 | 33 => 60 | 34 => 61 | 38 => 77 | n => n, fun | 24 => 22 | 9 => 9 | 3 => 3 | 4 => 4 | 40 => 92 | 0 => 0 | n => n, fun | n => n⟩
theorem Tryd.lays2_26 : Go.Proofs.Lays2.n26 Tryd.prog Tryd.lays2_26_ren := {
  mixed := by kernel_rfl
  f26 := Tryd.func43.trans (congrArg some (by kernel_rfl))
  f33 := Tryd.func60.trans (congrArg some (by kernel_rfl))
  f34 := Tryd.func61.trans (congrArg some (by kernel_rfl))
  f38 := Tryd.func77.trans (congrArg some (by kernel_rfl))
  t0 := Tryd.underlying0
  a0 := Tryd.isAgg0
  z0 := Tryd.sizeOf0
  v0 := Tryd.zeroValue0
  t3 := Tryd.underlying3
  a3 := Tryd.isAgg3
  z3 := Tryd.sizeOf3
  v3 := Tryd.zeroValue3
  t4 := Tryd.underlying4
  a4 := Tryd.isAgg4
  z4 := Tryd.sizeOf4
  v4 := Tryd.zeroValue4
  t9 := Tryd.underlying9
  a9 := Tryd.isAgg9
  z9 := Tryd.sizeOf9
  v9 := Tryd.zeroValue9
  t24 := Tryd.underlying22
  a24 := Tryd.isAgg22
  z24 := Tryd.sizeOf22
  v24 := Tryd.zeroValue22
  t40 := Tryd.underlying92
  a40 := Tryd.isAgg92
  z40 := Tryd.sizeOf92
  v40 := Tryd.zeroValue92 }
open Go.RowKit in
theorem Tryd.slices_BinarySearch_string (b off n c : Nat) (Sx : Nat → ByteArray) (x : ByteArray) (w : World) (hbig : n < 4611686018427387904) (hc : ∀ j, j < n → w.cell? ⟨b, off + j, none⟩ = some (.string (Sx j))) :
    Calls Tryd.prog 43 #[.slice (some ⟨b, off, none⟩) n c, .string x] w fun e w' =>
      e = .returned (.tuple #[.int .i64 (Lib.bsGo (fun t => Op.bytesLess (Sx t).toList x.toList) n 0 n : Nat), .bool (decide (Lib.bsGo (fun t => Op.bytesLess (Sx t).toList x.toList) n 0 n < n ∧ Sx (Lib.bsGo (fun t => Op.bytesLess (Sx t).toList x.toList) n 0 n) = x))]) ∧ ∃ q, w' = w.drewN q := Any2.slices_BinarySearch_string Tryd.lays2_26 b off n c Sx x w hbig hc
end Go.Proofs
namespace Go.Proofs.YtmklieoikbgmpaaDoor
open Go.RowKit Go.Shelf
set_option maxHeartbeats 400000 in
theorem isDigit_any (x : Nat) (w : World) :
    Calls Tryd.prog 25 #[.int .i32 x] w fun e w' => e = .returned (.bool (digN x)) ∧ w' = w := by
  go_enter Tryd.func25, Tryd.ntmps25
  go_wp2_with fail
  all_goals
    go_ret
    exact ⟨ret_bool (by rw [Bool.eq_iff_iff]; simp [digN]; omega), rfl⟩
set_option maxHeartbeats 400000 in
theorem isLetter_any (x : Nat) (w : World) :
    Calls Tryd.prog 42 #[.int .i32 x] w fun e w' => e = .returned (.bool (letN x)) ∧ w' = w := by
  by_cases h1 : (97 : Int) ≤ (x : Int)
  · by_cases h2 : (x : Int) ≤ 122
    · go_enter Tryd.func42, Tryd.ntmps42
      go_wp2_with fail
      all_goals
        go_ret
        exact ⟨ret_bool (by rw [Bool.eq_iff_iff]; simp [letN]; omega), rfl⟩
    · go_enter Tryd.func42, Tryd.ntmps42
      go_wp2_with fail
      all_goals
        go_ret
        exact ⟨ret_bool (by rw [Bool.eq_iff_iff]; simp [letN]; omega), rfl⟩
  · go_enter Tryd.func42, Tryd.ntmps42
    go_wp2_with fail
    all_goals
      go_ret
      exact ⟨ret_bool (by rw [Bool.eq_iff_iff]; simp [letN]; omega), rfl⟩
set_option maxHeartbeats 400000 in
theorem isPart_any (x : Nat) (w : World) :
    Calls Tryd.prog 27 #[.int .i32 x] w fun e w' => e = .returned (.bool (partN x)) ∧ w' = w := by
  obtain ⟨b, hb⟩ : ∃ b, b = letN x := ⟨_, rfl⟩
  have cL := isLetter_any x w
  rw [← hb] at cL
  have HB : Hid (b = letN x) := hb
  clear hb
  go_enter Tryd.func27, Tryd.ntmps27
  go_wp2_with fail
  refine cL.mono ?_
  rintro e w1 ⟨rfl, hW⟩
  subst hW
  cases b
  · go_wp2_with fail
    refine (isDigit_any x w1).mono ?_
    rintro e w2 ⟨rfl, hW⟩
    subst hW
    go_wp2_with fail
    go_ret
    exact ⟨ret_bool (by unfold partN; rw [← HB.out]; rfl), rfl⟩
  · go_wp2_with fail
    go_ret
    exact ⟨ret_bool (by unfold partN; rw [← HB.out]; rfl), rfl⟩
theorem row1_any (g : Nat) (p : Nat → Bool) (hp : ∀ x w, Calls Tryd.prog g #[.int .i32 (x : Nat)] w fun e w' => e = .returned (.bool (p x)) ∧ w' = w)
    (eg : ∀ args w, (callFunc g args).run Tryd.prog w = .ok (.enter g args) w) (x b : Nat) (w : World) (hc : w.cell? ⟨b, 0, none⟩ = some (.func (.func g) #[] #[])) :
    Calls Tryd.prog 39 #[.int .i32 x, .pointer (some ⟨b, 0, none⟩)] w fun e w' => e = .returned (.bool (!p x)) ∧ w' = w := by
  go_enter Tryd.func39, Tryd.ntmps39
  go_wp2_with fail
  refine (hp x w).mono ?_
  rintro e w1 ⟨rfl, hW⟩
  subst hW
  go_wp2_with fail
  go_ret
  exact ⟨rfl, rfl⟩
set_option maxHeartbeats 1000000 in
theorem row_any (g : Nat) (p : Nat → Bool) (q : UInt8 → Bool) (hp : ∀ x w, Calls Tryd.prog g #[.int .i32 (x : Nat)] w fun e w' => e = .returned (.bool (p x)) ∧ w' = w)
    (eg : ∀ args w, (callFunc g args).run Tryd.prog w = .ok (.enter g args) w) (hlow : ∀ c : UInt8, p c.toNat = q c) (hhigh : ∀ x, 128 ≤ x → p x = false) (s : ByteArray) (_hs : s.size ≤ 100000) (w : World) :
    Calls Tryd.prog 24 #[.string s, .func (.func g) #[] #[]] w fun e w' => ∃ t : ByteArray, e = .returned (.string t) ∧ t.data.toList = s.data.toList.takeWhile q ∧ Below w.heap.size w w' := by
  have hq : ∀ c : UInt8, 128 ≤ c.toNat → q c = false := fun c h => by rw [← hlow]; exact hhigh _ h
  have er : ∀ args w, (callFunc 39 args).run Tryd.prog w = .ok (.enter 39 args) w := enters_of Tryd.func39 (by kernel_rfl) rfl
  have bw : Below w.heap.size w (w.alloc (.cells #[.func (.func g) #[] #[]] 66)) := (Below.refl _ _).alloc (Nat.le_refl _) _
  have cc : (w.alloc (.cells #[.func (.func g) #[] #[]] 66)).cell? ⟨w.heap.size, 0, none⟩ = some (.func (.func g) #[] #[]) := by
    rw [cell_of_row _ _ 0 _ _ _ (heap_alloc_new w _)]; rfl
  have HP : PredAt Tryd.prog 39 #[.pointer (some ⟨w.heap.size, 0, none⟩)] encR (fun x => !p x) (w.alloc (.cells #[.func (.func g) #[] #[]] 66)) := by
    intro W x hW
    have hc : W.cell? ⟨w.heap.size, 0, none⟩ = some (.func (.func g) #[] #[]) := (hW.cell (by show w.heap.size < (w.heap.push _).size; simp)).trans cc
    refine (row1_any g p hp eg x w.heap.size W hc).mono fun e w' ⟨he, hw⟩ => ⟨he, 0, ?_⟩
    rw [hw]; rfl
  have cI := Tryd.strings_IndexFunc 39 #[.pointer (some ⟨w.heap.size, 0, none⟩)] er (fun x => !p x) s _ HP
  rw [Lx.idx_row p q (fun c _ => hlow c) hhigh hq s] at cI
  obtain ⟨n, hn⟩ : ∃ n, n = (s.data.toList.takeWhile q).length := ⟨_, rfl⟩
  have hle : n ≤ s.size := by rw [hn, ← size_toList]; exact (List.takeWhile_prefix q).length_le
  have HN : Hid (n = (s.data.toList.takeWhile q).length) := hn
  rw [← hn] at cI
  clear hn HP hq hhigh hlow
  by_cases h : n = s.size
  · rw [if_pos h] at cI
    have HA : Hid (n = s.size) := h
    clear h
    go_enter Tryd.func24, Tryd.ntmps24
    go_wp2_with fail
    refine cI.mono ?_
    rintro e w1 ⟨rfl, hb1⟩
    go_wp2_with fail
    go_ret
    refine ⟨s, rfl, ?_, bw.trans (hb1.mono bw.size)⟩
    have h1 := HN.out
    rw [HA.out, ← size_toList] at h1
    exact ((List.takeWhile_prefix q).eq_of_length h1.symm).symm
  · rw [if_neg h] at cI
    have hlt : n < s.size := by omega
    clear h
    go_enter Tryd.func24, Tryd.ntmps24
    go_wp2_with fail
    refine cI.mono ?_
    rintro e w1 ⟨rfl, hb1⟩
    go_wp2_with fail
    go_ret
    refine ⟨_, rfl, ?_, bw.trans (hb1.mono bw.size)⟩
    rw [extract_take, HN.out]
    exact (List.prefix_iff_eq_take.1 (List.takeWhile_prefix q)).symm
theorem eDigit : ∀ args w, (callFunc 25 args).run Tryd.prog w = .ok (.enter 25 args) w := enters_of Tryd.func25 (by kernel_rfl) rfl
theorem ePart : ∀ args w, (callFunc 27 args).run Tryd.prog w = .ok (.enter 27 args) w := enters_of Tryd.func27 (by kernel_rfl) rfl
theorem row_digit (s : ByteArray) (hs : s.size ≤ 100000) (w : World) :
    Calls Tryd.prog 24 #[.string s, .func (.func 25) #[] #[]] w fun e w' => ∃ t : ByteArray, e = .returned (.string t) ∧ t.data.toList = s.data.toList.takeWhile Lx.isDig ∧ Below w.heap.size w w' :=
  row_any _ digN Lx.isDig isDigit_any eDigit digN_byte (fun x h => (high_no x h).1) s hs w
theorem row_part (s : ByteArray) (hs : s.size ≤ 100000) (w : World) :
    Calls Tryd.prog 24 #[.string s, .func (.func 27) #[] #[]] w fun e w' => ∃ t : ByteArray, e = .returned (.string t) ∧ t.data.toList = s.data.toList.takeWhile Lx.isPt ∧ Below w.heap.size w w' :=
  row_any _ partN Lx.isPt isPart_any ePart partN_byte (fun x h => (high_no x h).2) s hs w
structure Gl (W : World) : Prop where
  words : ∃ b o c, W.cell? ⟨1, 0, none⟩ = some (.slice (some ⟨b, o, none⟩) 35 c) ∧ ∀ j, j < 35 → W.cell? ⟨b, o + j, none⟩ = some (.string ⟨(Lx.words.getD j []).toArray⟩)
  signs : ∃ b o c, W.cell? ⟨0, 0, none⟩ = some (.slice (some ⟨b, o, none⟩) 16 c) ∧ ∀ j, j < 16 → W.cell? ⟨b, o + j, none⟩ = some (.string ⟨(Lx.signs.getD j []).toArray⟩)
  shaped : W.ShapedOpen Tryd.prog
theorem Gl.below {w w' : World} (h : Gl w) (hb : Below w.heap.size w w') : Gl w' := by
  have kc : ∀ {a : Addr} {v : Value}, w.cell? a = some v → w'.cell? a = some v := fun {a v} q => (hb.cell (World.block_lt_of_cell? w a q)).trans q
  obtain ⟨b, o, c, h1, h2⟩ := h.words
  obtain ⟨b', o', c', h3, h4⟩ := h.signs
  exact ⟨⟨b, o, c, kc h1, fun j hj => kc (h2 j hj)⟩, ⟨b', o', c', kc h3, fun j hj => kc (h4 j hj)⟩, h.shaped.keptBut (hb.frame (fun _ => False)) (fun _ q => q.elim)⟩
set_option maxHeartbeats 400000 in
theorem IsWord_any (s : ByteArray) (w : World) (G : Gl w) :
    Calls Tryd.prog 28 #[.string s] w fun e w' => e = .returned (.bool (Lx.isWord s.data.toList)) ∧ Below w.heap.size w w' := by
  obtain ⟨b, o, c, h1, h2⟩ := G.words
  have cB := Tryd.slices_BinarySearch_string b o 35 c (fun j => ⟨(Lx.words.getD j []).toArray⟩) s w (by omega) h2
  have key : decide (Lib.bsGo (fun t => Op.bytesLess (⟨(Lx.words.getD t []).toArray⟩ : ByteArray).toList s.toList) 35 0 35 < 35 ∧ (⟨(Lx.words.getD (Lib.bsGo (fun t => Op.bytesLess (⟨(Lx.words.getD t []).toArray⟩ : ByteArray).toList s.toList) 35 0 35) []).toArray⟩ : ByteArray) = s) = Lx.isWord s.data.toList := by
    have h := Lx.search_is Lx.words Lx.words_sorted s.data.toList
    have e1 : ∀ l : List UInt8, (⟨l.toArray⟩ : ByteArray).toList = l := fun l => by rw [Lib.toList_data]
    have e2 : ∀ l : List UInt8, (⟨l.toArray⟩ : ByteArray) = s ↔ l = s.data.toList := fun l => ⟨fun h => by rw [← h], fun h => by rw [h]⟩
    simp only [e1, e2]
    exact h
  rw [key] at cB
  clear key h2
  go_enter Tryd.func28, Tryd.ntmps28
  go_wp2_with fail
  refine cB.mono ?_
  rintro e w1 ⟨rfl, q, rfl⟩
  go_wp2_with fail
  go_ret
  exact ⟨rfl, below_drewN' (Below.refl _ _) q⟩
set_option maxHeartbeats 400000 in
theorem IsName_any (s : ByteArray) (w : World) (G : Gl w) :
    Calls Tryd.prog 29 #[.string s] w fun e w' => e = .returned (.bool (Lx.isName s.data.toList)) ∧ Below w.heap.size w w' := by
  by_cases he : s.toList = []
  · have HF : Hid (Lx.isName s.data.toList = false) := by
      show _ = _
      rw [← Lib.toList_data, he]; rfl
    have he2 : (!s.toList.isEmpty) = false := by simp [he]
    go_enter Tryd.func29, Tryd.ntmps29
    go_wp2_with fail
    go_ret
    exact ⟨ret_bool HF.out.symm, Below.refl _ _⟩
  have he2 : (!s.toList.isEmpty) = true := by simp [he]
  have hpos : 0 < s.size := by
    rw [Lib.toList_data] at he
    have := List.length_pos_iff.2 he
    rwa [size_toList] at this
  by_cases hl : 40 < s.size
  · have HF : Hid (Lx.isName s.data.toList = false) := by
      show _ = _
      unfold Lx.isName
      rw [size_toList]
      have : decide (s.size ≤ 40) = false := by simp; omega
      rw [this]; simp
    go_enter Tryd.func29, Tryd.ntmps29
    go_wp2_with fail
    go_ret
    exact ⟨ret_bool HF.out.symm, Below.refl _ _⟩
  have hl' : s.size ≤ 40 := by omega
  have HE : Hid (s.data.toList ≠ []) := by rw [Lib.toList_data] at he; exact he
  clear hl
  go_enter Tryd.func29, Tryd.ntmps29
  go_wp2_with fail
  refine (row_part s (by omega) w).mono ?_
  rintro e w1 ⟨t, rfl, ht, hb1⟩
  have HT : Hid (t.data.toList = s.data.toList.takeWhile Lx.isPt) := ht
  have G1 := G.below hb1
  clear ht G
  by_cases hts : t.toList = s.toList
  · have HTS : Hid (s.data.toList.takeWhile Lx.isPt = s.data.toList) := by
      show _ = _
      rw [Lib.toList_data, Lib.toList_data] at hts
      rw [← HT.out]; exact hts
    go_wp2_with fail
    have hw : wrap32 ((s[0].toNat : Nat) : Int) = ((s[0].toNat : Nat) : Int) := by
      have := s[0].toNat_lt
      unfold wrap32; omega
    rw [hw]
    refine (isDigit_any s[0].toNat w1).mono ?_
    rintro e w2 ⟨rfl, hW⟩
    subst hW
    have HD : Hid (digN s[0].toNat = Lx.isDig (s.data.toList.headD 0)) := by
      show _ = _
      rw [digN_byte]
      have : s.data.toList.headD 0 = s[0] := by
        exact headD_byte s hpos
      rw [this]
    clear hw
    generalize digN s[0].toNat = b at HD ⊢
    cases b
    · go_wp2_with fail
      refine (IsWord_any s w2 G1).mono ?_
      rintro e w3 ⟨rfl, hb3⟩
      go_wp2_with fail
      go_ret
      refine ⟨ret_bool ?_, hb1.trans (hb3.mono hb1.size)⟩
      rw [Lx.name_yes HE.out (by rw [size_toList]; omega) HTS.out, ← HD.out]; rfl
    · go_wp2_with fail
      go_ret
      refine ⟨ret_bool ?_, hb1⟩
      rw [Lx.name_yes HE.out (by rw [size_toList]; omega) HTS.out, ← HD.out]; rfl
  · have HTS : Hid (s.data.toList.takeWhile Lx.isPt ≠ s.data.toList) := by
      show _ ≠ _
      rw [Lib.toList_data, Lib.toList_data] at hts
      rw [← HT.out]; exact hts
    go_wp2_with fail
    go_ret
    refine ⟨ret_bool ?_, hb1⟩
    rw [Lx.name_no HTS.out]
end Go.Proofs.YtmklieoikbgmpaaDoor
