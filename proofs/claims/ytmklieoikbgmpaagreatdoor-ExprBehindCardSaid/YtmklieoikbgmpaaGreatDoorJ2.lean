/- Slices that read as lists, each element in some cells; appends of one element. Tokens in memory; bytes, texts: what both lexers share. Blocks and slices in memory, for all that follows. Nodes and expressions in memory; the operands of a node. Tokens: the shelf's words, and the lexer's. DERIVED: THE SHELF's CONTRACTS AT THIS DUMP, IN PLAIN WORDS (tools/lay-plain.mjs out of 'TryzShelf.lean', which tools/lay-shelf.mjs wrote): THE SAME DECLARATIONS UNDER THE SAME NAMES: 'import', 'namespace', 'open', 'def', 'theorem' AND NOTHING ELSE: no command of the shelf's: FOR A HAND-IN. Each laying: the table of numbers ('.._ren') and one theorem, a field a fact of the dump's own or the kernel's comparison; each contract: ONE APPLICATION. Tokens in memory; the small functions of the lexer. -/
import Derived.WalkKit
import Derived.WalkSpells
import Derived.Deep.Onto
import Derived.Deep.AppendLies
import Derived.Deep.Draws
import Derived.OwnWalk
import Derived.Test.YtmklieoikbgmpaaGreatDoorProg
import Derived.Shelf.Abstract
import Derived.Lib.Strings
import Derived.WalkLawsBesides
import Derived.Outline
import Derived.Laws.EntriesVeiled
import Derived.Deep.RegionHeld3
import Derived.Deep.QuietTactic
import Derived.BigQuiet
import Derived.StillTailTactics
import Derived.Lib.AtoiAll
import Derived.Lib.AtoiAllCases
import Derived.Shelf.Spec.SearchS
import Derived.Shelf.GgClosure.StringsIndexFunc
import Derived.Lib.SlBy
import Derived.Lib.SlTrimSet
import Derived.Lib.CutLaws
import Derived.Lib.IndexLaws
import Derived.Lib.IndexBytes
import Derived.Shelf.Strings.SlTrimAscii
import Derived.Shelf.Strings.Trim
import Derived.Shelf.Small.Utf8
import Derived.Shelf.Small.Strs
import Derived.Shelf.Strconv.Atoi
import Derived.Shelf.Strconv.Itoa0
import Derived.Shelf.Strconv.Itoa1
import Derived.Shelf.LaysM
import Derived.Shelf.Strconv.Itoa2
import Derived.Shelf.Strconv.Itoa3
import Derived.Shelf.Strconv.AtoiErrFast
import Derived.Shelf.Strconv.ParseIntEmpty
import Derived.Shelf.Strconv.AtoiFail
import Derived.Shelf.Strconv.Clone
import Derived.Shelf.Strconv.SyntaxError
import Derived.Shelf.LaysC
import Derived.Shelf.Strconv.ToError
import Derived.Shelf.Strconv.AtoiErr
import Derived.Shelf.Strconv.ErrVar
import Derived.Shelf.Strconv.Lower
import Derived.Shelf.Strconv.ParseUint10
import Derived.Shelf.Strconv.ParseUint10Empty
import Derived.Shelf.Strconv.ParseUint10Any
import Derived.Shelf.Strconv.ParseInt10
import Derived.Shelf.Strconv.AtoiLong
import Derived.Shelf.Strconv.AtoiInnerAll
import Derived.Shelf.Strconv.RangeError
import Derived.Shelf.Strconv.ToErrorRange
import Derived.Shelf.Strconv.AtoiAll
import Derived.Shelf.Strconv.ErrVarAll
import Derived.Shelf.Strconv.ParseUintEmpty
import Derived.Shelf.Strconv.ParseUint10b64
import Derived.Shelf.Strconv.ParseUint10b32
import Derived.Shelf.Strconv.ParseUint10b16
import Derived.Shelf.Strconv.ParseUint10b8
import Derived.Shelf.Strconv.ParseUint10At
import Derived.Shelf.Strconv.ParseInt10At64
import Derived.Shelf.Strconv.ParseInt10At32
import Derived.Shelf.Strconv.ParseInt10At16
import Derived.Shelf.Strconv.ParseInt10At8
import Derived.Shelf.Strconv.ParseInt10All
import Derived.Shelf.Strings.Search1
import Derived.Shelf.Strings.Search2
import Derived.Shelf.Strings.Cut
import Derived.Shelf.Strings.Shaped
import Derived.Ground.GgwProg
import Derived.Shelf.GgClosure.StringsIndexFuncTop
import Derived.Shelf.Strings.Prefix
import Derived.Shelf.Strings.Runes
import Derived.Shelf.Strings.AsciiSet
import Derived.Shelf.Unicode.DecodeSlow
import Derived.Ground.SlgfProg
import Derived.Shelf.SlicesE.IndexFunc
import Derived.Test.YtmklieoikbgmpaaGreatDoorJ1
namespace Go.Proofs.YtmklieoikbgmpaaGreatDoor
open Go.RowKit
theorem below_drawn {B : Nat} {a w : World} (h : Below B a w) (n : Nat) : Below B a (w.drewN n) := ⟨h.os, h.tape, h.output, h.size, h.block⟩
theorem below_grow {w w' : World} (h : Below w.heap.size w w') (row : Option Nat) : w.grownBy w' row := ⟨h.os, h.tape, h.output, h.size, fun k hk _ => h.block k hk⟩
theorem below_next {a w w' : World} (h : Below a.heap.size a w) (k : Below w.heap.size w w') : Below a.heap.size a w' := h.trans (k.mono h.size)
theorem below_row {w w' : World} (h : Below w.heap.size w w') {base e size n : Nat} {v : Value} {xs : List Value} (ho : w.ownsRow base e size v n xs) : w'.ownsRow base e size v n xs :=
  ho.kept (below_grow h none) (by cases v.ownBlock <;> simp)
def Sl {α : Type} (enc : α → List Value) (k : Nat) (w : World) (v : Value) (l : List α) : Prop :=
  (l = [] ∧ ∃ a c, v = .slice a 0 c) ∨ ∃ b o c, v = .slice (some ⟨b, o, none⟩) l.length c ∧ l.length ≤ c ∧ b < w.heap.size ∧ ∀ i x, l[i]? = some x → ∀ j u, (enc x)[j]? = some u → w.cell? ⟨b, o + i * k + j, none⟩ = some u
section
variable {α : Type} {enc : α → List Value} {k : Nat} {w w' : World} {v : Value} {l : List α}
theorem Sl.nil_ : Sl enc k w (.slice none 0 0) [] := Or.inl ⟨rfl, none, 0, rfl⟩
theorem Sl.below (h : Sl enc k w v l) (hb : Below w.heap.size w w') : Sl enc k w' v l := by
  rcases h with h | ⟨b, o, c, rfl, hc, hlt, hx⟩
  · exact Or.inl h
  · exact Or.inr ⟨b, o, c, rfl, hc, Nat.lt_of_lt_of_le hlt hb.size, fun i x hi j u hu => (hb.cell (p := ⟨b, o + i * k + j, none⟩) hlt).trans (hx i x hi j u hu)⟩
theorem Sl.form (h : Sl enc k w v l) : ∃ a c, v = .slice a l.length c ∧ l.length ≤ c ∧ ∀ W, Below w.heap.size w W → ∀ i x, l[i]? = some x → ∃ b o, a = some ⟨b, o, none⟩ ∧ ∀ j u, (enc x)[j]? = some u → W.cell? ⟨b, o + i * k + j, none⟩ = some u := by
  rcases h with ⟨rfl, a, c, rfl⟩ | ⟨b, o, c, rfl, hc, hlt, hx⟩
  · exact ⟨a, c, rfl, Nat.zero_le _, fun W _ i x hi => by simp at hi⟩
  · exact ⟨_, c, rfl, hc, fun W hW i x hi => ⟨b, o, rfl, fun j u hu => (hW.cell (p := ⟨b, o + i * k + j, none⟩) hlt).trans (hx i x hi j u hu)⟩⟩
end
theorem flatMap_cell {α : Type} {enc : α → List Value} {k : Nat} (hk : ∀ x, (enc x).length = k) : ∀ (l : List α) (i : Nat) (x : α), l[i]? = some x → ∀ j u, (enc x)[j]? = some u → (l.flatMap enc)[i * k + j]? = some u
  | [], i, x, h, _, _, _ => by simp at h
  | y :: r, 0, x, h, j, u, hu => by
    simp at h; subst h
    have hj : j < (enc y).length := (List.getElem?_eq_some_iff.1 hu).1
    rw [List.flatMap_cons, Nat.zero_mul, Nat.zero_add, List.getElem?_append_left hj]; exact hu
  | y :: r, i + 1, x, h, j, u, hu => by
    have h' : r[i]? = some x := by simpa using h
    have := flatMap_cell hk r i x h' j u hu
    rw [List.flatMap_cons, List.getElem?_append_right (by rw [hk, Nat.add_mul]; omega), hk, show (i + 1) * k + j - k = i * k + j by rw [Nat.add_mul]; omega]
    exact this
theorem flatMap_len {α : Type} {enc : α → List Value} {k : Nat} (hk : ∀ x, (enc x).length = k) : ∀ (l : List α), (l.flatMap enc).length = l.length * k
  | [] => by simp
  | y :: r => by rw [List.flatMap_cons, List.length_append, hk, flatMap_len hk r, List.length_cons, Nat.add_mul]; omega
theorem Sl.own {α : Type} {enc : α → List Value} {k : Nat} (hk : ∀ x, (enc x).length = k) {w : World} {v : Value} {l : List α} {base e n : Nat} (h : w.ownsRow base e k v n (l.flatMap enc)) (hn : l.length = n) : Sl enc k w v l := by
  subst hn
  rcases h.2 with ⟨rfl, h0⟩ | ⟨g, cap, cur, rfl, _, hg, hcap, _, hsz, htake⟩
  · exact Or.inl ⟨List.eq_nil_of_length_eq_zero h0, none, 0, rfl⟩
  · refine Or.inr ⟨g, 0, cap, rfl, hcap, (Array.getElem?_eq_some_iff.1 hg).1, fun i x hi j u hu => ?_⟩
    have hc := flatMap_cell hk l i x hi j u hu
    rw [cell_of_row w g (0 + i * k + j) cur e (0, 0) hg, Nat.zero_add]
    rw [← htake, List.getElem?_take] at hc
    split at hc
    · simpa using hc
    · cases hc
structure RowTy (P : Program) (t e size bytes : Nat) : Prop where
  ht : P.underlying t = some (.slice e)
  ex : ∃ i z, P.info? e = some i ∧ i.zero = some z ∧ i.size = size ∧ i.bytes = bytes ∧ z.cells.size = size
  pos : 0 < size
theorem RowTy.mk' {P : Program} {t e size bytes : Nat} {z : Value} (ht : P.underlying t = some (.slice e)) (h : (P.info? e).map (fun i => (i.zero, i.size, i.bytes)) = some (some z, size, bytes)) (hz : z.cells.size = size) (hp : 0 < size) : RowTy P t e size bytes := by
  obtain ⟨i, hi, a, b, c⟩ := info_parts h
  exact ⟨ht, ⟨i, z, hi, a, b, c, hz⟩, hp⟩
theorem wpList_app {P : Program} {w : World} {ops : Array Oper} {rest : List Oper} {o : Oper} {a : Act} {Q : Exit → Act → World → Prop} {t e size bytes : Nat} (R : RowTy P t e size bytes) (hgd : o.guard = none) (s x : Operand)
    (ho : o.op = .call { callee := .builtin .append, args := #[s, x], argTypes := #[t, t] })
    (base : Nat) (v : Value) (n : Nat) (xs : List Value) (hs : a.eval s = v) (hown : w.ownsRow base e size v n xs)
    (ad : Addr) (c : Nat) (news : List Value) (hx : a.eval x = .slice (some ad) 1 c) (hl : news.length = size) (hnews : ∀ j u, news[j]? = some u → w.cell? (ad.add j) = some u) (h1 : ∀ u ∈ news, u.oneCell' = true)
    (hn : (n + 1) * (bytes + 1) ≤ 140737488355328) (hbase : base ≤ w.heap.size) (H : Nat) (hH : w.heap.size = H)
    (h : ∀ g cap w', w'.ownsRow base e size (.slice (some ⟨g, 0, none⟩) (n + 1) cap) (n + 1) (xs ++ news) → w.grownBy w' v.ownBlock → (v.ownBlock = some g ∨ g = H) → g < w'.heap.size → n + 1 ≤ cap → wpList P ops Q rest (a.put o.dst (.slice (some ⟨g, 0, none⟩) (n + 1) cap)) w') : wpList P ops Q (o :: rest) a w := by
  obtain ⟨i, z, hi, hz, hsize, hby, hzs⟩ := R.ex
  have hb : (n + 1) * bytes ≤ 140737488355328 := Nat.le_trans (Nat.mul_le_mul_left _ (by omega)) hn
  have hm : n + 1 ≤ maxLen := by
    have : (n + 1) * 1 ≤ (n + 1) * (bytes + 1) := Nat.mul_le_mul_left _ (by omega)
    unfold maxLen; omega
  refine wpList_append_lies w hgd s x t ho base e i z size bytes R.ht hi hz hsize hby hzs R.pos v n xs hs hown ad 1 c news hx (by rw [hl]; omega) hnews h1 (by omega) hm hb hbase H hH ?_
  intro g cap w' ho' hg hat hlt
  refine h g cap w' ho' hg hat hlt ?_
  rcases ho'.2 with ⟨h0, _⟩ | ⟨g', cap', cur, h0, _, _, hc, _⟩
  · cases h0
  · cases h0; exact hc
end Go.Proofs.YtmklieoikbgmpaaGreatDoor
namespace Go.Proofs.YtmklieoikbgmpaaGreatDoor
open Go.RowKit Go.Shelf
namespace Lx
theorem dig_nat {c : UInt8} (h : isDig c = true) : 48 ≤ c.toNat ∧ c.toNat ≤ 57 := by
  simp only [isDig, Bool.and_eq_true, decide_eq_true_eq, UInt8.le_iff_toNat_le] at h
  exact h
end Lx
theorem ret_bool {a b : Bool} (h : a = b) : Ending.returned (.bool a) = .returned (.bool b) := by rw [h]
theorem ret_string {a b : ByteArray} (h : a = b) : Ending.returned (.string a) = .returned (.string b) := by rw [h]
def digN (x : Nat) : Bool := decide (48 ≤ x ∧ x ≤ 57)
def letN (x : Nat) : Bool := decide ((97 ≤ x ∧ x ≤ 122) ∨ x = 95)
def partN (x : Nat) : Bool := letN x || digN x
theorem digN_byte (c : UInt8) : digN c.toNat = Lx.isDig c := by
  rw [Bool.eq_iff_iff]; simp [digN, Lx.isDig, UInt8.le_iff_toNat_le]
theorem letN_byte (c : UInt8) : letN c.toNat = Lx.isLet c := by
  rw [Bool.eq_iff_iff]; simp [letN, Lx.isLet, UInt8.le_iff_toNat_le, ← UInt8.toNat_inj]
theorem partN_byte (c : UInt8) : partN c.toNat = Lx.isPt c := by
  unfold partN Lx.isPt; rw [digN_byte, letN_byte]
theorem high_no (x : Nat) (h : 128 ≤ x) : digN x = false ∧ partN x = false := by
  have a : digN x = false := by simp [digN]; omega
  have b : letN x = false := by simp [letN]; omega
  exact ⟨a, by unfold partN; rw [a, b]; rfl⟩
theorem size_toList (s : ByteArray) : s.data.toList.length = s.size := by rw [Array.length_toList]; rfl
theorem extract_take (s : ByteArray) (n : Nat) : (s.extract 0 n).data.toList = s.data.toList.take n := by simp
theorem extract_drop (s : ByteArray) (n : Nat) : (s.extract n s.size).data.toList = s.data.toList.drop n := by
  rw [ByteArray.data_extract, Array.toList_extract, List.extract_eq_take_drop, ← size_toList]
  rw [List.take_of_length_le (by simp)]
theorem headD_byte (s : ByteArray) (h : 0 < s.size) : s.data.toList.headD 0 = s[0] := by
  rw [List.headD_eq_head?_getD, List.head?_eq_getElem?, List.getElem?_eq_getElem (by rw [size_toList]; exact h)]; rfl
theorem toList_nil {t : ByteArray} : t.toList = [] ↔ t.data.toList = [] := by rw [Lib.toList_data]
def tokC (x : Tok) : List Value := [.int .i64 x.k, .string x.t, .int .i64 x.p]
theorem tokC_len (x : Tok) : (tokC x).length = 3 := rfl
def tok (N : Nat) (x : Lx.R) : Tok := ⟨x.k, ⟨x.t.toArray⟩, N - x.m⟩
def toks (N : Nat) (l : List Lx.R) : List Tok := l.map (tok N)
theorem rowTok : RowTy Tryz.prog 33 39 3 32 := RowTy.mk' (z := .agg #[.int .i64 0, .string ⟨#[]⟩, .int .i64 0]) Tryz.underlying33 (by kernel_rfl) rfl (by omega)
def strLen : Value → Nat
  | .string r => r.size
  | _ => 0
def LexPost (s : ByteArray) (w : World) (e : Ending) (w' : World) : Prop :=
  ∃ (v : Value) (er at_ : Int), e = .returned (.tuple #[v, .agg #[.int .i64 er, .int .i64 at_]]) ∧ Below w.heap.size w w' ∧
    ((er = 0 ∧ at_ = 0 ∧ (Lx.lexS s.data.toList).2 = none ∧ w'.ownsRow w.heap.size 39 3 v (Lx.lexS s.data.toList).1.length ((toks s.size (Lx.lexS s.data.toList).1).flatMap tokC)) ∨
     (∃ c m : Nat, c ≠ 0 ∧ er = c ∧ at_ = (s.size - m : Nat) ∧ (Lx.lexS s.data.toList).2 = some (c, m) ∧ v = .slice none 0 0))
structure LexLp (s : ByteArray) (w : World) (l : Value) (r : ByteArray) (done : List Lx.R) (wr : World) : Prop where
  sz : r.size ≤ s.size
  few : done.length + r.size ≤ s.size
  below : Below w.heap.size w wr
  ret : wr.heap[w.heap.size]? = some (.cells #[.int .i64 0, .int .i64 0] 27 (0, 0))
  own : wr.ownsRow (w.heap.size + 1) 39 3 l done.length ((toks s.size done).flatMap tokC)
  eq : Lx.lexS s.data.toList = (done ++ (Lx.lexS r.data.toList).1, (Lx.lexS r.data.toList).2)
theorem two_cells {W : World} {b T : Nat} {x y : Value} (h : W.heap[b]? = some (.cells #[x, y] T (0, 0))) :
    W.cell? ⟨b, 0, none⟩ = some x ∧ W.cell? ⟨b, 1, none⟩ = some y ∧ W.frozen? ⟨b, 0, none⟩ = false ∧ W.frozen? ⟨b, 1, none⟩ = false :=
  ⟨by simp [World.cell?, h], by simp [World.cell?, h], by simp [World.frozen?, h], by simp [World.frozen?, h]⟩
theorem size_of_list (r : ByteArray) : r.size = r.data.toList.length := (size_toList r).symm
theorem LexLp.step {s : ByteArray} {w : World} {l : Value} {r u : ByteArray} {done : List Lx.R} {wr w1 : World} (h : LexLp s w l r done wr) (hb : Below wr.heap.size wr w1) (hu : u.size ≤ r.size) (he : Lx.lexS u.data.toList = Lx.lexS r.data.toList) : LexLp s w l u done w1 where
  sz := Nat.le_trans hu h.sz
  few := Nat.le_trans (Nat.add_le_add_left hu _) h.few
  below := below_next h.below hb
  ret := (hb.block _ (Array.getElem?_eq_some_iff.1 h.ret).1).trans h.ret
  own := below_row hb h.own
  eq := by rw [he]; exact h.eq
theorem LexLp.push {s : ByteArray} {w : World} {l : Value} {u u' t : ByteArray} {done : List Lx.R} {w3 w4 : World} {o : Obj} {g cap k d : Nat} (h : LexLp s w l u done w3) (hd : (s.size : Int) - (u.size : Int) = (d : Int)) (hne : t.data.toList ≠ []) (hle : t.size ≤ u.size)
    (he : Lx.lexS u.data.toList = (⟨k, t.data.toList, u.data.toList.length⟩ :: (Lx.lexS (u.data.toList.drop t.data.toList.length)).1, (Lx.lexS (u.data.toList.drop t.data.toList.length)).2))
    (hu : u'.data.toList = u.data.toList.drop t.data.toList.length)
    (ho : w4.ownsRow (w.heap.size + 1) 39 3 (.slice (some ⟨g, 0, none⟩) (done.length + 1) cap) (done.length + 1) ((toks s.size done).flatMap tokC ++ [.int .i64 k, .string t, .int .i64 d])) (hg : (w3.alloc o).grownBy w4 l.ownBlock) :
    LexLp s w (.slice (some ⟨g, 0, none⟩) (done.length + 1) cap) u' (done ++ [⟨k, t.data.toList, u.data.toList.length⟩]) w4 := by
  have hsz := h.sz
  have hpos : 0 < t.size := by rw [size_of_list]; exact List.length_pos_iff.2 hne
  have hu2 : u'.size = u.size - t.size := by rw [size_of_list, hu, List.length_drop, size_toList, size_toList]
  have hlow : ∀ k, l.ownBlock = some k → w.heap.size + 1 ≤ k := fun k hk => (h.own.lt k hk).1
  have hsize := h.below.size
  have hret := (Array.getElem?_eq_some_iff.1 h.ret).1
  refine ⟨by omega, ?_, ?_, ?_, ?_, ?_⟩
  · have := h.few; simp; omega
  · exact (h.below.alloc hsize o).grown hg (by simp; omega) (fun q hq => by have := hlow q hq; omega)
  · rw [hg.block w.heap.size (by simp; omega) (fun e => by have := hlow _ e.symm; omega), Below.heap_alloc _ _ _ hret]; exact h.ret
  · have e : (toks s.size (done ++ [⟨k, t.data.toList, u.data.toList.length⟩])).flatMap tokC = (toks s.size done).flatMap tokC ++ [.int .i64 k, .string t, .int .i64 d] := by
      unfold toks
      rw [List.map_append, List.flatMap_append]
      congr 1
      have e2 : s.size - u.size = d := by omega
      simp [tok, tokC, e2]
    rw [e]
    simpa using ho
  · rw [h.eq, he, hu]; simp
theorem first_dig {r : Lx.Bs} (h : r.takeWhile Lx.isDig ≠ []) : Lx.first r = if Lx.tooBig (r.takeWhile Lx.isDig) then .err 2 else .tok 2 (r.takeWhile Lx.isDig) := by
  unfold Lx.first
  have : (r.takeWhile Lx.isDig).isEmpty = false := by
    cases h2 : r.takeWhile Lx.isDig with
    | nil => exact absurd h2 h
    | cons _ _ => rfl
  simp only [this, Bool.false_eq_true, if_false]
theorem first_word {r : Lx.Bs} (h : r.takeWhile Lx.isDig = []) (hw : Lx.isWord (r.takeWhile Lx.isPt) = true) : Lx.first r = .tok 3 (r.takeWhile Lx.isPt) := by
  unfold Lx.first; simp [h, hw]
theorem first_name {r : Lx.Bs} (h : r.takeWhile Lx.isDig = []) (hw : Lx.isWord (r.takeWhile Lx.isPt) = false) (hn : Lx.isName (r.takeWhile Lx.isPt) = true) : Lx.first r = .tok 1 (r.takeWhile Lx.isPt) := by
  unfold Lx.first; simp [h, hw, hn]
theorem first_none {r : Lx.Bs} (h : r.takeWhile Lx.isDig = []) (hw : Lx.isWord (r.takeWhile Lx.isPt) = false) (hn : Lx.isName (r.takeWhile Lx.isPt) = false) (hp : r.takeWhile Lx.isPt ≠ []) : Lx.first r = .err 5 := by
  unfold Lx.first
  have : (r.takeWhile Lx.isPt).isEmpty = false := by
    cases h2 : r.takeWhile Lx.isPt with
    | nil => exact absurd h2 hp
    | cons _ _ => rfl
  simp [h, hw, hn, this]
theorem first_sign {r : Lx.Bs} (h : r.takeWhile Lx.isDig = []) (hp : r.takeWhile Lx.isPt = []) : Lx.first r = match Lx.signs.find? (·.isPrefixOf r) with | some t => .tok 4 t | none => .err 5 := by
  unfold Lx.first
  have a : Lx.isWord [] = false := by decide
  have b : Lx.isName [] = false := by decide
  simp only [h, hp, a, b, List.isEmpty_nil, if_true, Bool.false_eq_true, if_false]
  all_goals rfl
theorem tooBig_iff (d : Lx.Bs) : Lx.tooBig d = true ↔ 10 < d.length ∨ 2147483647 < Lx.val d ∨ (1 < d.length ∧ d.headD 0 = 48) := by
  unfold Lx.tooBig
  simp only [Bool.or_eq_true, decide_eq_true_eq, Bool.and_eq_true, beq_iff_eq, or_assoc]
theorem byte48 {c : UInt8} : ((c.toNat : Int) == 48) = true ↔ c = 48 := by
  rw [beq_iff_eq, ← UInt8.toNat_inj]
  have : (48 : UInt8).toNat = 48 := rfl
  omega
end Go.Proofs.YtmklieoikbgmpaaGreatDoor
namespace Go.Proofs.YtmklieoikbgmpaaGreatDoor
open Go.RowKit Go.Shelf
theorem bytes_ext {a b : ByteArray} (h : a.data.toList = b.data.toList) : a = b := by
  obtain ⟨⟨a⟩⟩ := a
  obtain ⟨⟨b⟩⟩ := b
  simp at h; rw [h]
theorem fields_eq {P : Program} {t : TypeId} {fs : Array Field} (h : P.underlying t = some (.struct fs)) : P.fieldsOf t = fs := by unfold Program.fieldsOf; rw [h]
def Blk (w : World) (b : Nat) (cs : Array Value) (T : Nat) : Prop := w.heap[b]? = some (.cells cs T (0, 0))
theorem Blk.new (w : World) (cs : Array Value) (T : Nat) : Blk (w.alloc (.cells cs T)) w.heap.size cs T := heap_alloc_new w _
theorem Blk.below {w w' : World} {b T : Nat} {cs : Array Value} (h : Blk w b cs T) (hb : Below w.heap.size w w') : Blk w' b cs T := (hb.block b (Array.getElem?_eq_some_iff.1 h).1).trans h
theorem Blk.lt {w : World} {b T : Nat} {cs : Array Value} (h : Blk w b cs T) : b < w.heap.size := (Array.getElem?_eq_some_iff.1 h).1
theorem one_cell {W : World} {b T : Nat} {x : Value} (h : Blk W b #[x] T) : W.cell? ⟨b, 0, none⟩ = some x ∧ W.frozen? ⟨b, 0, none⟩ = false := by
  unfold Blk at h; exact ⟨by simp [World.cell?, h], by simp [World.frozen?, h]⟩
theorem Blk.other {W : World} {b T : Nat} {cs : Array Value} (h : Blk W b cs T) {p : Nat} (i : Nat) (hp : b ≠ p) (y : Value) : Blk (W.setCell ⟨p, i, none⟩ y) b cs T := by
  unfold Blk at h ⊢
  rw [Below.heap_setCell _ _ _ _ hp]; exact h
theorem Sl.lit {α : Type} {enc : α → List Value} {k : Nat} (hk : ∀ x, (enc x).length = k) {w : World} {b c T : Nat} {fr : Nat × Nat} {l : List α} (h : w.heap[b]? = some (.cells (l.flatMap enc).toArray T fr)) (hc : l.length ≤ c) : Sl enc k w (.slice (some ⟨b, 0, none⟩) l.length c) l :=
  Or.inr ⟨b, 0, c, rfl, hc, (Array.getElem?_eq_some_iff.1 h).1, fun i x hi j u hu => by
    rw [cell_of_row w b (0 + i * k + j) _ T fr h, Nat.zero_add]
    have := flatMap_cell hk l i x hi j u hu
    simpa using this⟩
theorem Sl.take {α : Type} {enc : α → List Value} {k : Nat} {w : World} {a : Option Addr} {l : List α} {c n : Nat} (h : Sl enc k w (.slice a l.length c) l) (hn : n ≤ l.length) : Sl enc k w (.slice a n c) (l.take n) := by
  rcases h with ⟨h2, a', c', h1⟩ | ⟨b, o, c', h1, hc, hlt, hx⟩
  · subst h2; simp at hn; subst hn; exact Or.inl ⟨rfl, _, _, rfl⟩
  · simp only [Value.slice.injEq] at h1
    obtain ⟨rfl, _, rfl⟩ := h1
    refine Or.inr ⟨b, o, c, by rw [List.length_take, Nat.min_eq_left hn], by rw [List.length_take]; omega, hlt, fun i x hi j u hu => hx i x ?_ j u hu⟩
    rw [List.getElem?_take] at hi
    split at hi
    · exact hi
    · cases hi
def intC (x : Int) : List Value := [.int .i64 x]
theorem intC_len (x : Int) : (intC x).length = 1 := rfl
def oneC (v : Value) : List Value := [v]
theorem oneC_len (x : Value) : (oneC x).length = 1 := rfl
theorem flat_one (l : List Value) : l.flatMap oneC = l := by induction l with
  | nil => rfl
  | cons a l ih => simp [List.flatMap_cons, oneC, ih]
def Sg {β : Type} (k : Nat) (P : World → List Value → β → Prop) (w : World) (v : Value) (L : List β) : Prop :=
  ∃ cs : List (List Value), Sl id k w v cs ∧ cs.length = L.length ∧ ∀ (i : Nat) (c : List Value) (x : β), cs[i]? = some c → L[i]? = some x → P w c x
def Keeps {β : Type} (P : World → List Value → β → Prop) : Prop := ∀ (w w' : World) (c : List Value) (x : β), P w c x → Below w.heap.size w w' → P w' c x
section
variable {β : Type} {k : Nat} {P : World → List Value → β → Prop} {w w' : World} {v : Value} {L : List β}
theorem Sg.below (hP : Keeps P) (h : Sg k P w v L) (hb : Below w.heap.size w w') : Sg k P w' v L := by
  obtain ⟨cs, h1, h2, h3⟩ := h
  exact ⟨cs, h1.below hb, h2, fun i c x hc hx => hP _ _ _ _ (h3 i c x hc hx) hb⟩
theorem Sg.nil_ : Sg k P w (.slice none 0 0) [] := ⟨[], Sl.nil_, rfl, fun i c x hc _ => by simp at hc⟩
theorem Sg.form (hP : Keeps P) (h : Sg k P w v L) : ∃ a c, v = .slice a L.length c ∧ L.length ≤ c ∧ ∀ W, Below w.heap.size w W → ∀ i x, L[i]? = some x → ∃ b o cs, a = some ⟨b, o, none⟩ ∧ P W cs x ∧ ∀ j u, cs[j]? = some u → W.cell? ⟨b, o + i * k + j, none⟩ = some u := by
  obtain ⟨cs, h1, h2, h3⟩ := h
  obtain ⟨a, c, rfl, hc, hx⟩ := h1.form
  rw [h2]
  refine ⟨a, c, rfl, by omega, fun W hW i x hi => ?_⟩
  have hi2 := (List.getElem?_eq_some_iff.1 hi).1
  obtain ⟨y, hy⟩ : ∃ y, cs[i]? = some y := ⟨_, List.getElem?_eq_getElem (by omega)⟩
  obtain ⟨b, o, rfl, hj⟩ := hx W hW i y hy
  exact ⟨b, o, y, rfl, hP _ _ _ _ (h3 i y x hy hi) hW, hj⟩
end
def Og {β : Type} (T k : Nat) (P : World → List Value → β → Prop) (base : Nat) (w : World) (v : Value) (L : List β) : Prop :=
  ∃ cs : List (List Value), w.ownsRow base T k v L.length (cs.flatMap id) ∧ cs.length = L.length ∧ (∀ c ∈ cs, c.length = k) ∧ ∀ (i : Nat) (c : List Value) (x : β), cs[i]? = some c → L[i]? = some x → P w c x
section
variable {β : Type} {T k base : Nat} {P : World → List Value → β → Prop} {w w' : World} {v : Value} {L : List β}
theorem Og.nil_ : Og T k P base w (.slice none 0 0) [] := ⟨[], World.ownsRow_nil _ _ _ _, rfl, fun c hc => by simp at hc, fun i c x hc _ => by simp at hc⟩
theorem Og.below (hP : Keeps P) (h : Og T k P base w v L) (hb : Below w.heap.size w w') : Og T k P base w' v L := by
  obtain ⟨cs, h1, h2, h3, h4⟩ := h
  exact ⟨cs, below_row hb h1, h2, h3, fun i c x hc hx => hP _ _ _ _ (h4 i c x hc hx) hb⟩
theorem flatMap_cell' {k : Nat} : ∀ (l : List (List Value)) (i : Nat) (x : List Value), (∀ c ∈ l, c.length = k) → l[i]? = some x → ∀ j u, x[j]? = some u → (l.flatMap id)[i * k + j]? = some u
  | [], i, x, _, h, _, _, _ => by simp at h
  | y :: r, 0, x, hk, h, j, u, hu => by
    simp at h; subst h
    have hj := (List.getElem?_eq_some_iff.1 hu).1
    rw [List.flatMap_cons, Nat.zero_mul, Nat.zero_add]
    show (y ++ _)[j]? = _
    rw [List.getElem?_append_left hj]; exact hu
  | y :: r, i + 1, x, hk, h, j, u, hu => by
    have h' : r[i]? = some x := by simpa using h
    have := flatMap_cell' r i x (fun c hc => hk c (by simp [hc])) h' j u hu
    have hy := hk y (by simp)
    rw [List.flatMap_cons, List.getElem?_append_right (by simp only [id]; rw [hy, Nat.add_mul]; omega)]
    simp only [id]
    rw [hy, show (i + 1) * k + j - k = i * k + j by rw [Nat.add_mul]; omega]
    exact this
theorem Og.sg (h : Og T k P base w v L) : Sg k P w v L := by
  obtain ⟨cs, h1, h2, h3, h4⟩ := h
  refine ⟨cs, ?_, h2, h4⟩
  rcases h1.2 with ⟨rfl, h0⟩ | ⟨g, cap, cur, rfl, _, hg, hcap, _, hsz, htake⟩
  · exact Or.inl ⟨List.eq_nil_of_length_eq_zero (by omega), none, 0, rfl⟩
  · refine Or.inr ⟨g, 0, cap, by rw [h2], by omega, (Array.getElem?_eq_some_iff.1 hg).1, fun i x hi j u hu => ?_⟩
    have hc := flatMap_cell' cs i x h3 hi j u hu
    rw [cell_of_row w g (0 + i * k + j) cur T (0, 0) hg, Nat.zero_add]
    rw [← htake, List.getElem?_take] at hc
    split at hc
    · simpa using hc
    · cases hc
theorem Og.len (h : Og T k P base w v L) (hP : Keeps P) : ∃ a c, v = .slice a L.length c ∧ L.length ≤ c := by
  obtain ⟨a, c, h1, h2, _⟩ := h.sg.form hP
  exact ⟨a, c, h1, h2⟩
theorem Og.push (h : Og T k P base w v L) {w1 : World} {v1 : Value} {x : β} {news : List Value} (hP : ∀ c x, P w c x → P w1 c x) (hn : news.length = k) (hx : P w1 news x)
    (ho : ∀ xs, w.ownsRow base T k v L.length xs → w1.ownsRow base T k v1 (L.length + 1) (xs ++ news)) : Og T k P base w1 v1 (L ++ [x]) := by
  obtain ⟨cs, h1, h2, h3, h4⟩ := h
  refine ⟨cs ++ [news], ?_, by simp [h2], ?_, ?_⟩
  · have := ho _ h1
    simpa using this
  · intro c hc
    rcases List.mem_append.1 hc with hc | hc
    · exact h3 c hc
    · rw [List.mem_singleton.1 hc]; exact hn
  · intro i c y hc hy
    rcases Nat.lt_or_ge i L.length with hi | hi
    · rw [List.getElem?_append_left (by omega)] at hc hy
      exact hP c y (h4 i c y hc hy)
    · have hi2 : i = L.length := by
        have := (List.getElem?_eq_some_iff.1 hy).1
        simp at this; omega
      subst hi2
      rw [List.getElem?_append_right (by omega)] at hc hy
      simp [h2] at hc hy
      subst hc hy; exact hx
end
end Go.Proofs.YtmklieoikbgmpaaGreatDoor
namespace Go.Proofs.YtmklieoikbgmpaaGreatDoor
open Go.RowKit Go.Shelf Tx
def ndL (x : Nd) : List Value := [.int .i64 x.op, .int .i64 x.a, .int .i64 x.b, .int .i64 x.c, .int .i64 x.n, .string x.s]
theorem ndL_len (x : Nd) : (ndL x).length = 6 := rfl
abbrev ndV (x : Nd) : Value := .agg #[.int .i64 x.op, .int .i64 x.a, .int .i64 x.b, .int .i64 x.c, .int .i64 x.n, .string x.s]
theorem rowNd : RowTy Tryz.prog 24 60 6 56 := RowTy.mk' (z := .agg #[.int .i64 0, .int .i64 0, .int .i64 0, .int .i64 0, .int .i64 0, .string ⟨#[]⟩]) Tryz.underlying24 (by kernel_rfl) rfl (by omega)
theorem rowI : RowTy Tryz.prog 62 3 1 8 := RowTy.mk' (z := .int .i64 0) Tryz.underlying62 (by kernel_rfl) rfl (by omega)
def IsE (w : World) (v : Value) (e : List Nd) : Prop := Sl ndL 6 w v e
def OwnE (base : Nat) (w : World) (v : Value) (e : List Nd) : Prop := w.ownsRow base 60 6 v e.length (e.flatMap ndL)
theorem OwnE.isE {base : Nat} {w : World} {v : Value} {e : List Nd} (h : OwnE base w v e) : IsE w v e := Sl.own ndL_len h rfl
theorem OwnE.nil_ (base : Nat) (w : World) : OwnE base w (.slice none 0 0) [] := World.ownsRow_nil _ _ _ _
theorem OwnE.below {base : Nat} {w w' : World} {v : Value} {e : List Nd} (h : OwnE base w v e) (hb : Below w.heap.size w w') : OwnE base w' v e := below_row hb h
theorem OwnE.mono {base b2 : Nat} {w : World} {v : Value} {e : List Nd} (h : OwnE base w v e) (hb : b2 ≤ base) : OwnE b2 w v e := World.ownsRow.mono h hb
theorem nd_cells {W : World} {b o : Nat} {x : Nd} (h : ∀ j u, (ndL x)[j]? = some u → W.cell? ⟨b, o + j, none⟩ = some u) :
    W.cell? ⟨b, o, none⟩ = some (.int .i64 x.op) ∧ W.cell? ⟨b, o + 1, none⟩ = some (.int .i64 x.a) ∧ W.cell? ⟨b, o + 2, none⟩ = some (.int .i64 x.b) ∧ W.cell? ⟨b, o + 3, none⟩ = some (.int .i64 x.c) ∧ W.cell? ⟨b, o + 4, none⟩ = some (.int .i64 x.n) ∧ W.cell? ⟨b, o + 5, none⟩ = some (.string x.s) :=
  ⟨h 0 _ rfl, h 1 _ rfl, h 2 _ rfl, h 3 _ rfl, h 4 _ rfl, h 5 _ rfl⟩
def RowI (base : Nat) (w : World) (v : Value) (l : List Int) : Prop :=
  (l = [] ∧ v = .slice none 0 0) ∨ ∃ g, v = .slice (some ⟨g, 0, none⟩) l.length l.length ∧ base ≤ g ∧ Blk w g (l.map (Value.int .i64)).toArray 3
theorem flat_ints (l : List Int) : l.flatMap intC = l.map (Value.int .i64) := by
  induction l with
  | nil => rfl
  | cons a l ih => rw [List.flatMap_cons, List.map_cons, ih]; rfl
theorem RowI.sl {base : Nat} {w : World} {v : Value} {l : List Int} (h : RowI base w v l) : Sl intC 1 w v l := by
  rcases h with ⟨rfl, rfl⟩ | ⟨g, rfl, _, hb⟩
  · exact Sl.nil_
  · refine Sl.lit intC_len (T := 3) (fr := (0, 0)) ?_ (Nat.le_refl _)
    rw [flat_ints]; exact hb
theorem RowI.below {base : Nat} {w w' : World} {v : Value} {l : List Int} (h : RowI base w v l) (hb : Below w.heap.size w w') : RowI base w' v l := by
  rcases h with h | ⟨g, h1, h2, h3⟩
  · exact Or.inl h
  · exact Or.inr ⟨g, h1, h2, h3.below hb⟩
theorem RowI.form {base : Nat} {w : World} {v : Value} {l : List Int} (h : RowI base w v l) : ∃ a c, v = .slice a l.length c ∧ l.length ≤ c := by
  rcases h with ⟨rfl, rfl⟩ | ⟨g, rfl, _⟩
  · exact ⟨none, 0, rfl, Nat.le_refl _⟩
  · exact ⟨_, _, rfl, Nat.le_refl _⟩
theorem RowI.at {base : Nat} {w : World} {a : Option Addr} {n c : Nat} {l : List Int} (h : RowI base w (.slice a n c) l) {t : Nat} {y : Int} (hy : l[t]? = some y) : ∃ g, a = some ⟨g, 0, none⟩ ∧ base ≤ g ∧ g < w.heap.size ∧ w.cell? ⟨g, t, none⟩ = some (.int .i64 y) ∧ w.frozen? ⟨g, t, none⟩ = false := by
  rcases h with ⟨rfl, _⟩ | ⟨g, h1, h2, h3⟩
  · simp at hy
  · cases h1
    refine ⟨g, rfl, h2, h3.lt, ?_, ?_⟩
    · unfold Blk at h3; simp [World.cell?, h3, hy]
    · unfold Blk at h3; simp [World.frozen?, h3]
theorem RowI.other {base : Nat} {w : World} {v : Value} {l : List Int} (h : RowI base w v l) {p : Nat} (hp : p < base) (i : Nat) (y : Value) : RowI base (w.setCell ⟨p, i, none⟩ y) v l := by
  rcases h with h | ⟨g, h1, h2, h3⟩
  · exact Or.inl h
  · exact Or.inr ⟨g, h1, h2, h3.other i (by omega) y⟩
theorem RowI.mono {base b2 : Nat} {w : World} {v : Value} {l : List Int} (h : RowI base w v l) (hb : b2 ≤ base) : RowI b2 w v l := by
  rcases h with h | ⟨g, h1, h2, h3⟩
  · exact Or.inl h
  · exact Or.inr ⟨g, h1, by omega, h3⟩
def KidsPost (x : Nd) (w : World) (e : Ending) (w' : World) : Prop := ∃ v, e = .returned v ∧ RowI w.heap.size w' v (kids x) ∧ Below w.heap.size w w'
theorem kidsPost_nil {x : Nd} {w w' : World} (h : kids x = []) (hb : Below w.heap.size w w') : KidsPost x w (.returned (.slice none 0 0)) w' := ⟨_, rfl, Or.inl ⟨h, rfl⟩, hb⟩
theorem kidsPost_row {x : Nd} {w w' : World} {l : List Int} {g : Nat} {n : Nat} (h : kids x = l) (hn : l.length = n) (hg : w.heap.size ≤ g) (hk : Blk w' g (l.map (Value.int .i64)).toArray 3) (hb : Below w.heap.size w w') : KidsPost x w (.returned (.slice (some ⟨g, 0, none⟩) n n)) w' := by
  subst h hn; exact ⟨_, rfl, Or.inr ⟨g, rfl, hg, hk⟩, hb⟩
end Go.Proofs.YtmklieoikbgmpaaGreatDoor
namespace Go.Proofs.YtmklieoikbgmpaaGreatDoor.Lx
theorem decode_low (s : ByteArray) (i : Nat) (h : (s.get! i).toNat < 128) : Utf8.decode s i = ((s.get! i).toNat, 1) := by
  unfold Utf8.decode
  simp only [Nat.add_zero]
  rw [if_pos h]
theorem decode_high (s : ByteArray) (i : Nat) (h : 128 ≤ (s.get! i).toNat) : 128 ≤ (Utf8.decode s i).1 := by
  unfold Utf8.decode Utf8.runeError
  simp only [Nat.add_zero]
  rw [if_neg (by omega)]
  repeat' split
  all_goals first | omega | (simp_all; omega)
theorem idx_row (p : Nat → Bool) (q : UInt8 → Bool) (hlow : ∀ c : UInt8, c.toNat < 128 → p c.toNat = q c) (hhigh : ∀ x, 128 ≤ x → p x = false) (hq : ∀ c : UInt8, 128 ≤ c.toNat → q c = false) (s : ByteArray) :
    Lib.idxFunc (fun x => !p x) true s = if (s.data.toList.takeWhile q).length = s.size then -1 else ((s.data.toList.takeWhile q).length : Int) := by
  have key : ∀ (f pos : Nat), s.size - pos ≤ f → pos ≤ s.size → Lib.idxFuncFrom (fun x => !p x) true s f pos = if pos + ((s.data.toList.drop pos).takeWhile q).length = s.size then -1 else ((pos + ((s.data.toList.drop pos).takeWhile q).length : Nat) : Int) := by
    intro f
    induction f with
    | zero =>
      intro pos h1 h2
      have : pos = s.size := by omega
      subst this
      have e : s.data.toList.drop s.size = [] := by rw [List.drop_eq_nil_iff]; simp
      rw [e]
      simp [Lib.idxFuncFrom]
    | succ f ih =>
      intro pos h1 h2
      unfold Lib.idxFuncFrom
      by_cases hp : pos < s.size
      · rw [if_pos hp]
        have hd : s.data.toList.drop pos = s.get! pos :: s.data.toList.drop (pos + 1) := by
          rw [List.drop_eq_getElem_cons (by simpa using hp)]
          congr 1
          have : s.data.size = s.size := rfl
          simp only [ByteArray.get!, Array.getElem_toList]
          rw [getElem!_pos s.data pos (by omega)]
        rw [hd]
        by_cases hl : (s.get! pos).toNat < 128
        · rw [decode_low s pos hl]
          simp only [hlow _ hl]
          by_cases hqq : q (s.get! pos) = true
          · simp only [hqq, Bool.not_true, Bool.false_eq_true, if_false, List.takeWhile_cons, if_true, List.length_cons]
            rw [ih (pos + 1) (by omega) (by omega)]
            have e : ∀ n : Nat, pos + 1 + n = pos + (n + 1) := fun n => by omega
            rw [e]
          · have hqf : q (s.get! pos) = false := by simpa using hqq
            simp only [hqf, Bool.not_false, if_true, List.takeWhile_cons, Bool.false_eq_true, if_false, List.length_nil, Nat.add_zero]
            rw [if_neg (by omega)]
        · have h3 := decode_high s pos (by omega)
          have hqf := hq (s.get! pos) (by omega)
          simp only [hhigh _ h3, Bool.not_false, if_true, List.takeWhile_cons, hqf, Bool.false_eq_true, if_false, List.length_nil, Nat.add_zero]
          rw [if_neg (by omega)]
      · have : pos = s.size := by omega
        subst this
        have e : s.data.toList.drop s.size = [] := by rw [List.drop_eq_nil_iff]; simp
        rw [if_neg hp, e]
        simp
  have := key s.size 0 (by omega) (by omega)
  simpa [Lib.idxFunc] using this
theorem less_irrefl : ∀ a : Bs, Op.bytesLess a a = false
  | [] => rfl
  | c :: a => by simp [Op.bytesLess, less_irrefl a]
theorem less_trans : ∀ {a b c : Bs}, Op.bytesLess a b = true → Op.bytesLess b c = true → Op.bytesLess a c = true
  | _, [], _, h, _ => by simp [Op.bytesLess] at h
  | _, _ :: _, [], _, h => by simp [Op.bytesLess] at h
  | [], _ :: _, _ :: _, _, _ => rfl
  | x :: a, y :: b, z :: c, h, k => by
    simp only [Op.bytesLess, Bool.or_eq_true, decide_eq_true_eq, Bool.and_eq_true, beq_iff_eq] at h k ⊢
    rcases h with h | ⟨rfl, h⟩
    · rcases k with k | ⟨rfl, k⟩
      · exact Or.inl (UInt8.lt_trans h k)
      · exact Or.inl h
    · rcases k with k | ⟨rfl, k⟩
      · exact Or.inl k
      · exact Or.inr ⟨rfl, less_trans h k⟩
theorem bs_spec (less : Nat → Bool) (n k : Nat) (h1 : ∀ t, t < k → less t = true) (h2 : ∀ t, k ≤ t → t < n → less t = false) : ∀ (f lo hi : Nat), hi - lo ≤ f → lo ≤ k → k ≤ hi → hi ≤ n → Lib.bsGo less f lo hi = k
  | 0, lo, hi, hf, a, b, _ => by simp [Lib.bsGo]; omega
  | f + 1, lo, hi, hf, a, b, c => by
    unfold Lib.bsGo
    by_cases h : lo < hi
    · rw [if_pos h]
      by_cases hm : (lo + hi) / 2 < k
      · rw [h1 _ hm, if_pos rfl]; exact bs_spec less n k h1 h2 f _ _ (by omega) (by omega) b c
      · rw [h2 _ (by omega) (by omega)]; exact bs_spec less n k h1 h2 f _ _ (by omega) a (by omega) (by omega)
    · rw [if_neg h]; omega
theorem words_sorted : words.Pairwise (fun a b => Op.bytesLess a b = true) := by decide
theorem sorted_get {l : List Bs} (h : l.Pairwise (fun a b => Op.bytesLess a b = true)) {i j : Nat} (hij : i < j) (hj : j < l.length) : Op.bytesLess (l[i]'(by omega)) l[j] = true :=
  (List.pairwise_iff_getElem.1 h) i j (by omega) hj hij
theorem search_is (l : List Bs) (hl : l.Pairwise (fun a b => Op.bytesLess a b = true)) (x : Bs) :
    decide (Lib.bsGo (fun t => Op.bytesLess (l.getD t []) x) l.length 0 l.length < l.length ∧ l.getD (Lib.bsGo (fun t => Op.bytesLess (l.getD t []) x) l.length 0 l.length) [] = x) = l.contains x := by
  obtain ⟨k, hk⟩ : ∃ k, k = (l.takeWhile (fun a => Op.bytesLess a x)).length := ⟨_, rfl⟩
  have hkl : k ≤ l.length := by rw [hk]; exact (List.takeWhile_prefix _).length_le
  have h1 : ∀ t, t < k → Op.bytesLess (l.getD t []) x = true := by
    have : ∀ (l : List Bs) (t : Nat), t < (l.takeWhile (fun a => Op.bytesLess a x)).length → Op.bytesLess (l.getD t []) x = true := by
      intro l
      induction l with
      | nil => intro t h; simp at h
      | cons a l ih =>
        intro t h
        rw [List.takeWhile_cons] at h
        split at h
        · rename_i ha
          cases t with
          | zero => simpa using ha
          | succ t => simp at h; simpa using ih t h
        · simp at h
    intro t ht
    exact this l t (by rw [← hk]; exact ht)
  have hge : k < l.length → Op.bytesLess (l.getD k []) x = false := by
    intro h
    have : ∀ (l : List Bs) (k : Nat), k = (l.takeWhile (fun a => Op.bytesLess a x)).length → k < l.length → Op.bytesLess (l.getD k []) x = false := by
      intro l
      induction l with
      | nil => intro k _ h; simp at h
      | cons a l ih =>
        intro k hk h
        rw [List.takeWhile_cons] at hk
        split at hk
        · simp at hk; subst hk
          simp at h
          simpa using ih _ rfl h
        · rename_i ha
          simp at hk; subst hk; simpa using ha
    exact this l k hk h
  have h2 : ∀ t, k ≤ t → t < l.length → Op.bytesLess (l.getD t []) x = false := by
    intro t h3 h4
    by_cases e : t = k
    · subst e; exact hge h4
    · by_cases q : Op.bytesLess (l.getD t []) x = true
      · exfalso
        have h5 := sorted_get hl (i := k) (j := t) (by omega) h4
        have e1 : l.getD t [] = l[t] := by rw [List.getD_eq_getElem?_getD, List.getElem?_eq_getElem h4]; rfl
        have e2 : l.getD k [] = l[k]'(by omega) := by rw [List.getD_eq_getElem?_getD, List.getElem?_eq_getElem (by omega)]; rfl
        have h6 := less_trans h5 (by rw [← e1]; exact q)
        have h7 := hge (by omega)
        rw [e2, h6] at h7; cases h7
      · simpa using q
  rw [bs_spec _ l.length k h1 h2 l.length 0 l.length (by omega) (by omega) hkl (Nat.le_refl _)]
  rw [Bool.eq_iff_iff, decide_eq_true_eq, List.contains_iff_mem]
  constructor
  · rintro ⟨h3, h4⟩
    rw [List.getD_eq_getElem?_getD, List.getElem?_eq_getElem h3] at h4
    rw [← h4]; exact List.getElem_mem _
  · intro hm
    obtain ⟨j, hj, e⟩ := List.getElem_of_mem hm
    have ej : l.getD j [] = x := by rw [List.getD_eq_getElem?_getD, List.getElem?_eq_getElem hj]; exact e
    have e1 : ¬ j < k := by
      intro h
      have := h1 j h
      rw [ej, less_irrefl] at this; cases this
    have e2 : ¬ k < j := by
      intro h
      have h5 := sorted_get hl h hj
      rw [e] at h5
      have h7 := hge (by omega)
      rw [List.getD_eq_getElem?_getD, List.getElem?_eq_getElem (by omega)] at h7
      simp at h7
      rw [h5] at h7; cases h7
    have : j = k := by omega
    subst this
    exact ⟨hj, ej⟩
theorem all_takeWhile {p : UInt8 → Bool} : ∀ {l : Bs}, l.takeWhile p = l → l.all p = true
  | [], _ => rfl
  | c :: l, h => by
    rw [List.takeWhile_cons] at h
    split at h
    · rename_i hc
      have h2 : l.takeWhile p = l := by injection h
      simp [hc]; simpa using all_takeWhile h2
    · cases h
theorem name_yes {t : Bs} (h1 : t ≠ []) (h2 : t.length ≤ 40) (h3 : t.takeWhile isPt = t) : isName t = (!isDig (t.headD 0) && !isWord t) := by
  unfold isName
  have e1 : t.isEmpty = false := by cases t with | nil => exact absurd rfl h1 | cons _ _ => rfl
  rw [e1, all_takeWhile h3]
  simp only [h2, decide_true, Bool.not_false, Bool.true_and]
theorem name_no {t : Bs} (h3 : t.takeWhile isPt ≠ t) : isName t = false := by
  unfold isName
  have : t.all isPt = false := by
    by_cases q : t.all isPt = true
    · exfalso
      apply h3
      have : ∀ l : Bs, l.all isPt = true → l.takeWhile isPt = l := by
        intro l
        induction l with
        | nil => intro _; rfl
        | cons c l ih =>
          intro h
          simp only [List.all_cons, Bool.and_eq_true] at h
          rw [List.takeWhile_cons, if_pos h.1, ih h.2]
      exact this t q
    · simpa using q
  rw [this]; simp
theorem uint_go : ∀ (l : Bs) (acc : Nat), l.all isDig = true → (acc + 1) * 10 ^ l.length ≤ 18446744073709551616 → Lib.parseUint10 acc l = .ok (l.foldl (fun n c => 10 * n + (c.toNat - 48)) acc)
  | [], acc, _, _ => rfl
  | c :: l, acc, h, hb => by
    simp only [List.all_cons, Bool.and_eq_true] at h
    have hc := dig_nat h.1
    have hp : 1 ≤ 10 ^ l.length := Nat.one_le_pow _ _ (by omega)
    rw [List.length_cons, Nat.pow_succ] at hb
    have hb2 : (acc + 1) * 10 * 10 ^ l.length ≤ 18446744073709551616 := by rw [Nat.mul_assoc, Nat.mul_comm 10]; exact hb
    have hb3 : (acc + 1) * 10 ≤ 18446744073709551616 := Nat.le_trans (Nat.le_mul_of_pos_right _ hp) hb2
    have e : acc * 10 + (c.toNat - 48) = 10 * acc + (c.toNat - 48) := by omega
    simp only [Lib.parseUint10, hc.1, hc.2, and_self, if_true]
    rw [if_neg (by omega), if_neg (by omega), e]
    exact uint_go l _ h.2 (Nat.le_trans (Nat.mul_le_mul_right _ (by omega)) hb2)
theorem atoi_digits {d : Bs} (hd : d.all isDig = true) (hn : d ≠ []) (hl : d.length ≤ 10) : Lib.atoiAll d = .ok (val d : Int) := by
  cases d with
  | nil => exact absurd rfl hn
  | cons c r =>
    have h1 := hd
    simp only [List.all_cons, Bool.and_eq_true] at h1
    have hc := dig_nat h1.1
    have hp : 10 ^ (c :: r).length ≤ 10 ^ 10 := Nat.pow_le_pow_right (by omega) hl
    have hu := uint_go (c :: r) 0 hd (by omega)
    have hv : ∀ (l : Bs) (acc : Nat), l.all isDig = true → l.foldl (fun n c => 10 * n + (c.toNat - 48)) acc < (acc + 1) * 10 ^ l.length := by
      intro l
      induction l with
      | nil => intro acc _; simp
      | cons c l ih =>
        intro acc h
        simp only [List.all_cons, Bool.and_eq_true] at h
        have hc := dig_nat h.1
        have := ih (10 * acc + (c.toNat - 48)) h.2
        rw [List.foldl_cons, List.length_cons, Nat.pow_succ]
        refine Nat.lt_of_lt_of_le this ?_
        have e : (acc + 1) * (10 ^ l.length * 10) = (acc + 1) * 10 * 10 ^ l.length := by rw [Nat.mul_comm (10 ^ _), ← Nat.mul_assoc]
        rw [e]
        exact Nat.mul_le_mul_right _ (by omega)
    have hv2 := hv (c :: r) 0 hd
    rw [Lib.atoiAll_plain c r (by omega) (by omega)]
    have e : Lib.parseMag (c :: r) = .ok (val (c :: r)) := by unfold Lib.parseMag; rw [if_neg (by simp), hu]; rfl
    rw [e]
    unfold Lib.signless
    have : val (c :: r) < 9223372036854775808 := by show List.foldl _ _ _ < _; omega
    simp only
    first
      | rw [if_neg (by omega)]
      | simp [this]
theorem idx_find {α : Type} (p : α → Bool) (d : α) : ∀ (l : List α) (i : Nat), (Lib.idxByFrom (fun _ y => p y) d l i = -1 ∧ l.find? p = none) ∨ ∃ k x, l[k]? = some x ∧ Lib.idxByFrom (fun _ y => p y) d l i = ((i + k : Nat) : Int) ∧ l.find? p = some x
  | [], _ => Or.inl ⟨rfl, rfl⟩
  | y :: r, i => by
    unfold Lib.idxByFrom
    by_cases h : p y = true
    · exact Or.inr ⟨0, y, rfl, by rw [if_pos h]; rfl, by rw [List.find?_cons, h]⟩
    · rw [if_neg h]
      have hf : p y = false := by simpa using h
      rcases idx_find p d r (i + 1) with ⟨h1, h2⟩ | ⟨k, x, h1, h2, h3⟩
      · exact Or.inl ⟨h1, by rw [List.find?_cons, hf]; exact h2⟩
      · exact Or.inr ⟨k + 1, x, h1, by rw [h2]; congr 1; omega, by rw [List.find?_cons, hf]; exact h3⟩
theorem index_line : ∀ (l : Bs), Lib.indexByte l 10 = if (10 : UInt8) ∈ l then ((l.takeWhile (· != 10)).length : Int) else -1
  | [] => rfl
  | c :: l => by
    have ih := index_line l
    unfold Lib.indexByte
    by_cases hc : c = 10
    · subst hc; simp
    · have h1 : (c == 10) = false := by simpa using hc
      have h2 : (c != 10) = true := by simpa using hc
      rw [h1]
      simp only [List.takeWhile_cons, h2, if_true, List.length_cons, ih, Bool.false_eq_true, if_false]
      by_cases hm : (10 : UInt8) ∈ l
      · have : (10 : UInt8) ∈ c :: l := by simp [hm]
        rw [if_pos hm, if_pos this]
        simp <;> omega
      · have : (10 : UInt8) ∉ c :: l := by simp [hm, Ne.symm hc]
        rw [if_neg hm, if_neg this]; rfl
theorem cut_line (l : Bs) : (Lib.cut l [10]).2.1 = afterLine l := by
  unfold Lib.cut
  rw [Lib.index_one, index_line]
  have key : ∀ l : Bs, (10 : UInt8) ∈ l → l.dropWhile (· != 10) = l.drop (l.takeWhile (· != 10)).length := by
    intro l
    induction l with
    | nil => intro h; simp at h
    | cons c l ih =>
      intro h
      by_cases hc : c = 10
      · subst hc; simp
      · have h2 : (c != 10) = true := by simpa using hc
        simp only [List.dropWhile_cons, List.takeWhile_cons, h2, if_true, List.length_cons, List.drop_succ_cons]
        exact ih (by simpa [Ne.symm hc] using h)
  by_cases hm : (10 : UInt8) ∈ l
  · rw [if_pos hm, if_pos (by omega)]
    unfold afterLine
    rw [key l hm, List.drop_drop]
    simp
  · rw [if_neg hm, if_neg (by omega)]
    have : l.dropWhile (· != 10) = [] := by
      have : ∀ l : Bs, (10 : UInt8) ∉ l → l.dropWhile (· != 10) = [] := by
        intro l
        induction l with
        | nil => intro _; rfl
        | cons c l ih =>
          intro h
          have hc : c ≠ 10 := by rintro rfl; simp at h
          have h2 : (c != 10) = true := by simpa using hc
          rw [List.dropWhile_cons, if_pos h2]
          exact ih (by simp at h; exact h.2)
      exact this l hm
    unfold afterLine
    rw [this]; rfl
end Go.Proofs.YtmklieoikbgmpaaGreatDoor.Lx
namespace Go.Proofs
open Go.Shelf
def Tryz.lays161_ren : Go.Shelf.Ren := ⟨fun | 161 => 47 | 231 => 68 | 227 => 69 | 233 => 70 | 235 => 71 | 228 => 97 | 197 => 98 | 151 => 99 | 260 => 115 | 152 => 116 | 137 => 134 | 119 => 135 | 224 => 119 | 225 => 118 | 217 => 117 | 266 => 136 | n => n, fun | 9 => 9 | 4 => 4 | 3 => 3 | 5 => 5 | 117 => 114 | 116 => 113 | 0 => 0 | 124 => 117 | 105 => 130 | 21 => 21 | 119 => 157 | 46 => 145 | 139 => 160 | 138 => 159 | n => n, fun | 3 => 3 | 4 => 4 | n => n⟩
theorem Tryz.lays161 : Go.Proofs.Lays.n161 Tryz.prog Tryz.lays161_ren := {
  mixed := by kernel_rfl
  f119 := Tryz.func135.trans (congrArg some (by kernel_rfl))
  f137 := Tryz.func134.trans (congrArg some (by kernel_rfl))
  f151 := Tryz.func99.trans (congrArg some (by kernel_rfl))
  f152 := Tryz.func116.trans (congrArg some (by kernel_rfl))
  f161 := Tryz.func47.trans (congrArg some (by kernel_rfl))
  f197 := Tryz.func98.trans (congrArg some (by kernel_rfl))
  f217 := Tryz.func117.trans (congrArg some (by kernel_rfl))
  f224 := Tryz.func119.trans (congrArg some (by kernel_rfl))
  f225 := Tryz.func118.trans (congrArg some (by kernel_rfl))
  f227 := Tryz.func69.trans (congrArg some (by kernel_rfl))
  f228 := Tryz.func97.trans (congrArg some (by kernel_rfl))
  f231 := Tryz.func68.trans (congrArg some (by kernel_rfl))
  f233 := Tryz.func70.trans (congrArg some (by kernel_rfl))
  f235 := Tryz.func71.trans (congrArg some (by kernel_rfl))
  f260 := Tryz.func115.trans (congrArg some (by kernel_rfl))
  f266 := Tryz.func136.trans (congrArg some (by kernel_rfl))
  t0 := Tryz.underlying0
  a0 := Tryz.isAgg0
  z0 := Tryz.sizeOf0
  v0 := Tryz.zeroValue0
  t3 := Tryz.underlying3
  a3 := Tryz.isAgg3
  z3 := Tryz.sizeOf3
  v3 := Tryz.zeroValue3
  t4 := Tryz.underlying4
  a4 := Tryz.isAgg4
  z4 := Tryz.sizeOf4
  v4 := Tryz.zeroValue4
  t5 := Tryz.underlying5
  a5 := Tryz.isAgg5
  z5 := Tryz.sizeOf5
  v5 := Tryz.zeroValue5
  t9 := Tryz.underlying9
  a9 := Tryz.isAgg9
  z9 := Tryz.sizeOf9
  v9 := Tryz.zeroValue9
  t21 := Tryz.underlying21
  a21 := Tryz.isAgg21
  z21 := Tryz.sizeOf21
  v21 := Tryz.zeroValue21
  t46 := Tryz.underlying145
  a46 := Tryz.isAgg145
  z46 := Tryz.sizeOf145
  v46 := Tryz.zeroValue145
  t105 := Tryz.underlying130
  a105 := Tryz.isAgg130
  z105 := Tryz.sizeOf130
  v105 := Tryz.zeroValue130
  t116 := Tryz.underlying113
  a116 := Tryz.isAgg113
  z116 := Tryz.sizeOf113
  t117 := Tryz.underlying114
  a117 := Tryz.isAgg114
  z117 := Tryz.sizeOf114
  v117 := Tryz.zeroValue114
  t119 := Tryz.underlying157
  a119 := Tryz.isAgg157
  z119 := Tryz.sizeOf157
  t124 := Tryz.underlying117
  a124 := Tryz.isAgg117
  z124 := Tryz.sizeOf117
  v124 := Tryz.zeroValue117
  t138 := Tryz.underlying159
  a138 := Tryz.isAgg159
  z138 := Tryz.sizeOf159
  v138 := Tryz.zeroValue159
  t139 := Tryz.underlying160
  a139 := Tryz.isAgg160
  z139 := Tryz.sizeOf160
  v139 := Tryz.zeroValue160
  g3 := by kernel_rfl
  g4 := by kernel_rfl }
def Tryz.laysC172_ren : Go.Shelf.Ren := ⟨fun | 172 => 76 | 244 => 103 | 245 => 104 | 247 => 122 | 279 => 123 | 280 => 124 | 281 => 125 | 282 => 126 | 287 => 138 | 316 => 139 | 171 => 141 | 205 => 140 | 321 => 143 | 322 => 144 | 243 => 145 | 246 => 146 | 283 => 147 | 284 => 148 | 285 => 149 | 286 => 150 | 129 => 152 | 317 => 151 | 318 => 153 | 319 => 154 | 320 => 155 | 337 => 156 | 338 => 157 | n => n, fun | 9 => 9 | 3 => 3 | 75 => 121 | 76 => 122 | 4 => 4 | 5 => 5 | 167 => 147 | 37 => 148 | 0 => 0 | 85 => 149 | 2 => 2 | 168 => 151 | 53 => 164 | 175 => 165 | 46 => 145 | 210 => 168 | 127 => 174 | 145 => 177 | 143 => 175 | 21 => 21 | 171 => 179 | 173 => 182 | 212 => 185 | 51 => 161 | 20 => 20 | 213 => 186 | 232 => 190 | 233 => 191 | 80 => 86 | n => n, fun | 15 => 5 | 16 => 6 | 17 => 7 | 18 => 8 | 19 => 9 | n => n⟩
theorem Tryz.laysC172 : Go.Proofs.LaysC.n172 Tryz.prog Tryz.laysC172_ren := {
  mixed := by kernel_rfl
  f129 := Tryz.func152.trans (congrArg some (by kernel_rfl))
  f171 := Tryz.func141.trans (congrArg some (by kernel_rfl))
  f172 := Tryz.func76.trans (congrArg some (by kernel_rfl))
  f205 := Tryz.func140.trans (congrArg some (by kernel_rfl))
  f243 := Tryz.func145.trans (congrArg some (by kernel_rfl))
  f244 := Tryz.func103.trans (congrArg some (by kernel_rfl))
  f245 := Tryz.func104.trans (congrArg some (by kernel_rfl))
  f246 := Tryz.func146.trans (congrArg some (by kernel_rfl))
  f247 := Tryz.func122.trans (congrArg some (by kernel_rfl))
  f279 := Tryz.func123.trans (congrArg some (by kernel_rfl))
  f280 := Tryz.func124.trans (congrArg some (by kernel_rfl))
  f281 := Tryz.func125.trans (congrArg some (by kernel_rfl))
  f282 := Tryz.func126.trans (congrArg some (by kernel_rfl))
  f283 := Tryz.func147.trans (congrArg some (by kernel_rfl))
  f284 := Tryz.func148.trans (congrArg some (by kernel_rfl))
  f285 := Tryz.func149.trans (congrArg some (by kernel_rfl))
  f286 := Tryz.func150.trans (congrArg some (by kernel_rfl))
  f287 := Tryz.func138.trans (congrArg some (by kernel_rfl))
  f316 := Tryz.func139.trans (congrArg some (by kernel_rfl))
  f317 := Tryz.func151.trans (congrArg some (by kernel_rfl))
  f318 := Tryz.func153.trans (congrArg some (by kernel_rfl))
  f319 := Tryz.func154.trans (congrArg some (by kernel_rfl))
  f320 := Tryz.func155.trans (congrArg some (by kernel_rfl))
  f321 := Tryz.func143.trans (congrArg some (by kernel_rfl))
  f322 := Tryz.func144.trans (congrArg some (by kernel_rfl))
  f337 := Tryz.func156.trans (congrArg some (by kernel_rfl))
  f338 := Tryz.func157.trans (congrArg some (by kernel_rfl))
  t0 := Tryz.underlying0
  a0 := Tryz.isAgg0
  z0 := Tryz.sizeOf0
  v0 := Tryz.zeroValue0
  t2 := Tryz.underlying2
  a2 := Tryz.isAgg2
  z2 := Tryz.sizeOf2
  v2 := Tryz.zeroValue2
  t3 := Tryz.underlying3
  a3 := Tryz.isAgg3
  z3 := Tryz.sizeOf3
  v3 := Tryz.zeroValue3
  t4 := Tryz.underlying4
  a4 := Tryz.isAgg4
  z4 := Tryz.sizeOf4
  v4 := Tryz.zeroValue4
  t5 := Tryz.underlying5
  a5 := Tryz.isAgg5
  z5 := Tryz.sizeOf5
  v5 := Tryz.zeroValue5
  t9 := Tryz.underlying9
  a9 := Tryz.isAgg9
  z9 := Tryz.sizeOf9
  v9 := Tryz.zeroValue9
  t20 := Tryz.underlying20
  a20 := Tryz.isAgg20
  z20 := Tryz.sizeOf20
  v20 := Tryz.zeroValue20
  t21 := Tryz.underlying21
  a21 := Tryz.isAgg21
  z21 := Tryz.sizeOf21
  v21 := Tryz.zeroValue21
  t37 := Tryz.underlying148
  a37 := Tryz.isAgg148
  z37 := Tryz.sizeOf148
  v37 := Tryz.zeroValue148
  t46 := Tryz.underlying145
  a46 := Tryz.isAgg145
  z46 := Tryz.sizeOf145
  v46 := Tryz.zeroValue145
  t51 := Tryz.underlying161
  a51 := Tryz.isAgg161
  z51 := Tryz.sizeOf161
  v51 := Tryz.zeroValue161
  t53 := Tryz.underlying164
  a53 := Tryz.isAgg164
  z53 := Tryz.sizeOf164
  v53 := Tryz.zeroValue164
  t75 := Tryz.underlying121
  a75 := Tryz.isAgg121
  z75 := Tryz.sizeOf121
  v75 := Tryz.zeroValue121
  t76 := Tryz.underlying122
  a76 := Tryz.isAgg122
  z76 := Tryz.sizeOf122
  v76 := Tryz.zeroValue122
  t85 := Tryz.underlying149
  a85 := Tryz.isAgg149
  z85 := Tryz.sizeOf149
  v85 := Tryz.zeroValue149
  t127 := Tryz.underlying174
  a127 := Tryz.isAgg174
  z127 := Tryz.sizeOf174
  v127 := Tryz.zeroValue174
  t143 := Tryz.underlying175
  a143 := Tryz.isAgg175
  z143 := Tryz.sizeOf175
  v143 := Tryz.zeroValue175
  t145 := Tryz.underlying177
  a145 := Tryz.isAgg177
  z145 := Tryz.sizeOf177
  v145 := Tryz.zeroValue177
  t167 := Tryz.underlying147
  a167 := Tryz.isAgg147
  z167 := Tryz.sizeOf147
  v167 := Tryz.zeroValue147
  t168 := Tryz.underlying151
  a168 := Tryz.isAgg151
  z168 := Tryz.sizeOf151
  v168 := Tryz.zeroValue151
  t171 := Tryz.underlying179
  a171 := Tryz.isAgg179
  z171 := Tryz.sizeOf179
  v171 := Tryz.zeroValue179
  t173 := Tryz.underlying182
  a173 := Tryz.isAgg182
  z173 := Tryz.sizeOf182
  v173 := Tryz.zeroValue182
  t175 := Tryz.underlying165
  a175 := Tryz.isAgg165
  z175 := Tryz.sizeOf165
  v175 := Tryz.zeroValue165
  t210 := Tryz.underlying168
  a210 := Tryz.isAgg168
  z210 := Tryz.sizeOf168
  v210 := Tryz.zeroValue168
  t212 := Tryz.underlying185
  a212 := Tryz.isAgg185
  z212 := Tryz.sizeOf185
  v212 := Tryz.zeroValue185
  t213 := Tryz.underlying186
  a213 := Tryz.isAgg186
  z213 := Tryz.sizeOf186
  t232 := Tryz.underlying190
  a232 := Tryz.isAgg190
  z232 := Tryz.sizeOf190
  v232 := Tryz.zeroValue190
  t233 := Tryz.underlying191
  a233 := Tryz.isAgg191
  z233 := Tryz.sizeOf191
  v233 := Tryz.zeroValue191
  g15 := by kernel_rfl
  g16 := by kernel_rfl
  g17 := by kernel_rfl
  g18 := by kernel_rfl
  g19 := by kernel_rfl
  t80 := Tryz.underlying86
  a80 := Tryz.isAgg86
  z80 := Tryz.sizeOf86
  v80 := Tryz.zeroValue86
  i0 := by kernel_rfl
  i2 := by kernel_rfl
  i3 := by kernel_rfl
  i4 := by kernel_rfl
  i5 := by kernel_rfl
  i9 := by kernel_rfl
  i20 := by kernel_rfl
  i21 := by kernel_rfl
  i37 := by kernel_rfl
  i46 := by kernel_rfl
  i51 := by kernel_rfl
  i53 := by kernel_rfl
  i75 := by kernel_rfl
  i76 := by kernel_rfl
  i80 := by kernel_rfl
  i85 := by kernel_rfl
  i127 := by kernel_rfl
  i143 := by kernel_rfl
  i145 := by kernel_rfl
  i167 := by kernel_rfl
  i168 := by kernel_rfl
  i171 := by kernel_rfl
  i173 := by kernel_rfl
  i175 := by kernel_rfl
  i210 := by kernel_rfl
  i212 := by kernel_rfl
  i232 := by kernel_rfl
  i233 := by kernel_rfl
  m15 := by kernel_rfl
  m16 := by kernel_rfl
  m17 := by kernel_rfl
  m18 := by kernel_rfl
  m19 := by kernel_rfl
  c0 := by kernel_rfl
  c2 := by kernel_rfl
  c3 := by kernel_rfl
  c4 := by kernel_rfl
  c5 := by kernel_rfl
  c9 := by kernel_rfl
  c20 := by kernel_rfl
  c21 := by kernel_rfl
  c37 := by kernel_rfl
  c46 := by kernel_rfl
  c51 := by kernel_rfl
  c53 := by kernel_rfl
  c75 := by kernel_rfl
  c76 := by kernel_rfl
  c80 := by kernel_rfl
  c85 := by kernel_rfl
  c127 := by kernel_rfl
  c143 := by kernel_rfl
  c145 := by kernel_rfl
  c167 := by kernel_rfl
  c168 := by kernel_rfl
  c171 := by kernel_rfl
  c173 := by kernel_rfl
  c175 := by kernel_rfl
  c210 := by kernel_rfl
  c212 := by kernel_rfl
  c213 := by kernel_rfl
  c232 := by kernel_rfl
  c233 := by kernel_rfl }
open Go.RowKit in
theorem Tryz.strconv_Atoi_ok (s : ByteArray) (hmax : s.size ≤ 9223372036854775806) (v : Int) (h : Lib.atoiAll s.data.toList = .ok v) (w : World) :
    Calls Tryz.prog 76 #[.string s] w fun e w' => e = .returned (.tuple #[.int .i64 v, .nilIface]) ∧ (w' = w ∨ ∃ t, w' = Lib.bytesWorld w 5 t) := Any.strconv_Atoi_ok Tryz.laysC172 s hmax v h w
def Tryz.laysM145_ren : Go.Shelf.Ren := ⟨fun | 145 => 49 | 220 => 73 | 219 => 100 | 217 => 117 | 225 => 118 | 224 => 119 | 267 => 120 | 266 => 136 | 314 => 137 | n => n, fun | 9 => 9 | 4 => 4 | 59 => 93 | 3 => 3 | 5 => 5 | 46 => 145 | 146 => 162 | 51 => 161 | n => n, fun | 1 => 2 | n => n⟩
theorem Tryz.laysM145 : Go.Proofs.LaysM.n145 Tryz.prog Tryz.laysM145_ren := {
  mixed := by kernel_rfl
  f145 := Tryz.func49.trans (congrArg some (by kernel_rfl))
  f217 := Tryz.func117.trans (congrArg some (by kernel_rfl))
  f219 := Tryz.func100.trans (congrArg some (by kernel_rfl))
  f220 := Tryz.func73.trans (congrArg some (by kernel_rfl))
  f224 := Tryz.func119.trans (congrArg some (by kernel_rfl))
  f225 := Tryz.func118.trans (congrArg some (by kernel_rfl))
  f266 := Tryz.func136.trans (congrArg some (by kernel_rfl))
  f267 := Tryz.func120.trans (congrArg some (by kernel_rfl))
  f314 := Tryz.func137.trans (congrArg some (by kernel_rfl))
  t3 := Tryz.underlying3
  a3 := Tryz.isAgg3
  z3 := Tryz.sizeOf3
  v3 := Tryz.zeroValue3
  t4 := Tryz.underlying4
  a4 := Tryz.isAgg4
  z4 := Tryz.sizeOf4
  v4 := Tryz.zeroValue4
  t5 := Tryz.underlying5
  a5 := Tryz.isAgg5
  z5 := Tryz.sizeOf5
  v5 := Tryz.zeroValue5
  t9 := Tryz.underlying9
  a9 := Tryz.isAgg9
  z9 := Tryz.sizeOf9
  v9 := Tryz.zeroValue9
  t46 := Tryz.underlying145
  a46 := Tryz.isAgg145
  z46 := Tryz.sizeOf145
  v46 := Tryz.zeroValue145
  t51 := Tryz.underlying161
  a51 := Tryz.isAgg161
  z51 := Tryz.sizeOf161
  v51 := Tryz.zeroValue161
  t59 := Tryz.underlying93
  a59 := Tryz.isAgg93
  z59 := Tryz.sizeOf93
  v59 := Tryz.zeroValue93
  t146 := Tryz.underlying162
  a146 := Tryz.isAgg162
  z146 := Tryz.sizeOf162
  v146 := Tryz.zeroValue162
  g1 := by kernel_rfl
  i3 := by kernel_rfl
  i4 := by kernel_rfl
  i5 := by kernel_rfl
  i9 := by kernel_rfl
  i46 := by kernel_rfl
  i51 := by kernel_rfl
  i59 := by kernel_rfl
  i146 := by kernel_rfl
  m1 := by kernel_rfl
  s1_3 := fun w h => Go.Proofs.cell_of_shapedOpen_int (zero := #[.int .i64 0]) (t := 3) h (of_decide_eq_true (by kernel_rfl)) (by kernel_rfl) rfl (by kernel_rfl) (by kernel_rfl) Tryz.underlying3 }
open Go.RowKit Go.Lib in
theorem Tryz.strings_Cut_shaped (s sep : ByteArray) (w : World) (h : w.ShapedOpen Tryz.prog) (hs : s.size < 4294967281) :
    Calls Tryz.prog 49 #[.string s, .string sep] w fun e w' => e = .returned (.tuple #[.string ⟨(Lib.cut s.data.toList sep.data.toList).1.toArray⟩, .string ⟨(Lib.cut s.data.toList sep.data.toList).2.1.toArray⟩, .bool (Lib.cut s.data.toList sep.data.toList).2.2]) ∧ ∃ n, w' = w.drewN n := Any.strings_Cut_shaped Tryz.laysM145 s sep w h hs
def Tryz.laysGw15_ren : Go.Shelf.Ren := ⟨fun | 15 => 101 | 20 => 121 | n => n, fun | 9 => 9 | 23 => 119 | 3 => 3 | 4 => 4 | 0 => 0 | 21 => 21 | n => n, fun | n => n⟩
theorem Tryz.laysGw15 : Go.Proofs.LaysGw.n15 Tryz.prog Tryz.laysGw15_ren := {
  mixed := by kernel_rfl
  f15 := Tryz.func101.trans (congrArg some (by kernel_rfl))
  f20 := Tryz.func121.trans (congrArg some (by kernel_rfl))
  t0 := Tryz.underlying0
  a0 := Tryz.isAgg0
  z0 := Tryz.sizeOf0
  v0 := Tryz.zeroValue0
  i0 := by kernel_rfl
  t3 := Tryz.underlying3
  a3 := Tryz.isAgg3
  z3 := Tryz.sizeOf3
  v3 := Tryz.zeroValue3
  i3 := by kernel_rfl
  t4 := Tryz.underlying4
  a4 := Tryz.isAgg4
  z4 := Tryz.sizeOf4
  v4 := Tryz.zeroValue4
  i4 := by kernel_rfl
  t9 := Tryz.underlying9
  a9 := Tryz.isAgg9
  z9 := Tryz.sizeOf9
  v9 := Tryz.zeroValue9
  i9 := by kernel_rfl
  t21 := Tryz.underlying21
  a21 := Tryz.isAgg21
  z21 := Tryz.sizeOf21
  v21 := Tryz.zeroValue21
  i21 := by kernel_rfl
  t23 := Tryz.underlying119
  a23 := Tryz.isAgg119
  z23 := Tryz.sizeOf119
  v23 := Tryz.zeroValue119
  i23 := by kernel_rfl }
open Go.RowKit Go.Lib in
theorem Tryz.strings_IndexFunc (g : Nat) (lb : Array Value) (eg : ∀ args w, (callFunc g args).run Tryz.prog w = .ok (.enter g args) w) (p : Nat → Bool) (s : ByteArray) (w : World) (hp : PredAt Tryz.prog g lb encR p w) :
    Calls Tryz.prog 101 #[.string s, .func (.func g) #[] lb] w fun e w' => e = .returned (.int .i64 (Lib.idxFunc p true s)) ∧ Below w.heap.size w w' := Any.strings_IndexFunc Tryz.laysGw15 g lb eg p s w hp
def Tryz.lays99_ren : Go.Shelf.Ren := ⟨fun | 99 => 48 | 206 => 72 | n => n, fun | 9 => 9 | 4 => 4 | 3 => 3 | n => n, fun | n => n⟩
theorem Tryz.lays99 : Go.Proofs.Lays.n99 Tryz.prog Tryz.lays99_ren := {
  mixed := by kernel_rfl
  f99 := Tryz.func48.trans (congrArg some (by kernel_rfl))
  f206 := Tryz.func72.trans (congrArg some (by kernel_rfl))
  t3 := Tryz.underlying3
  a3 := Tryz.isAgg3
  z3 := Tryz.sizeOf3
  v3 := Tryz.zeroValue3
  t4 := Tryz.underlying4
  a4 := Tryz.isAgg4
  z4 := Tryz.sizeOf4
  v4 := Tryz.zeroValue4
  t9 := Tryz.underlying9
  a9 := Tryz.isAgg9
  z9 := Tryz.sizeOf9
  v9 := Tryz.zeroValue9 }
open Go.RowKit Go.Lib in
theorem Tryz.strings_HasPrefix (s p : ByteArray) (w : World) :
    Calls Tryz.prog 48 #[.string s, .string p] w fun e w' => e = .returned (.bool (Lib.hasPrefix s.data.toList p.data.toList)) ∧ w' = w := Any.strings_HasPrefix Tryz.lays99 s p w
def Tryz.laysSlH6_f80_ren : Go.Shelf.Ren := ⟨fun | 6 => 80 | n => n, fun | 22 => 36 | 23 => 9 | 25 => 32 | 3 => 3 | 0 => 0 | 4 => 4 | n => n, fun | n => n⟩
theorem Tryz.laysSlH6_f80 : Go.Proofs.SlLaysH.n6 Tryz.prog Tryz.laysSlH6_f80_ren := {
  mixed := by kernel_rfl
  f6 := ⟨Tryz.f80.name, by decide, Tryz.func80.trans (congrArg some (by kernel_rfl))⟩
  t0 := Tryz.underlying0
  a0 := Tryz.isAgg0
  z0 := Tryz.sizeOf0
  v0 := Tryz.zeroValue0
  t3 := Tryz.underlying3
  a3 := Tryz.isAgg3
  z3 := Tryz.sizeOf3
  v3 := Tryz.zeroValue3
  t4 := Tryz.underlying4
  a4 := Tryz.isAgg4
  z4 := Tryz.sizeOf4
  v4 := Tryz.zeroValue4
  t22 := Tryz.underlying36
  a22 := Tryz.isAgg36
  z22 := Tryz.sizeOf36
  v22 := Tryz.zeroValue36
  a23 := Tryz.isAgg9
  z23 := Tryz.sizeOf9
  t25 := Tryz.underlying32
  a25 := Tryz.isAgg32
  z25 := Tryz.sizeOf32
  v25 := Tryz.zeroValue32 }
open Go.RowKit Go.Lib in
theorem Tryz.slices_IndexFunc {α : Type} [Inhabited α] (enc : α → Value) (p : α → Bool) (g : Nat) (lb : Array Value) (eg : ∀ args w, (callFunc g args).run Tryz.prog w = .ok (.enter g args) w) (b off n c : Nat) (zs : List α) (w : World) (hp : PredAt Tryz.prog g lb enc p w) (hz : n ≤ zs.length) (hbig : n ≤ 9223372036854775807) (hc : ∀ j, j < zs.length → w.cell? ⟨b, off + j, none⟩ = some (enc zs[j]!)) :
    Calls Tryz.prog 80 #[.slice (some ⟨b, off, none⟩) n c, .func (.func g) #[] lb] w fun e w' => e = .returned (.int .i64 (Lib.idxBy (fun _ y => p y) (zs.take n) default)) ∧ ∃ q, w' = w.drewN q := AnyE.slices_IndexFunc Tryz.laysSlH6_f80 enc p g lb eg b off n c zs w hp hz hbig hc
open Go.RowKit in
theorem Tryz.strings_TrimLeft_laid (s cutset : ByteArray) (w : World) (hcs : cutset.size < 4294967281) (hascii : ∀ (j : Nat) b, cutset.data.toList[j]? = some b → b.toNat < 128) :
    Calls Tryz.prog 47 #[.string s, .string cutset] w fun e w' => e = .returned (.string ⟨(Lib.trimLeftS s.data.toList cutset.data.toList).toArray⟩) ∧ Below w.heap.size w w' := Any.strings_TrimLeft_laid Tryz.lays161 (by kernel_rfl) s cutset w hcs hascii
def Tryz.lays2_26_ren : Go.Shelf.Ren := ⟨fun | 26 => 106 | 33 => 127 | 34 => 128 | 38 => 142 | n => n, fun | 24 => 36 | 9 => 9 | 3 => 3 | 4 => 4 | 40 => 145 | 0 => 0 | n => n, fun | n => n⟩
theorem Tryz.lays2_26 : Go.Proofs.Lays2.n26 Tryz.prog Tryz.lays2_26_ren := {
  mixed := by kernel_rfl
  f26 := Tryz.func106.trans (congrArg some (by kernel_rfl))
  f33 := Tryz.func127.trans (congrArg some (by kernel_rfl))
  f34 := Tryz.func128.trans (congrArg some (by kernel_rfl))
  f38 := Tryz.func142.trans (congrArg some (by kernel_rfl))
  t0 := Tryz.underlying0
  a0 := Tryz.isAgg0
  z0 := Tryz.sizeOf0
  v0 := Tryz.zeroValue0
  t3 := Tryz.underlying3
  a3 := Tryz.isAgg3
  z3 := Tryz.sizeOf3
  v3 := Tryz.zeroValue3
  t4 := Tryz.underlying4
  a4 := Tryz.isAgg4
  z4 := Tryz.sizeOf4
  v4 := Tryz.zeroValue4
  t9 := Tryz.underlying9
  a9 := Tryz.isAgg9
  z9 := Tryz.sizeOf9
  v9 := Tryz.zeroValue9
  t24 := Tryz.underlying36
  a24 := Tryz.isAgg36
  z24 := Tryz.sizeOf36
  v24 := Tryz.zeroValue36
  t40 := Tryz.underlying145
  a40 := Tryz.isAgg145
  z40 := Tryz.sizeOf145
  v40 := Tryz.zeroValue145 }
open Go.RowKit in
theorem Tryz.slices_BinarySearch_string (b off n c : Nat) (Sx : Nat → ByteArray) (x : ByteArray) (w : World) (hbig : n < 4611686018427387904) (hc : ∀ j, j < n → w.cell? ⟨b, off + j, none⟩ = some (.string (Sx j))) :
    Calls Tryz.prog 106 #[.slice (some ⟨b, off, none⟩) n c, .string x] w fun e w' =>
      e = .returned (.tuple #[.int .i64 (Lib.bsGo (fun t => Op.bytesLess (Sx t).toList x.toList) n 0 n : Nat), .bool (decide (Lib.bsGo (fun t => Op.bytesLess (Sx t).toList x.toList) n 0 n < n ∧ Sx (Lib.bsGo (fun t => Op.bytesLess (Sx t).toList x.toList) n 0 n) = x))]) ∧ ∃ q, w' = w.drewN q := Any2.slices_BinarySearch_string Tryz.lays2_26 b off n c Sx x w hbig hc
end Go.Proofs
namespace Go.Proofs.YtmklieoikbgmpaaGreatDoor
open Go.RowKit Go.Shelf
set_option maxHeartbeats 400000 in
theorem isDigit_any (x : Nat) (w : World) :
    Calls Tryz.prog 75 #[.int .i32 x] w fun e w' => e = .returned (.bool (digN x)) ∧ w' = w := by
  go_enter Tryz.func75, Tryz.ntmps75
  go_wp2_with fail
  all_goals
    go_ret
    exact ⟨ret_bool (by rw [Bool.eq_iff_iff]; simp [digN]; omega), rfl⟩
set_option maxHeartbeats 400000 in
theorem isLetter_any (x : Nat) (w : World) :
    Calls Tryz.prog 105 #[.int .i32 x] w fun e w' => e = .returned (.bool (letN x)) ∧ w' = w := by
  by_cases h1 : (97 : Int) ≤ (x : Int)
  · by_cases h2 : (x : Int) ≤ 122
    · go_enter Tryz.func105, Tryz.ntmps105
      go_wp2_with fail
      all_goals
        go_ret
        exact ⟨ret_bool (by rw [Bool.eq_iff_iff]; simp [letN]; omega), rfl⟩
    · go_enter Tryz.func105, Tryz.ntmps105
      go_wp2_with fail
      all_goals
        go_ret
        exact ⟨ret_bool (by rw [Bool.eq_iff_iff]; simp [letN]; omega), rfl⟩
  · go_enter Tryz.func105, Tryz.ntmps105
    go_wp2_with fail
    all_goals
      go_ret
      exact ⟨ret_bool (by rw [Bool.eq_iff_iff]; simp [letN]; omega), rfl⟩
set_option maxHeartbeats 400000 in
theorem isPart_any (x : Nat) (w : World) :
    Calls Tryz.prog 77 #[.int .i32 x] w fun e w' => e = .returned (.bool (partN x)) ∧ w' = w := by
  obtain ⟨b, hb⟩ : ∃ b, b = letN x := ⟨_, rfl⟩
  have cL := isLetter_any x w
  rw [← hb] at cL
  have HB : Hid (b = letN x) := hb
  clear hb
  go_enter Tryz.func77, Tryz.ntmps77
  go_wp2_with fail
  refine cL.mono ?_
  rintro e w1 ⟨rfl, hW⟩
  subst hW
  cases b
  · go_wp2_with fail
    refine (isDigit_any x w1).mono ?_
    rintro e w2 ⟨rfl, hW⟩
    subst hW
    go_wp2_with fail
    go_ret
    exact ⟨ret_bool (by unfold partN; rw [← HB.out]; rfl), rfl⟩
  · go_wp2_with fail
    go_ret
    exact ⟨ret_bool (by unfold partN; rw [← HB.out]; rfl), rfl⟩
theorem row1_any (g : Nat) (p : Nat → Bool) (hp : ∀ x w, Calls Tryz.prog g #[.int .i32 (x : Nat)] w fun e w' => e = .returned (.bool (p x)) ∧ w' = w)
    (eg : ∀ args w, (callFunc g args).run Tryz.prog w = .ok (.enter g args) w) (x b : Nat) (w : World) (hc : w.cell? ⟨b, 0, none⟩ = some (.func (.func g) #[] #[])) :
    Calls Tryz.prog 102 #[.int .i32 x, .pointer (some ⟨b, 0, none⟩)] w fun e w' => e = .returned (.bool (!p x)) ∧ w' = w := by
  go_enter Tryz.func102, Tryz.ntmps102
  go_wp2_with fail
  refine (hp x w).mono ?_
  rintro e w1 ⟨rfl, hW⟩
  subst hW
  go_wp2_with fail
  go_ret
  exact ⟨rfl, rfl⟩
set_option maxHeartbeats 1000000 in
theorem row_any (g : Nat) (p : Nat → Bool) (q : UInt8 → Bool) (hp : ∀ x w, Calls Tryz.prog g #[.int .i32 (x : Nat)] w fun e w' => e = .returned (.bool (p x)) ∧ w' = w)
    (eg : ∀ args w, (callFunc g args).run Tryz.prog w = .ok (.enter g args) w) (hlow : ∀ c : UInt8, p c.toNat = q c) (hhigh : ∀ x, 128 ≤ x → p x = false) (s : ByteArray) (_hs : s.size ≤ 100000) (w : World) :
    Calls Tryz.prog 74 #[.string s, .func (.func g) #[] #[]] w fun e w' => ∃ t : ByteArray, e = .returned (.string t) ∧ t.data.toList = s.data.toList.takeWhile q ∧ Below w.heap.size w w' := by
  have hq : ∀ c : UInt8, 128 ≤ c.toNat → q c = false := fun c h => by rw [← hlow]; exact hhigh _ h
  have er : ∀ args w, (callFunc 102 args).run Tryz.prog w = .ok (.enter 102 args) w := enters_of Tryz.func102 (by kernel_rfl) rfl
  have bw : Below w.heap.size w (w.alloc (.cells #[.func (.func g) #[] #[]] 119)) := (Below.refl _ _).alloc (Nat.le_refl _) _
  have cc : (w.alloc (.cells #[.func (.func g) #[] #[]] 119)).cell? ⟨w.heap.size, 0, none⟩ = some (.func (.func g) #[] #[]) := by
    rw [cell_of_row _ _ 0 _ _ _ (heap_alloc_new w _)]; rfl
  have HP : PredAt Tryz.prog 102 #[.pointer (some ⟨w.heap.size, 0, none⟩)] encR (fun x => !p x) (w.alloc (.cells #[.func (.func g) #[] #[]] 119)) := by
    intro W x hW
    have hc : W.cell? ⟨w.heap.size, 0, none⟩ = some (.func (.func g) #[] #[]) := (hW.cell (by show w.heap.size < (w.heap.push _).size; simp)).trans cc
    refine (row1_any g p hp eg x w.heap.size W hc).mono fun e w' ⟨he, hw⟩ => ⟨he, 0, ?_⟩
    rw [hw]; rfl
  have cI := Tryz.strings_IndexFunc 102 #[.pointer (some ⟨w.heap.size, 0, none⟩)] er (fun x => !p x) s _ HP
  rw [Lx.idx_row p q (fun c _ => hlow c) hhigh hq s] at cI
  obtain ⟨n, hn⟩ : ∃ n, n = (s.data.toList.takeWhile q).length := ⟨_, rfl⟩
  have hle : n ≤ s.size := by rw [hn, ← size_toList]; exact (List.takeWhile_prefix q).length_le
  have HN : Hid (n = (s.data.toList.takeWhile q).length) := hn
  rw [← hn] at cI
  clear hn HP hq hhigh hlow
  by_cases h : n = s.size
  · rw [if_pos h] at cI
    have HA : Hid (n = s.size) := h
    clear h
    go_enter Tryz.func74, Tryz.ntmps74
    go_wp2_with fail
    refine cI.mono ?_
    rintro e w1 ⟨rfl, hb1⟩
    go_wp2_with fail
    go_ret
    refine ⟨s, rfl, ?_, bw.trans (hb1.mono bw.size)⟩
    have h1 := HN.out
    rw [HA.out, ← size_toList] at h1
    exact ((List.takeWhile_prefix q).eq_of_length h1.symm).symm
  · rw [if_neg h] at cI
    have hlt : n < s.size := by omega
    clear h
    go_enter Tryz.func74, Tryz.ntmps74
    go_wp2_with fail
    refine cI.mono ?_
    rintro e w1 ⟨rfl, hb1⟩
    go_wp2_with fail
    go_ret
    refine ⟨_, rfl, ?_, bw.trans (hb1.mono bw.size)⟩
    rw [extract_take, HN.out]
    exact (List.prefix_iff_eq_take.1 (List.takeWhile_prefix q)).symm
theorem eDigit : ∀ args w, (callFunc 75 args).run Tryz.prog w = .ok (.enter 75 args) w := enters_of Tryz.func75 (by kernel_rfl) rfl
theorem ePart : ∀ args w, (callFunc 77 args).run Tryz.prog w = .ok (.enter 77 args) w := enters_of Tryz.func77 (by kernel_rfl) rfl
theorem row_digit (s : ByteArray) (hs : s.size ≤ 100000) (w : World) :
    Calls Tryz.prog 74 #[.string s, .func (.func 75) #[] #[]] w fun e w' => ∃ t : ByteArray, e = .returned (.string t) ∧ t.data.toList = s.data.toList.takeWhile Lx.isDig ∧ Below w.heap.size w w' :=
  row_any _ digN Lx.isDig isDigit_any eDigit digN_byte (fun x h => (high_no x h).1) s hs w
theorem row_part (s : ByteArray) (hs : s.size ≤ 100000) (w : World) :
    Calls Tryz.prog 74 #[.string s, .func (.func 77) #[] #[]] w fun e w' => ∃ t : ByteArray, e = .returned (.string t) ∧ t.data.toList = s.data.toList.takeWhile Lx.isPt ∧ Below w.heap.size w w' :=
  row_any _ partN Lx.isPt isPart_any ePart partN_byte (fun x h => (high_no x h).2) s hs w
structure Gl (W : World) : Prop where
  words : ∃ b o c, W.cell? ⟨1, 0, none⟩ = some (.slice (some ⟨b, o, none⟩) 35 c) ∧ ∀ j, j < 35 → W.cell? ⟨b, o + j, none⟩ = some (.string ⟨(Lx.words.getD j []).toArray⟩)
  signs : ∃ b o c, W.cell? ⟨0, 0, none⟩ = some (.slice (some ⟨b, o, none⟩) 16 c) ∧ ∀ j, j < 16 → W.cell? ⟨b, o + j, none⟩ = some (.string ⟨(Lx.signs.getD j []).toArray⟩)
  shaped : W.ShapedOpen Tryz.prog
theorem Gl.below {w w' : World} (h : Gl w) (hb : Below w.heap.size w w') : Gl w' := by
  have kc : ∀ {a : Addr} {v : Value}, w.cell? a = some v → w'.cell? a = some v := fun {a v} q => (hb.cell (World.block_lt_of_cell? w a q)).trans q
  obtain ⟨b, o, c, h1, h2⟩ := h.words
  obtain ⟨b', o', c', h3, h4⟩ := h.signs
  exact ⟨⟨b, o, c, kc h1, fun j hj => kc (h2 j hj)⟩, ⟨b', o', c', kc h3, fun j hj => kc (h4 j hj)⟩, h.shaped.keptBut (hb.frame (fun _ => False)) (fun _ q => q.elim)⟩
set_option maxHeartbeats 400000 in
theorem IsWord_any (s : ByteArray) (w : World) (G : Gl w) :
    Calls Tryz.prog 78 #[.string s] w fun e w' => e = .returned (.bool (Lx.isWord s.data.toList)) ∧ Below w.heap.size w w' := by
  obtain ⟨b, o, c, h1, h2⟩ := G.words
  have cB := Tryz.slices_BinarySearch_string b o 35 c (fun j => ⟨(Lx.words.getD j []).toArray⟩) s w (by omega) h2
  have key : decide (Lib.bsGo (fun t => Op.bytesLess (⟨(Lx.words.getD t []).toArray⟩ : ByteArray).toList s.toList) 35 0 35 < 35 ∧ (⟨(Lx.words.getD (Lib.bsGo (fun t => Op.bytesLess (⟨(Lx.words.getD t []).toArray⟩ : ByteArray).toList s.toList) 35 0 35) []).toArray⟩ : ByteArray) = s) = Lx.isWord s.data.toList := by
    have h := Lx.search_is Lx.words Lx.words_sorted s.data.toList
    have e1 : ∀ l : List UInt8, (⟨l.toArray⟩ : ByteArray).toList = l := fun l => by rw [Lib.toList_data]
    have e2 : ∀ l : List UInt8, (⟨l.toArray⟩ : ByteArray) = s ↔ l = s.data.toList := fun l => ⟨fun h => by rw [← h], fun h => by rw [h]⟩
    simp only [e1, e2]
    exact h
  rw [key] at cB
  clear key h2
  go_enter Tryz.func78, Tryz.ntmps78
  go_wp2_with fail
  refine cB.mono ?_
  rintro e w1 ⟨rfl, q, rfl⟩
  go_wp2_with fail
  go_ret
  exact ⟨rfl, below_drewN' (Below.refl _ _) q⟩
set_option maxHeartbeats 400000 in
theorem IsName_any (s : ByteArray) (w : World) (G : Gl w) :
    Calls Tryz.prog 79 #[.string s] w fun e w' => e = .returned (.bool (Lx.isName s.data.toList)) ∧ Below w.heap.size w w' := by
  by_cases he : s.toList = []
  · have HF : Hid (Lx.isName s.data.toList = false) := by
      show _ = _
      rw [← Lib.toList_data, he]; rfl
    have he2 : (!s.toList.isEmpty) = false := by simp [he]
    go_enter Tryz.func79, Tryz.ntmps79
    go_wp2_with fail
    go_ret
    exact ⟨ret_bool HF.out.symm, Below.refl _ _⟩
  have he2 : (!s.toList.isEmpty) = true := by simp [he]
  have hpos : 0 < s.size := by
    rw [Lib.toList_data] at he
    have := List.length_pos_iff.2 he
    rwa [size_toList] at this
  by_cases hl : 40 < s.size
  · have HF : Hid (Lx.isName s.data.toList = false) := by
      show _ = _
      unfold Lx.isName
      rw [size_toList]
      have : decide (s.size ≤ 40) = false := by simp; omega
      rw [this]; simp
    go_enter Tryz.func79, Tryz.ntmps79
    go_wp2_with fail
    go_ret
    exact ⟨ret_bool HF.out.symm, Below.refl _ _⟩
  have hl' : s.size ≤ 40 := by omega
  have HE : Hid (s.data.toList ≠ []) := by rw [Lib.toList_data] at he; exact he
  clear hl
  go_enter Tryz.func79, Tryz.ntmps79
  go_wp2_with fail
  refine (row_part s (by omega) w).mono ?_
  rintro e w1 ⟨t, rfl, ht, hb1⟩
  have HT : Hid (t.data.toList = s.data.toList.takeWhile Lx.isPt) := ht
  have G1 := G.below hb1
  clear ht G
  by_cases hts : t.toList = s.toList
  · have HTS : Hid (s.data.toList.takeWhile Lx.isPt = s.data.toList) := by
      show _ = _
      rw [Lib.toList_data, Lib.toList_data] at hts
      rw [← HT.out]; exact hts
    go_wp2_with fail
    have hw : wrap32 ((s[0].toNat : Nat) : Int) = ((s[0].toNat : Nat) : Int) := by
      have := s[0].toNat_lt
      unfold wrap32; omega
    rw [hw]
    refine (isDigit_any s[0].toNat w1).mono ?_
    rintro e w2 ⟨rfl, hW⟩
    subst hW
    have HD : Hid (digN s[0].toNat = Lx.isDig (s.data.toList.headD 0)) := by
      show _ = _
      rw [digN_byte]
      have : s.data.toList.headD 0 = s[0] := by
        exact headD_byte s hpos
      rw [this]
    clear hw
    generalize digN s[0].toNat = b at HD ⊢
    cases b
    · go_wp2_with fail
      refine (IsWord_any s w2 G1).mono ?_
      rintro e w3 ⟨rfl, hb3⟩
      go_wp2_with fail
      go_ret
      refine ⟨ret_bool ?_, hb1.trans (hb3.mono hb1.size)⟩
      rw [Lx.name_yes HE.out (by rw [size_toList]; omega) HTS.out, ← HD.out]; rfl
    · go_wp2_with fail
      go_ret
      refine ⟨ret_bool ?_, hb1⟩
      rw [Lx.name_yes HE.out (by rw [size_toList]; omega) HTS.out, ← HD.out]; rfl
  · have HTS : Hid (s.data.toList.takeWhile Lx.isPt ≠ s.data.toList) := by
      show _ ≠ _
      rw [Lib.toList_data, Lib.toList_data] at hts
      rw [← HT.out]; exact hts
    go_wp2_with fail
    go_ret
    refine ⟨ret_bool ?_, hb1⟩
    rw [Lx.name_no HTS.out]
end Go.Proofs.YtmklieoikbgmpaaGreatDoor
