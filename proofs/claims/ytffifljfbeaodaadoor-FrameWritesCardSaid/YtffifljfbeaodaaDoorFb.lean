/- A range over the lines of a text: the law of the statement, and the walk of the iterator. -/
import Derived.RangeFuncNested
import Derived.RangeFuncBound
import Derived.RangeFuncCalls
import Derived.RangeFuncLeaves
import Derived.Shelf.Abstract
import Derived.Shelf.RegionOpen
import Derived.WalkKit
import Derived.OwnWalkIn
import Derived.TacticsInMore
import Derived.LoopNIn
import Derived.LoopIn
import Derived.Lib.CutLaws
import Derived.Lib.IndexLaws
import Derived.Lib.IndexBytes
import Derived.Outline
import Derived.Test.YtffifljfbeaodaaDoorShelf
import Derived.Test.YtffifljfbeaodaaDoorFa
namespace Go.Proofs.YtffifljfbeaodaaDoor
open Go.RowKit Go.Shelf
attribute [local go_sem] Oper.semAt_some

/-- Blocks that were there are as they were, but for the captured text's, and the loop's two. -/
structure Turn (Bc D : Nat) (W W' : World) : Prop where
  os : W'.os = W.os
  tape : W'.tape = W.tape
  output : W'.output = W.output
  size : W.heap.size ≤ W'.heap.size
  block : ∀ q, q < W.heap.size → q ≠ Bc → q ≠ D → q ≠ D + 1 → W'.heap[q]? = W.heap[q]?
theorem Turn.putObj {Bc D : Nat} (W : World) (l : Nat) (o : Obj) (h : l = Bc ∨ l = D ∨ l = D + 1) : Turn Bc D W (W.putObj l o) :=
  ⟨rfl, rfl, rfl, by simp, fun q _ h1 h2 h3 => World.putObj_heap_other (by omega)⟩
theorem Turn.alloc {Bc D : Nat} (W : World) (o : Obj) : Turn Bc D W (W.alloc o) := ⟨rfl, rfl, rfl, by simp, fun q hq _ _ _ => Below.heap_alloc _ _ _ hq⟩
theorem Turn.trans {Bc D : Nat} {a b c : World} (h : Turn Bc D a b) (k : Turn Bc D b c) : Turn Bc D a c :=
  ⟨k.os.trans h.os, k.tape.trans h.tape, k.output.trans h.output, Nat.le_trans h.size k.size, fun q hq h1 h2 h3 => (k.block q (Nat.lt_of_lt_of_le hq h.size) h1 h2 h3).trans (h.block q hq h1 h2 h3)⟩
theorem Turn.below {Bc D : Nat} {W W' : World} (h : Below W.heap.size W W') : Turn Bc D W W' := ⟨h.os, h.tape, h.output, h.size, fun q hq _ _ _ => h.block q hq⟩
theorem Turn.setCell {Bc D : Nat} (W : World) (i : Nat) (v : Value) : Turn Bc D W (W.setCell ⟨Bc, i, none⟩ v) :=
  ⟨rfl, rfl, rfl, by simp [World.setCell], fun q _ h1 _ _ => Below.heap_setCell _ _ _ _ h1⟩

/-- What a round keeps. -/
structure RKeep (Bc D : Nat) (W W' : World) : Prop where
  txt : W'.heap[Bc]? = W.heap[Bc]?
  dfr : W'.heap[D]? = W.heap[D]?
  lop : W'.heap[D + 1]? = W.heap[D + 1]?

/-- What is known ahead of a round. -/
structure LSt (I : Nat → Fx.Bs → World → Prop) (Bc D : Nat) (L : Loop) (k : Nat) (r : Fx.Bs) (W : World) : Prop where
  inv : I k r W
  txt : ∃ s : ByteArray, s.data.toList = r ∧ s.size ≤ 100000 ∧ W.heap[Bc]? = some (.cells #[.string s] 9 (0, 0))
  dfr : W.heap[D]? = some (.deferred (some []))
  lop : W.heap[D + 1]? = some (.loop L)

theorem LSt.turn {I : Nat → Fx.Bs → World → Prop} {Bc D : Nat} {L : Loop} {k : Nat} {r : Fx.Bs} {W W' : World} (hI : ∀ k r W W', I k r W → Turn Bc D W W' → I k r W') (h : LSt I Bc D L k r W) (hb : Below W.heap.size W W') : LSt I Bc D L k r W' := by
  obtain ⟨s, h1, h2, h3⟩ := h.txt
  exact ⟨hI _ _ _ _ h.inv (Turn.below hb), ⟨s, h1, h2, (hb.block _ (Array.getElem?_eq_some_iff.1 h3).1).trans h3⟩, (hb.block _ (Array.getElem?_eq_some_iff.1 h.dfr).1).trans h.dfr, (hb.block _ (Array.getElem?_eq_some_iff.1 h.lop).1).trans h.lop⟩

/-- How long the captured text is. -/
def textAt (Bc : Nat) (W : World) : Nat := match W.cell? ⟨Bc, 0, none⟩ with
  | some (.string s) => s.size
  | _ => 0

theorem size_list (s : ByteArray) : s.data.toList.length = s.size := by rw [Array.length_toList]; rfl
theorem cut_text (l : Fx.Bs) : (Lib.cut l [10]).1 = Fx.lineOf l ∧ (Lib.cut l [10]).2.1 = Fx.restOf l := by
  unfold Lib.cut
  rw [Lib.index_one]
  have hi : ∀ (l : Fx.Bs), Lib.indexByte l 10 = if (10 : UInt8) ∈ l then ((l.takeWhile (· != 10)).length : Int) else -1 := by
    intro l
    induction l with
    | nil => rfl
    | cons c l ih =>
      unfold Lib.indexByte
      by_cases hc : c = 10
      · subst hc; simp
      · have h1 : (c == 10) = false := by simpa using hc
        have h2 : (c != 10) = true := by simpa using hc
        rw [h1]
        simp only [List.takeWhile_cons, h2, if_true, List.length_cons, ih, Bool.false_eq_true, if_false]
        by_cases hm : (10 : UInt8) ∈ l
        · have : (10 : UInt8) ∈ c :: l := by simp [hm]
          rw [if_pos hm, if_pos this]
          simp <;> omega
        · have : (10 : UInt8) ∉ c :: l := by simp [hm, Ne.symm hc]
          rw [if_neg hm, if_neg this]; rfl
  rw [hi]
  have key : ∀ l : Fx.Bs, l.dropWhile (· != 10) = l.drop (l.takeWhile (· != 10)).length := by
    intro l
    induction l with
    | nil => rfl
    | cons c l ih => rw [List.dropWhile_cons, List.takeWhile_cons]; split <;> simp_all
  by_cases hm : (10 : UInt8) ∈ l
  · rw [if_pos hm, if_pos (by omega)]
    unfold Fx.restOf Fx.lineOf
    rw [key l, List.drop_drop]
    refine ⟨?_, by simp⟩
    simp only [Int.toNat_natCast]
    exact (List.prefix_iff_eq_take.1 (List.takeWhile_prefix _)).symm
  · rw [if_neg hm, if_neg (by omega)]
    obtain ⟨h1, h2⟩ := Fx.line_all hm
    exact ⟨h1.symm, h2.symm⟩

set_option maxRecDepth 100000 in
set_option maxHeartbeats 2000000 in
/-- The iterator over a text's lines. -/
theorem lines1_in (I J : Nat → Fx.Bs → World → Prop) (Bc D : Nat) (L : Loop)
    (hI : ∀ k r W W', I k r W → Turn Bc D W W' → I k r W') (hIG : ∀ k r W, I k r W → W.ShapedOpen Tryd.prog)
    (hY : ∀ k (t : ByteArray) r W, LSt I Bc D L k r W → r ≠ [] → t.data.toList = Fx.lineOf r → YieldAt Fence.wide 0 Tryd.prog (D + 1) #[.int .i64 k, .string t] W fun e W' =>
      (e = .returned (.bool true) ∧ I (k + 1) (Fx.restOf r) W' ∧ W'.heap[Bc]? = W.heap[Bc]? ∧ W'.heap[D]? = some (.deferred (some [])) ∧ W'.heap[D + 1]? = some (.loop L)) ∨ (e = .returned (.bool false) ∧ ∃ k r, J k r W'))
    (W0 : World) (s0 : Fx.Bs) (h0 : LSt I Bc D L 0 s0 W0) :
    CallsIn Fence.wide 0 Tryd.prog 29 #[.func (.yield (D + 1)) #[] #[], .pointer (some ⟨Bc, 0, none⟩)] W0 fun e W' => (∃ v, e = .returned v) ∧
      ((∃ k, LSt I Bc D L k [] W') ∨ (∃ k r, J k r W')) := by
  have hs0 : s0.length ≤ 100000 := by
    obtain ⟨s, h1, h2, _⟩ := h0.txt
    rw [← h1, size_list]; exact h2
  refine callsIn_of_wp Tryd.func29 rfl trivial ?_
  simp only [Tryd.ntmps29, List.size_toArray, List.length_cons, List.length_nil, Nat.reduceAdd, Nat.reduceSub, Array.replicate_succ, Array.replicate_zero, List.push_toArray, List.append_toArray, List.nil_append, List.cons_append]
  gi_wp2
  gi_loopw [3] (fun i wr => ∃ (k : Nat) (r : Fx.Bs), k + r.length ≤ s0.length ∧ i = .int .i64 k ∧ LSt I Bc D L k r wr) (fun _ wr => textAt Bc wr)
  case atStart => exact ⟨0, s0, by omega, rfl, h0⟩
  case round =>
    obtain ⟨k, r, hkr, rfl, S⟩ := hrel
    obtain ⟨s, hsr, hss, hB⟩ := S.txt
    have hc : wr.cell? ⟨Bc, 0, none⟩ = some (.string s) := by simp [World.cell?, hB]
    by_cases he : s.toList = []
    · have he2 : (!s.toList.isEmpty) = false := by simp [he]
      have hr0 : r = [] := by rw [← hsr, ← Lib.toList_data]; exact he
      subst hr0
      gi_wp2
      go_end0
      exact ⟨⟨_, rfl⟩, .inl ⟨k, S⟩⟩
    · have he2 : (!s.toList.isEmpty) = true := by simp [he]
      have HG := hIG _ _ _ S.inv
      have hrn : r ≠ [] := by rw [← hsr, ← Lib.toList_data]; exact he
      have HR : Hid (r ≠ [] ∧ s.data.toList = r) := ⟨hrn, hsr⟩
      have hlen : r.length = s.size := by rw [← hsr, size_list]
      have hkb : (k : Int) ≤ 100000 := by omega
      have hrl := Fx.rest_len hrn
      clear hsr hrn
      gi_wp2
      refine ⟨trivial, rfl, (callsIn_wide.2 (Tryd.strings_Cut_shaped s ⟨#[10]⟩ wr HG (by omega))).mono ?_⟩
      rintro e w1 ⟨rfl, n, rfl⟩
      obtain ⟨t1, ht1⟩ : ∃ t : ByteArray, t = ⟨(Lib.cut s.data.toList (⟨#[10]⟩ : ByteArray).data.toList).1.toArray⟩ := ⟨_, rfl⟩
      obtain ⟨t2, ht2⟩ : ∃ t : ByteArray, t = ⟨(Lib.cut s.data.toList (⟨#[10]⟩ : ByteArray).data.toList).2.1.toArray⟩ := ⟨_, rfl⟩
      rw [← ht1, ← ht2]
      have H1 : Hid (t1.data.toList = Fx.lineOf r) := by show _ = _; rw [ht1, HR.out.2]; exact (cut_text r).1
      have H2 : Hid (t2.data.toList = Fx.restOf r) := by show _ = _; rw [ht2, HR.out.2]; exact (cut_text r).2
      have hb : Below wr.heap.size wr (wr.drewN n) := ⟨rfl, rfl, rfl, Nat.le_refl _, fun _ _ => rfl⟩
      have S1 := S.turn hI hb
      have ht2s : t2.size < s.size := by rw [← size_list, H2.out, ← hlen]; exact hrl
      obtain ⟨fn, tmps, assign, body, hy, hR⟩ := hY k t1 r _ S1 HR.out.1 H1.out
      clear ht1 ht2 HG hc he he2
      gi_wp2
      refine ⟨rfl, hR.mono ?_⟩
      rintro e W3 (⟨rfl, hI3, hB3, hD3, hL3⟩ | ⟨rfl, hJ3⟩)
      · have hB3' : W3.heap[Bc]? = some (.cells #[.string s] 9 (0, 0)) := hB3.trans hB
        have hc3 : W3.cell? ⟨Bc, 0, none⟩ = some (.string s) := by simp [World.cell?, hB3']
        have hf3 : W3.frozen? ⟨Bc, 0, none⟩ = false := by simp [World.frozen?, hB3']
        have T := Turn.setCell (Bc := Bc) (D := D) W3 0 (.string t2)
        have hblt := (Array.getElem?_eq_some_iff.1 hB3').1
        have hBn : (W3.setCell ⟨Bc, 0, none⟩ (.string t2)).heap[Bc]? = some (.cells #[.string t2] 9 (0, 0)) := by
          simp [World.setCell, Array.getElem?_modify, hB3']
        have hBD : Bc ≠ D := fun e => by rw [e, hD3] at hB3'; cases hB3'
        have hBL : Bc ≠ D + 1 := fun e => by rw [e, hL3] at hB3'; cases hB3'
        gi_wp2
        go_roundw
        case rel =>
          refine ⟨k + 1, Fx.restOf r, by omega, by go_num, hI _ _ _ _ hI3 T, ⟨t2, H2.out, by omega, hBn⟩, ?_, ?_⟩
          · rw [Below.heap_setCell _ _ _ _ (Ne.symm hBD)]; exact hD3
          · rw [Below.heap_setCell _ _ _ _ (Ne.symm hBL)]; exact hL3
        case measure =>
          have e1 : textAt Bc wr = s.size := by simp [textAt, World.cell?, hB]
          have e2 : textAt Bc (W3.setCell ⟨Bc, 0, none⟩ (.string t2)) = t2.size := by simp [textAt, World.cell?, hBn]
          rw [e1, e2]; exact ht2s
      · gi_wp2
        refine bodyPost_ret (results_none rfl _ _ _) rfl ?_
        exact ⟨⟨_, rfl⟩, .inr hJ3⟩

/-- THE LAW of the statement 'for i, line := range lines(s) { .. }'. -/
theorem lines_range {g : Operand} {p0 p1 : Tmp} {assign body : Code} {Q : Exit → Act → World → Prop} {a : Act} {w : World} {Bc : Nat} {s : ByteArray} (hs : s.size ≤ 100000)
    (hg : a.eval g = .func (.func 29) #[] #[.pointer (some ⟨Bc, 0, none⟩)]) (hB : w.heap[Bc]? = some (.cells #[.string s] 9 (0, 0)))
    (I J : Nat → Fx.Bs → World → Prop)
    (hI : ∀ k r W W', I k r W → Turn Bc w.heap.size W W' → I k r W') (hJ : ∀ k r W W', J k r W → Turn Bc w.heap.size W W' → J k r W') (hIG : ∀ k r W, I k r W → W.ShapedOpen Tryd.prog)
    (h0 : I 0 s.data.toList w) (a₁ : Nat → ByteArray → Act)
    (hassign : ∀ (l k : Nat) (t : ByteArray) (W : World) (K : Act → World → Prop), K (a₁ k t) W →
      assign.wpIn (Fence.wide.inRound l) 0 Tryd.prog (Exit.then K (fun _ _ _ => False)) { tmps := (a.tmps.setIfInBounds p0 (.int .i64 k)).setIfInBounds p1 (.string t), defers := [] } W)
    (hbody : ∀ (l k : Nat) (t : ByteArray) (r : Fx.Bs) (W : World), I k r W → r ≠ [] → t.data.toList = Fx.lineOf r → w.heap.size + 2 ≤ W.heap.size →
      (∃ o, W.heap[Bc]? = some o) → (∃ ds, W.heap[w.heap.size]? = some (.deferred ds)) → (∃ L, W.heap[w.heap.size + 1]? = some (.loop L)) →
      body.wpIn (Fence.wide.inRound l) 0 Tryd.prog (fun e _ W' => match e with
        | .normal => RKeep Bc w.heap.size W W' ∧ I (k + 1) (Fx.restOf r) W'
        | .ret => RKeep Bc w.heap.size W W' ∧ J k r W'
        | _ => False) (a₁ k t) W)
    (hdone : ∀ (k : Nat) (W : World), I k [] W → W.heap[w.heap.size]? = some (.deferred (some [])) → Q .normal { a with defers := { target := .collected w.heap.size, args := #[] } :: a.defers } W)
    (hstop : ∀ (k : Nat) (r : Fx.Bs) (W : World), J k r W → W.heap[w.heap.size]? = some (.deferred (some [])) → Code.ret.wpIn Fence.wide 0 Tryd.prog Q { a with defers := { target := .collected w.heap.size, args := #[] } :: a.defers } W) :
    (Code.rangeFunc g #[p0, p1] assign body).wpIn Fence.wide 0 Tryd.prog Q a w := by
  refine wpIn_rangeFunc fun fn _ => ?_
  obtain ⟨R, hR⟩ : ∃ R : LoopState → Option Code → Loop, R = fun st pe => { state := st, pending := pe, fn, tmps := a.tmps, params := #[p0, p1], assign, body, defers := w.heap.size } := ⟨_, rfl⟩
  obtain ⟨W1, hW1⟩ : ∃ W1, W1 = (w.alloc (.deferred (some []))).alloc (.loop (R .ready none)) := ⟨_, rfl⟩
  have hlt := (Array.getElem?_eq_some_iff.1 hB).1
  have kL : W1.heap[w.heap.size + 1]? = some (.loop (R .ready none)) := by
    rw [hW1]; have := World.alloc_heap_new (w.alloc (.deferred (some []))) (.loop (R .ready none)); rwa [World.size_alloc] at this
  have kD : W1.heap[w.heap.size]? = some (.deferred (some [])) := by
    rw [hW1, Below.heap_alloc _ _ _ (by simp)]; exact World.alloc_heap_new w _
  have kB : W1.heap[Bc]? = some (.cells #[.string s] 9 (0, 0)) := by
    rw [hW1, Below.heap_alloc _ _ _ (by simp; omega), Below.heap_alloc _ _ _ hlt]; exact hB
  have hbell : Turn Bc w.heap.size w W1 := by rw [hW1]; exact (Turn.alloc w _).trans (Turn.alloc _ _)
  have S0 : LSt I Bc w.heap.size (R .ready none) 0 s.data.toList W1 := ⟨hI _ _ _ _ h0 hbell, ⟨s, rfl, hs, kB⟩, kD, kL⟩
  refine ⟨w.heap.size + 1, [{ target := .collected w.heap.size, args := #[] }], W1, { target := .fn (.func 29) #[.pointer (some ⟨Bc, 0, none⟩)], args := #[.func (.yield (w.heap.size + 1)) #[] #[]] }, W1, 29,
    #[.func (.yield (w.heap.size + 1)) #[] #[], .pointer (some ⟨Bc, 0, none⟩)], W1, ?_, ?_, fun _ _ => trivial, ?_, (fun h => (by cases h)), ?_⟩
  · rw [hW1, hR]; exact run_enterLoop_outer _ _ _ _ _
  · simp only [resolve, hg]
    simp [go_sem]
  · simp [invoke, go_sem]
  · refine (lines1_in I (fun k r W => J k r W ∧ W.heap[w.heap.size]? = some (.deferred (some [])) ∧ W.heap[w.heap.size + 1]? = some (.loop (R .done (some .ret)))) Bc w.heap.size (R .ready none) hI hIG ?_ W1 _ S0).mono ?_
    · intro k t r W S hr ht
      obtain ⟨o, _, _, hBW⟩ := S.txt
      have hBn : Bc < w.heap.size := hlt
      have hyl := run_yield (P := Tryd.prog) (args := #[.int .i64 k, .string t]) S.lop (by rw [hR]; rfl)
      have hsl : w.heap.size + 1 < W.heap.size := (Array.getElem?_eq_some_iff.1 S.lop).1
      refine ⟨fn, _, assign, body, by rw [hyl, hR], roundIn_of_wpIn trivial ?_⟩
      rw [hR]
      have htm : ∀ ts : Array Value, ((#[p0, p1] : Array Tmp).zip #[Value.int .i64 (k : Int), .string t]).foldl (fun tmps (t, a) => tmps.setIfInBounds t a) ts = (ts.setIfInBounds p0 (.int .i64 k)).setIfInBounds p1 (.string t) := fun ts => by simp
      dsimp only
      erw [htm]
      refine hassign _ k t W _ ?_
      refine ⟨_, run_beginRound S.lop (by rw [hR]), ?_⟩
      obtain ⟨W2, hW2⟩ : ∃ W2, W2 = W.putObj (w.heap.size + 1) (.loop { R .ready none with state := .busy }) := ⟨_, rfl⟩
      rw [← hW2]
      have h2 : ∀ q, q ≠ w.heap.size + 1 → W2.heap[q]? = W.heap[q]? := fun q hq => by rw [hW2]; exact World.putObj_heap_other hq
      have hL2 : W2.heap[w.heap.size + 1]? = some (.loop { R .ready none with state := .busy }) := by rw [hW2]; exact World.putObj_heap_same hsl
      have T2 : Turn Bc w.heap.size W W2 := by rw [hW2]; exact Turn.putObj W _ _ (.inr (.inr rfl))
      refine wpIn_mono (hbody _ k t r W2 (hI _ _ _ _ S.inv T2) hr ht (by have := T2.size; omega) ⟨_, (h2 Bc (by omega)).trans hBW⟩ ⟨_, (h2 w.heap.size (by omega)).trans S.dfr⟩ ⟨_, hL2⟩) ?_
      intro e a3 W3 hp
      have fin : RKeep Bc w.heap.size W2 W3 → ∀ jump : Option Code, (Instr.endRound (w.heap.size + 1) jump).run Tryd.prog W3 = .ok (.bool jump.isNone) (W3.putObj (w.heap.size + 1) (.loop (R (if jump.isNone then .ready else .done) jump))) ∧
          w.heap.size + 1 < W3.heap.size := fun hk jump => by
        have hl3 := hk.lop.trans hL2
        have := run_endRound (P := Tryd.prog) jump hl3
        rw [hR] at this ⊢
        exact ⟨this, (Array.getElem?_eq_some_iff.1 hl3).1⟩
      cases e with
      | normal =>
        obtain ⟨hk, hi3⟩ := hp
        obtain ⟨hr3, hl3⟩ := fin hk none
        refine ⟨_, _, hr3, .inl ⟨rfl, hI _ _ _ _ hi3 (Turn.putObj W3 _ _ (.inr (.inr rfl))), ?_, ?_, (World.putObj_heap_same hl3).trans (by rw [hR]; rfl)⟩⟩
        · rw [World.putObj_heap_other (by omega), hk.txt, h2 Bc (by omega)]
        · rw [World.putObj_heap_other (by omega), hk.dfr, h2 _ (by omega)]; exact S.dfr
      | ret =>
        obtain ⟨hk, hj3⟩ := hp
        obtain ⟨hr3, hl3⟩ := fin hk (some .ret)
        refine ⟨_, _, hr3, .inr ⟨rfl, k, r, hJ _ _ _ _ hj3 (Turn.putObj W3 _ _ (.inr (.inr rfl))), ?_, (World.putObj_heap_same hl3).trans (by rw [hR]; rfl)⟩⟩
        rw [World.putObj_heap_other (by omega), hk.dfr, h2 _ (by omega)]; exact S.dfr
      | exit id => exact hp.elim
      | goto t => exact hp.elim
      | panic ch => exact hp.elim
      | outgrown => exact hp.elim
    · rintro e W2 ⟨⟨v, rfl⟩, (⟨k, S⟩ | ⟨k, r, hj, hd, hl⟩)⟩
      · have hpn : (R .ready none).pending = none := by rw [hR]
        have he := run_endLoop (P := Tryd.prog) S.lop (by rw [hR]; simp)
        rw [hpn] at he
        refine ⟨none, _, he, hdone k _ (hI _ _ _ _ S.inv (Turn.putObj W2 _ _ (.inr (.inr rfl)))) ?_⟩
        rw [World.putObj_heap_other (by omega)]; exact S.dfr
      · have hpn : (R .done (some .ret)).pending = some .ret := by rw [hR]
        have he := run_endLoop (P := Tryd.prog) hl (by rw [hR]; simp)
        rw [hpn] at he
        refine ⟨some .ret, _, he, hstop k r _ (hJ _ _ _ _ hj (Turn.putObj W2 _ _ (.inr (.inr rfl)))) ?_⟩
        rw [World.putObj_heap_other (by omega)]; exact hd
end Go.Proofs.YtffifljfbeaodaaDoor
