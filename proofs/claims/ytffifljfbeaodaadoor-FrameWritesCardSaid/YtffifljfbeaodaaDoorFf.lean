/- frame.Read: the walk. -/
import Derived.Test.YtffifljfbeaodaaDoorFe
import Derived.Test.YtffifljfbeaodaaDoorFr
namespace Go.Proofs.YtffifljfbeaodaaDoor
open Go.RowKit Go.Shelf
attribute [local go_sem] Oper.semAt_some

theorem lines_any (s : ByteArray) (w : World) : Calls Tryd.prog 15 #[.string s] w fun e w' => e = .returned (.func (.func 29) #[] #[.pointer (some ⟨w.heap.size, 0, none⟩)]) ∧ w' = w.alloc (.cells #[.string s] 9) := by
  go_enter Tryd.func15, Tryd.ntmps15
  go_wp2_with fail
  go_ret
  exact ⟨rfl, rfl⟩

/-! ### rows that a function lays -/
theorem row_kept {w w' : World} {base e size n : Nat} {v : Value} {xs : List Value} (h : w.ownsRow base e size v n xs) (hk : ∀ g, base ≤ g → v.ownBlock = some g → g < w.heap.size → w'.heap[g]? = w.heap[g]?) : w'.ownsRow base e size v n xs := by
  refine ⟨h.1, ?_⟩
  rcases h.2 with h0 | ⟨g, cap, cur, rfl, hb, hg, rest⟩
  · exact Or.inl h0
  · exact Or.inr ⟨g, cap, cur, rfl, hb, (hk g hb rfl (Array.getElem?_eq_some_iff.1 hg).1).trans hg, rest⟩
theorem row_apart {w : World} {base e e' size size' n n' : Nat} {v v' : Value} {xs xs' : List Value} (h : w.ownsRow base e size v n xs) (h' : w.ownsRow base e' size' v' n' xs') (he : e ≠ e') : v.ownBlock = none ∨ v.ownBlock ≠ v'.ownBlock := by
  rcases h.2 with ⟨rfl, _⟩ | ⟨g, cap, cur, rfl, hb, hg, rest⟩
  · exact Or.inl rfl
  · right
    rcases h'.2 with ⟨rfl, _⟩ | ⟨g', cap', cur', rfl, hb', hg', rest'⟩
    · simp [Value.ownBlock]
    · simp only [Value.ownBlock, ne_eq, Option.some.injEq]
      rintro rfl
      rw [hg] at hg'; simp at hg'; exact he hg'.2
def Rw (base : Nat) (W : World) (v : Value) (done : List (List Int)) : Prop :=
  ∃ vs : List Value, W.ownsRow base 22 1 v done.length vs ∧ ∀ (i : Nat) (u : Value) (r : List Int), vs[i]? = some u → done[i]? = some r → W.ownsRow base 3 1 u r.length (r.flatMap intC)
theorem Rw.kept {base : Nat} {W W' : World} {v : Value} {done : List (List Int)} (h : Rw base W v done) (hk : ∀ g, base ≤ g → g < W.heap.size → W'.heap[g]? = W.heap[g]?) : Rw base W' v done := by
  obtain ⟨vs, h1, h2⟩ := h
  exact ⟨vs, row_kept h1 (fun g hg _ hl => hk g hg hl), fun i u r hu hr => row_kept (h2 i u r hu hr) (fun g hg _ hl => hk g hg hl)⟩
theorem Rw.rs {base : Nat} {W : World} {v : Value} {done : List (List Int)} (h : Rw base W v done) : Rs W v done := by
  obtain ⟨vs, h1, h2⟩ := h
  have hl : vs.length = done.length := by have := h1.1; omega
  exact ⟨vs, Sl.own oneC_len (by rw [flat_one]; exact h1) hl, hl, fun i u r hu hr => Sl.own intC_len (h2 i u r hu hr) rfl⟩
theorem Rw.form {base : Nat} {W : World} {v : Value} {done : List (List Int)} (h : Rw base W v done) : ∃ ad c, v = .slice ad done.length c := by
  obtain ⟨vs, h1, _⟩ := h
  rcases h1.2 with ⟨rfl, h0⟩ | ⟨g, cap, cur, rfl, _⟩
  · exact ⟨none, 0, by rw [h0]⟩
  · exact ⟨_, _, rfl⟩
theorem rowI : RowTy Tryd.prog 22 3 1 8 := RowTy.mk' Tryd.underlying22 (z := .int .i64 0) (by kernel_rfl) rfl (by decide)
theorem rowR : RowTy Tryd.prog 24 22 1 24 := RowTy.mk' Tryd.underlying24 (z := .slice none 0 0) (by kernel_rfl) rfl (by decide)

/-! ### what Read answers -/
def rdMany (T : List Int) (s : Fx.Bs) : Bool := decide (100000 < s.length) || decide (200 < T.length)
def rdRows (T : List Int) (s : Fx.Bs) : List (List Int) := if rdMany T s then [] else (Fx.readS T s).1
def rdEr (T : List Int) (s : Fx.Bs) : Int := if rdMany T s then 7 else if (Fx.readS T s).2 then 17 else 0
def rdAt (T : List Int) (s : Fx.Bs) : Int := if rdMany T s then -1 else if (Fx.readS T s).2 then (Fx.readS T s).1.length else 0
def ReadRes (T : List Int) (s : Fx.Bs) (w : World) (e : Ending) (w' : World) : Prop :=
  ∃ (v : Value) (er at_ : Int), e = .returned (.tuple #[v, .agg #[.int .i64 er, .int .i64 at_]]) ∧ Below w.heap.size w w' ∧ Rs w' v (rdRows T s) ∧ er = rdEr T s ∧ at_ = rdAt T s

/-! ### between two lines -/
structure RI (w : World) (T : List Int) (vt : Value) (s : Fx.Bs) (k : Nat) (r : Fx.Bs) (W : World) : Prop where
  below : Below w.heap.size w W
  bt : Blk W w.heap.size #[vt] 22
  b0 : Blk W (w.heap.size + 1) #[.slice none 0 0] 24
  b1 : Blk W (w.heap.size + 2) #[.int .i64 0, .int .i64 0] 27
  rows : ∃ v done, Blk W (w.heap.size + 3) #[v] 24 ∧ Rw (w.heap.size + 7) W v done ∧ done.length = k ∧ Fx.readS T s = (done ++ (Fx.readS T r).1, (Fx.readS T r).2)
  len : k + r.length ≤ s.length
structure RJ (w : World) (T : List Int) (s : Fx.Bs) (k : Nat) (W : World) : Prop where
  below : Below w.heap.size w W
  b0 : ∃ v done, Blk W (w.heap.size + 1) #[v] 24 ∧ Rw (w.heap.size + 7) W v done ∧ done.length = k ∧ Fx.readS T s = (done, true)
  b1 : Blk W (w.heap.size + 2) #[.int .i64 17, .int .i64 k] 27
theorem Blk.turn {Bc D b T : Nat} {cs : Array Value} {W W' : World} (h : Blk W b cs T) (t : Turn Bc D W W') (h1 : b ≠ Bc) (h2 : b ≠ D) (h3 : b ≠ D + 1) : Blk W' b cs T := (t.block b h.lt h1 h2 h3).trans h
theorem turn_below {w W W' : World} {Bc D : Nat} (hb : Below w.heap.size w W) (t : Turn Bc D W W') (h1 : w.heap.size ≤ Bc) (h2 : w.heap.size ≤ D) : Below w.heap.size w W' :=
  ⟨t.os.trans hb.os, t.tape.trans hb.tape, t.output.trans hb.output, Nat.le_trans hb.size t.size, fun k hk => (t.block k (Nat.lt_of_lt_of_le hk hb.size) (by omega) (by omega) (by omega)).trans (hb.block k hk)⟩
theorem RI.turn {w : World} {T : List Int} {vt : Value} {s : Fx.Bs} {k : Nat} {r : Fx.Bs} {W W' : World} (h : RI w T vt s k r W) (t : Turn (w.heap.size + 4) (w.heap.size + 5) W W') : RI w T vt s k r W' := by
  obtain ⟨v, done, h1, h2, h3, h4⟩ := h.rows
  exact ⟨turn_below h.below t (by omega) (by omega), h.bt.turn t (by omega) (by omega) (by omega), h.b0.turn t (by omega) (by omega) (by omega), h.b1.turn t (by omega) (by omega) (by omega),
    ⟨v, done, h1.turn t (by omega) (by omega) (by omega), h2.kept (fun g hg hl => t.block g hl (by omega) (by omega) (by omega)), h3, h4⟩, h.len⟩
theorem RJ.turn {w : World} {T : List Int} {s : Fx.Bs} {k : Nat} {W W' : World} (h : RJ w T s k W) (t : Turn (w.heap.size + 4) (w.heap.size + 5) W W') : RJ w T s k W' := by
  obtain ⟨v, done, h1, h2, h3, h4⟩ := h.b0
  exact ⟨turn_below h.below t (by omega) (by omega), ⟨v, done, h1.turn t (by omega) (by omega) (by omega), h2.kept (fun g hg hl => t.block g hl (by omega) (by omega) (by omega)), h3, h4⟩, h.b1.turn t (by omega) (by omega) (by omega)⟩

theorem Blk.set20 {W : World} {b T : Nat} {x y : Value} (h : Blk W b #[x, y] T) (z : Value) : Blk (W.setCell ⟨b, 0, none⟩ z) b #[z, y] T := by
  unfold Blk at h ⊢
  simp [World.setCell, Array.getElem?_modify, h]
theorem Blk.set21 {W : World} {b T : Nat} {x y : Value} (h : Blk W b #[x, y] T) (z : Value) : Blk (W.setCell ⟨b, 1, none⟩ z) b #[x, z] T := by
  unfold Blk at h ⊢
  simp [World.setCell, Array.getElem?_modify, h]

/-- The way out. -/
theorem read_end {w V : World} {T : List Int} {s : Fx.Bs} {v : Value} {l : List (List Int)} {er at_ : Int} (hb : Below w.heap.size w V) (hD : V.heap[w.heap.size + 5]? = some (.deferred (some [])))
    (h0 : Blk V (w.heap.size + 1) #[v] 24) (h1 : Blk V (w.heap.size + 2) #[.int .i64 er, .int .i64 at_] 27) (hR : Rw (w.heap.size + 7) V v l)
    (ts : Array Value) (h4 : ts.getD 4 undef = .pointer (some ⟨w.heap.size + 1, 0, none⟩)) (h5 : ts.getD 5 undef = .pointer (some ⟨w.heap.size + 2, 0, none⟩))
    (hq : rdRows T s = l ∧ rdEr T s = er ∧ rdAt T s = at_) :
    bodyPostM Fence.wide 0 Tryd.prog Tryd.f10 (ReadRes T s w) .ret { tmps := ts, defers := [{ target := .collected (w.heap.size + 5), args := #[] }] } V := by
  obtain ⟨V', hV'⟩ : ∃ V', V' = V.putObj (w.heap.size + 5) (.deferred none) := ⟨_, rfl⟩
  have hk : ∀ q, q ≠ w.heap.size + 5 → V'.heap[q]? = V.heap[q]? := fun q hq => by rw [hV']; exact World.putObj_heap_other hq
  have g0 : Blk V' (w.heap.size + 1) #[v] 24 := (hk _ (by omega)).trans h0
  have g1 : Blk V' (w.heap.size + 2) #[.int .i64 er, .int .i64 at_] 27 := (hk _ (by omega)).trans h1
  refine ⟨by simp, .inl ⟨_, _, rfl, run_takeDeferred hD, ?_⟩⟩
  rw [← hV']
  obtain ⟨ad, vc, rfl⟩ := hR.form
  obtain ⟨c0, -⟩ := one_cell g0
  obtain ⟨c1, c2, -, -⟩ := two_cells g1
  have hR' : Rw (w.heap.size + 7) V' _ l := hR.kept (fun g hg _ => hk g (by omega))
  have hB' : Below w.heap.size w V' := by
    refine ⟨?_, ?_, ?_, ?_, fun k hlt => (hk k (by omega)).trans (hb.block k hlt)⟩
    · rw [hV']; exact hb.os
    · rw [hV']; exact hb.tape
    · rw [hV']; exact hb.output
    · rw [hV']; simpa using hb.size
  simp only [Array.getD_eq_getD_getElem?] at h4 h5
  refine ⟨.tuple #[.slice ad l.length vc, .agg #[.int .i64 er, .int .i64 at_]], ?_, ?_⟩
  · simp [results, Tryd.results10, go_sem, h4, h5, c0, c1, c2]
  · exact ⟨_, _, _, rfl, hB', by rw [hq.1]; exact hR'.rs, hq.2.1.symm, hq.2.2.symm⟩

theorem drop_cons {α : Type} {l : List α} {j : Nat} {x : α} (h : l[j]? = some x) : l.drop j = x :: l.drop (j + 1) := by
  obtain ⟨hl, he⟩ := List.getElem?_eq_some_iff.1 h
  rw [List.drop_eq_getElem_cons hl, he]
theorem sum_mem {α : Type} (f : α → Nat) : ∀ {l : List α} {x : α}, x ∈ l → f x ≤ (l.map f).sum
  | a :: l, x, h => by
    simp only [List.map_cons, List.sum_cons]
    rcases List.mem_cons.1 h with rfl | h
    · omega
    · have := sum_mem f h; omega
theorem below_drawn1 {w w' : World} (h : Below w.drew.heap.size w.drew w') : Below w.heap.size w w' := ⟨h.os, h.tape, h.output, h.size, h.block⟩
theorem below_grown' {B : Nat} {w w' : World} {row : Option Nat} (h : w.grownBy w' row) (hB : B ≤ w.heap.size) (hr : ∀ q, row = some q → B ≤ q) : Below B w w' :=
  ⟨h.os, h.tape, h.output, h.size, fun k hk => h.block k (by omega) (fun e => by have := hr k e.symm; omega)⟩

theorem readS_cons {T : List Int} {r : Fx.Bs} {acc : List Int} (hr : r ≠ []) (h : Fx.readRow T (Fx.lineOf r) = some acc) : Fx.readS T r = (acc :: (Fx.readS T (Fx.restOf r)).1, (Fx.readS T (Fx.restOf r)).2) := by
  unfold Fx.readS
  rw [Fx.lines_cons hr]
  simp only [Fx.readLs, h]
theorem readS_stop {T : List Int} {r : Fx.Bs} (hr : r ≠ []) (h : Fx.readRow T (Fx.lineOf r) = none) : Fx.readS T r = ([], true) := by
  unfold Fx.readS
  rw [Fx.lines_cons hr]
  simp only [Fx.readLs, h]

/-- A line that is a row: one row more. -/
theorem RI.next {w W wr w4 : World} {T : List Int} {vt : Value} {s : Fx.Bs} {k : Nat} {r : Fx.Bs} (S : RI w T vt s k r wr) (hW : Below W.heap.size W wr) (hsz : w.heap.size + 7 ≤ W.heap.size) {v0 row : Value} {done : List (List Int)} {vs : List Value} {acc : List Int} {g cap : Nat}
    (B3 : Blk wr (w.heap.size + 3) #[v0] 24) (h1 : wr.ownsRow (w.heap.size + 7) 22 1 v0 k vs) (h2 : ∀ (i : Nat) (u : Value) (r : List Int), vs[i]? = some u → done[i]? = some r → wr.ownsRow (w.heap.size + 7) 3 1 u r.length (r.flatMap intC)) (hk : done.length = k) (hq : Fx.readS T s = (done ++ (Fx.readS T r).1, (Fx.readS T r).2))
    (hrow : wr.ownsRow (w.heap.size + 7) 3 1 row acc.length (acc.flatMap intC)) (hr : r ≠ []) (hacc : Fx.readRow T (Fx.lineOf r) = some acc)
    (hown : w4.ownsRow (w.heap.size + 7) 22 1 (.slice (some ⟨g, 0, none⟩) (k + 1) cap) (k + 1) (vs ++ [row])) (hgrow : (wr.alloc (.cells #[row] 22)).grownBy w4 v0.ownBlock) :
    RKeep (w.heap.size + 4) (w.heap.size + 5) W (w4.setCell ⟨w.heap.size + 3, 0, none⟩ (.slice (some ⟨g, 0, none⟩) (k + 1) cap)) ∧ RI w T vt s (k + 1) (Fx.restOf r) (w4.setCell ⟨w.heap.size + 3, 0, none⟩ (.slice (some ⟨g, 0, none⟩) (k + 1) cap)) := by
  have hwr : w.heap.size + 7 ≤ wr.heap.size := Nat.le_trans hsz hW.size
  have hlow : ∀ q, v0.ownBlock = some q → w.heap.size + 7 ≤ q := fun q hq => (h1.lt q hq).1
  have hb4 : Below (w.heap.size + 7) wr w4 := (((Below.refl _ _).alloc hwr _)).trans (below_grown' hgrow (by simp; omega) hlow)
  have k4 : ∀ q, q < w.heap.size + 7 → w4.heap[q]? = wr.heap[q]? := fun q hq => hb4.block q hq
  have k5 : ∀ q, q < w.heap.size + 7 → q ≠ w.heap.size + 3 → (w4.setCell ⟨w.heap.size + 3, 0, none⟩ (.slice (some ⟨g, 0, none⟩) (k + 1) cap)).heap[q]? = wr.heap[q]? := fun q hq hne => by
    rw [Below.heap_setCell _ _ _ _ hne]; exact k4 q hq
  have k6 : ∀ q, q < w.heap.size + 7 → q ≠ w.heap.size + 3 → (w4.setCell ⟨w.heap.size + 3, 0, none⟩ (.slice (some ⟨g, 0, none⟩) (k + 1) cap)).heap[q]? = W.heap[q]? := fun q hq hne => (k5 q hq hne).trans (hW.block q (by omega))
  have hlv : vs.length = k := by have := h1.1; omega
  refine ⟨⟨k6 _ (by omega) (by omega), k6 _ (by omega) (by omega), k6 _ (by omega) (by omega)⟩, ⟨?_, (k5 _ (by omega) (by omega)).trans S.bt, (k5 _ (by omega) (by omega)).trans S.b0, (k5 _ (by omega) (by omega)).trans S.b1, ?_, ?_⟩⟩
  · exact (S.below.trans (hb4.mono (by omega))).setCell (by simp) _
  · refine ⟨_, done ++ [acc], (show Blk w4 _ #[v0] _ from (k4 _ (by omega)).trans B3).set1 _, ⟨vs ++ [row], ?_, fun i u r' hu hr' => ?_⟩, by simp [hk], ?_⟩
    · rw [show (done ++ [acc]).length = k + 1 by simp [hk]]
      exact ownsRow_setCell_below hown (by simp) _
    · refine ownsRow_setCell_below ?_ (by simp) _
      have up : ∀ {u : Value} {r' : List Int}, wr.ownsRow (w.heap.size + 7) 3 1 u r'.length (r'.flatMap intC) → w4.ownsRow (w.heap.size + 7) 3 1 u r'.length (r'.flatMap intC) := fun {u r'} h =>
        (h.alloc _).kept hgrow (row_apart (h.alloc (.cells #[row] 22)) (h1.alloc _) (by decide))
      by_cases hi : i < k
      · rw [List.getElem?_append_left (by omega)] at hu hr'
        exact up (h2 i u r' hu hr')
      · have hik : i = k := by
          have := (List.getElem?_eq_some_iff.1 hu).1
          simp at this; omega
        subst hik
        rw [List.getElem?_append_right (by omega)] at hu hr'
        simp [hlv] at hu; simp [hk] at hr'
        subst hu hr'
        exact up hrow
    · rw [hq, readS_cons hr hacc]; simp
  · have h1 := Fx.rest_len hr
    have h2 := S.len
    omega
/-- A line that is none. -/
theorem RI.stop {w W wr : World} {T : List Int} {vt : Value} {s : Fx.Bs} {k : Nat} {r : Fx.Bs} (S : RI w T vt s k r wr) (hW : Below W.heap.size W wr) (hsz : w.heap.size + 7 ≤ W.heap.size) {v0 : Value} {done : List (List Int)}
    (hR : Rw (w.heap.size + 7) wr v0 done) (hk : done.length = k) (hq : Fx.readS T s = (done ++ (Fx.readS T r).1, (Fx.readS T r).2)) (hr : r ≠ []) (hacc : Fx.readRow T (Fx.lineOf r) = none) :
    RKeep (w.heap.size + 4) (w.heap.size + 5) W (((wr.setCell ⟨w.heap.size + 1, 0, none⟩ v0).setCell ⟨w.heap.size + 2, 0, none⟩ (.int .i64 17)).setCell ⟨w.heap.size + 2, 1, none⟩ (.int .i64 k)) ∧
      RJ w T s k (((wr.setCell ⟨w.heap.size + 1, 0, none⟩ v0).setCell ⟨w.heap.size + 2, 0, none⟩ (.int .i64 17)).setCell ⟨w.heap.size + 2, 1, none⟩ (.int .i64 k)) := by
  have k5 : ∀ q, q ≠ w.heap.size + 1 → q ≠ w.heap.size + 2 → (((wr.setCell ⟨w.heap.size + 1, 0, none⟩ v0).setCell ⟨w.heap.size + 2, 0, none⟩ (.int .i64 17)).setCell ⟨w.heap.size + 2, 1, none⟩ (.int .i64 k)).heap[q]? = wr.heap[q]? := fun q h1 h2 => by
    rw [Below.heap_setCell _ _ _ _ h2, Below.heap_setCell _ _ _ _ h2, Below.heap_setCell _ _ _ _ h1]
  have k6 : ∀ q, q < w.heap.size + 7 → q ≠ w.heap.size + 1 → q ≠ w.heap.size + 2 → (((wr.setCell ⟨w.heap.size + 1, 0, none⟩ v0).setCell ⟨w.heap.size + 2, 0, none⟩ (.int .i64 17)).setCell ⟨w.heap.size + 2, 1, none⟩ (.int .i64 k)).heap[q]? = W.heap[q]? := fun q hq h1 h2 => (k5 q h1 h2).trans (hW.block q (by omega))
  refine ⟨⟨k6 _ (by omega) (by omega) (by omega), k6 _ (by omega) (by omega) (by omega), k6 _ (by omega) (by omega) (by omega)⟩, ⟨((S.below.setCell (by simp) _).setCell (by simp) _).setCell (by simp) _, ⟨v0, done, ((S.b0.set1 _).other 0 (by omega) _).other 1 (by omega) _, hR.kept (fun g hg _ => k5 g (by omega) (by omega)), hk, by rw [hq, readS_stop hr hacc]; simp⟩, Blk.set21 (Blk.set20 (S.b1.other 0 (by omega) _) _) _⟩⟩

set_option maxRecDepth 100000 in
set_option maxHeartbeats 4000000 in
theorem Read_small (T : List Int) (vt : Value) (s : ByteArray) (hs : s.size ≤ 100000) (hT : T.length ≤ 200) (w : World) (G : Gl w) (ht : Sl intC 1 w vt T) :
    Calls Tryd.prog 10 #[vt, .string s] w (ReadRes T s.data.toList w) := by
  obtain ⟨ta, tc, rfl, htc, hcell⟩ := ht.form
  obtain ⟨n, hn⟩ : ∃ n, n = T.length := ⟨_, rfl⟩
  rw [← hn] at htc hT ⊢
  have HN : Hid (n = T.length) := hn
  clear hn ht
  have a1 := Blk.new w #[.slice ta n tc] 22
  have a2 := Blk.new (w.alloc (.cells #[.slice ta n tc] 22)) #[.slice none 0 0] 24
  have a3 := Blk.new ((w.alloc (.cells #[.slice ta n tc] 22)).alloc (.cells #[.slice none 0 0] 24)) #[.int .i64 0, .int .i64 0] 27
  have a4 := Blk.new (((w.alloc (.cells #[.slice ta n tc] 22)).alloc (.cells #[.slice none 0 0] 24)).alloc (.cells #[.int .i64 0, .int .i64 0] 27)) #[.slice none 0 0] 24
  have a5 := Blk.new ((((w.alloc (.cells #[.slice ta n tc] 22)).alloc (.cells #[.slice none 0 0] 24)).alloc (.cells #[.int .i64 0, .int .i64 0] 27)).alloc (.cells #[.slice none 0 0] 24)) #[.string s] 9
  have HW : Hid (∀ W1 W0, W1 = (((w.alloc (.cells #[.slice ta n tc] 22)).alloc (.cells #[.slice none 0 0] 24)).alloc (.cells #[.int .i64 0, .int .i64 0] 27)).alloc (.cells #[.slice none 0 0] 24) → W0 = W1.alloc (.cells #[.string s] 9) →
      W0.heap.size = w.heap.size + 5 ∧ Below w.heap.size w W0 ∧ Blk W0 w.heap.size #[.slice ta n tc] 22 ∧ Blk W0 (w.heap.size + 1) #[.slice none 0 0] 24 ∧ Blk W0 (w.heap.size + 2) #[.int .i64 0, .int .i64 0] 27 ∧ Blk W0 (w.heap.size + 3) #[.slice none 0 0] 24 ∧ Blk W0 (w.heap.size + 4) #[.string s] 9) := by
    intro W1 W0 h1 h2
    subst h1
    subst h2
    simp only [World.size_alloc] at a2 a3 a4 a5
    have al : ∀ (W : World) (o : Obj), Below W.heap.size W (W.alloc o) := fun W o => (Below.refl _ _).alloc (Nat.le_refl _) _
    refine ⟨by simp, below_next (below_next (below_next (below_next (al _ _) (al _ _)) (al _ _)) (al _ _)) (al _ _), ?_, ?_, ?_, ?_, a5⟩
    · exact (((a1.below (al _ _)).below (al _ _)).below (al _ _)).below (al _ _)
    · exact ((a2.below (al _ _)).below (al _ _)).below (al _ _)
    · exact (a3.below (al _ _)).below (al _ _)
    · exact a4.below (al _ _)
  clear a1 a2 a3 a4 a5
  refine (callsIn_wide (n := 0)).1 ?_
  refine callsIn_of_wp_marks Tryd.func10 rfl trivial ?_ rfl
  simp only [Tryd.ntmps10, List.size_toArray, List.length_cons, List.length_nil, Nat.reduceAdd, Nat.reduceSub, Array.replicate_succ, Array.replicate_zero, List.push_toArray, List.append_toArray, List.nil_append, List.cons_append]
  gi_wp2
  refine ⟨trivial, rfl, (callsIn_wide.2 (lines_any s _)).mono ?_⟩
  rintro e W0 ⟨rfl, hW0⟩
  obtain ⟨W1, hW1⟩ : ∃ W1, W1 = (((w.alloc (.cells #[.slice ta n tc] 22)).alloc (.cells #[.slice none 0 0] 24)).alloc (.cells #[.int .i64 0, .int .i64 0] 27)).alloc (.cells #[.slice none 0 0] 24) := ⟨_, rfl⟩
  have hsz1 : W1.heap.size = w.heap.size + 4 := by rw [hW1]; simp
  rw [← hW1] at hW0 ⊢
  rw [hsz1]
  obtain ⟨hsz, hb0, B0, B1, B2, B3, B4⟩ := HW.out W1 W0 hW1 hW0
  clear hW0 hW1 hsz1 HW
  gi_wp2
  rw [show w.heap.size + 1 + 1 + 1 = w.heap.size + 3 from rfl, show w.heap.size + 1 + 1 = w.heap.size + 2 from rfl]
  refine lines_range (Bc := w.heap.size + 4) (s := s) hs rfl B4 (fun k r W => RI w T (.slice ta n tc) s.data.toList k r W) (fun k _ W => RJ w T s.data.toList k W)
    (fun k r W W' h t => h.turn (by rw [hsz] at t; exact t)) (fun k r W W' h t => h.turn (by rw [hsz] at t; exact t)) (fun k r W h => (G.below h.below).shaped)
    ⟨hb0, B0, B1, B2, ⟨_, [], B3, ⟨[], World.ownsRow_nil _ _ _ _, fun i u r hu => by simp at hu⟩, rfl, by simp⟩, by simp⟩ ?a1 ?assign ?body ?done ?stop
  case assign =>
    intro l k t W K hK
    gi_wp2
    exact hK
  case body =>
    intro l k t r W S hr ht hsz2 hB hD hL
    rw [hsz] at hsz2 hD hL
    rw [hsz]
    clear hb0 B0 B1 B2 B3 B4 hB hD hL
    have htl : t.size ≤ 100000 := by
      have h1 : (Fx.lineOf r).length ≤ r.length := (List.takeWhile_prefix _).length_le
      have h2 := S.len
      rw [← list_size, ht]; rw [list_size] at h2; omega
    have hkl : (k : Int) ≤ 100000 := by have h2 := S.len; rw [list_size] at h2; omega
    have HT : Hid (t.data.toList = Fx.lineOf r ∧ r ≠ []) := ⟨ht, hr⟩
    have hGW := G.below S.below
    clear ht hr
    gi_wp2
    refine ⟨trivial, rfl, ((callsIn_wide.2 (words_any t htl W hGW)).inRound l).mono ?_⟩
    rintro e W1 ⟨v, rfl, hb1, hv⟩
    obtain ⟨la, lc, rfl, hlc, hlcell⟩ := hv.form
    have hWL := wordsB_data t
    obtain ⟨m, hm⟩ : ∃ m, m = (wordsB t).length := ⟨_, rfl⟩
    rw [← hm] at hlc ⊢
    have HM : Hid (m = (wordsB t).length) := hm
    have hmb : m ≤ 100001 := by
      have h1 := Fx.words_sum t.data.toList
      have h2 : ∀ l : List Fx.Bs, l.length ≤ (l.map (fun w => w.length + 1)).sum := by
        intro l; induction l with
        | nil => simp
        | cons a l ih => simp; omega
      have h3 := h2 (Fx.words t.data.toList)
      rw [← hWL, List.length_map, ← hm, hWL] at h3
      rw [list_size] at h1; omega
    obtain ⟨cT, -⟩ := one_cell (S.bt.below hb1)
    clear hm hv
    by_cases hmn : m = n
    · subst hmn
      have hne : ((m : Int) != (m : Int)) = false := by simp
      gi_wp2
      gi_loopw [10, 11, 12] (fun wrong row i wr => ∃ (j : Nat) (acc : List Int), i = .int .i64 j ∧ j ≤ m ∧ Below W1.heap.size W1 wr ∧ wr.ownsRow W1.heap.size 3 1 row acc.length (acc.flatMap intC) ∧
          ((wrong = .bool false ∧ acc.length = j ∧ Fx.readZ T (Fx.words t.data.toList) = (Fx.readZ (T.drop j) ((Fx.words t.data.toList).drop j)).map (acc ++ ·)) ∨ (wrong = .bool true ∧ Fx.readZ T (Fx.words t.data.toList) = none)))
        (fun _ _ i _ => m - (intOf i).toNat)
      case atStart => exact ⟨0, [], rfl, Nat.zero_le _, Below.refl _ _, World.ownsRow_nil _ _ _ _, Or.inl ⟨rfl, rfl, by simp⟩⟩
      case round =>
        obtain ⟨j, acc, rfl, hj, hB2, hrow, hor⟩ := hrel
        rcases hor with ⟨rfl, hal, hz⟩ | ⟨rfl, hz⟩
        · by_cases hlt : j < m
          · obtain ⟨x, hx⟩ : ∃ x, T[j]? = some x := ⟨_, List.getElem?_eq_getElem (by have := HN.out; omega)⟩
            obtain ⟨y, hy⟩ : ∃ y, (wordsB t)[j]? = some y := ⟨_, List.getElem?_eq_getElem (by have := HM.out; omega)⟩
            have hjm : (j : Int) < (m : Int) := by omega
            have hb01 : Below w.heap.size w wr := (S.below.trans (hb1.mono S.below.size)).trans (hB2.mono (by have := S.below.size; have := hb1.size; omega))
            have cT2 : wr.cell? ⟨w.heap.size, 0, none⟩ = some (.slice ta m tc) := (hB2.cell (p := ⟨w.heap.size, 0, none⟩) (by have := hb1.size; simp; omega)).trans cT
            obtain ⟨xb, xo, rfl, hxc⟩ := hcell wr hb01 j x hx
            obtain ⟨yb, yo, rfl, hyc⟩ := hlcell wr hB2 j y hy
            have cx := hxc 0 _ rfl
            have cy := hyc 0 _ rfl
            simp only [Nat.mul_one, Nat.add_zero] at cx cy
            have HXY : Hid (T.drop j = x :: T.drop (j + 1) ∧ (Fx.words t.data.toList).drop j = y.data.toList :: (Fx.words t.data.toList).drop (j + 1)) := by
              refine ⟨drop_cons hx, drop_cons ?_⟩
              rw [← hWL, List.getElem?_map, hy]; rfl
            have hys : y.size ≤ 100000 := by
              have h1 : y.data.toList ∈ Fx.words t.data.toList := by rw [← hWL]; exact List.mem_map_of_mem (List.mem_of_getElem? hy)
              have h2 := sum_mem (fun w : Fx.Bs => w.length + 1) h1
              have h3 := Fx.words_sum t.data.toList
              simp only [list_size] at h2 h3; omega
            have HC : Hid (CallsIn Fence.wide 0 Tryd.prog 17 #[.int .i64 x, .string y] wr.drew (ReadPost x y wr.drew)) := by
              refine callsIn_wide.2 (read_any x y hys _ ?_)
              exact (G.below hb01).below ⟨rfl, rfl, rfl, Nat.le_refl _, fun _ _ => rfl⟩
            have HZ : Hid (_ = _) := hz
            have HWL : Hid (_ = _) := hWL
            clear hxc hyc hcell hlcell hx hy hz hWL hlc htl hkl hGW
            gi_wp2
            refine region_round (by kernel_rfl) (by kernel_rfl) ?_
            repeat' (first
              | (refine wpAnyIn_take (i := 1) (v := ?_) rfl rfl (by kernel_rfl) (by decide +kernel) (by decide +kernel) (fun _ _ _ h => h) ⟨Or.inl ⟨by rfl, ?_⟩, fun _ => rfl⟩ ?_; rotate_left 1; focus (intro w; go_simp; try with_reducible rfl))
              | (refine wpAnyIn_take (i := 4) (v := ?_) rfl rfl (by kernel_rfl) (by decide +kernel) (by decide +kernel) (fun _ _ _ h => h) ⟨Or.inl ⟨by rfl, ?_⟩, fun _ => rfl⟩ ?_; rotate_left 1; focus (intro w; go_simp; try with_reducible rfl))
              | (refine wpAnyIn_take (i := 5) (v := ?_) rfl rfl (by kernel_rfl) (by decide +kernel) (by decide +kernel) (fun _ _ _ h => h) ⟨Or.inl ⟨by rfl, ?_⟩, fun _ => rfl⟩ ?_; rotate_left 1; focus (intro w; go_simp; try with_reducible rfl))
              | (refine wpAnyIn_take (i := 6) (v := ?_) rfl rfl (by kernel_rfl) (by decide +kernel) (by decide +kernel) (fun _ _ _ h => h) ⟨Or.inl ⟨by rfl, ?_⟩, fun _ => rfl⟩ ?_; rotate_left 1; focus (intro w; go_simp; try with_reducible rfl))
              | (refine wpAnyIn_take (i := 2) (v := ?_) rfl rfl (by kernel_rfl) (by decide +kernel) (by decide +kernel) (fun _ _ _ h => h) ⟨Or.inl ⟨by rfl, ?_⟩, fun _ => rfl⟩ ?_; rotate_left 1; focus (intro w; go_simp; try with_reducible rfl))
              | (refine wpAnyIn_ready (rs := [0, 7]) (by decide +kernel) (by simp) (AllReadyIn.cons rfl (fun K hK => ?_) (AllReadyIn.cons rfl (fun K hK => ?_) AllReadyIn.nil)); all_goals (go_simp; refine hK _ _ ?_; clear hK K))
              | (refine wpAnyIn_ready (rs := [3, 7]) (by decide +kernel) (by simp) (AllReadyIn.cons rfl (fun K hK => ?_) (AllReadyIn.cons rfl (fun K hK => ?_) AllReadyIn.nil)); all_goals (go_simp; refine hK _ _ ?_; clear hK K))
              | (refine wpAnyIn_ready (rs := [0]) (by decide +kernel) (by simp) (AllReadyIn.cons rfl (fun K hK => ?_) AllReadyIn.nil); all_goals (go_simp; refine hK _ _ ?_; clear hK K))
              | (refine wpAnyIn_ready (rs := [7]) (by decide +kernel) (by simp) (AllReadyIn.cons rfl (fun K hK => ?_) AllReadyIn.nil); all_goals (go_simp; refine hK _ _ ?_; clear hK K))
              | (refine wpAnyIn_ready (rs := [3]) (by decide +kernel) (by simp) (AllReadyIn.cons rfl (fun K hK => ?_) AllReadyIn.nil); all_goals (go_simp; refine hK _ _ ?_; clear hK K))
              | fail)
            all_goals
              refine wpAnyIn_ready (rs := [8]) (by decide +kernel) (by simp) (AllReadyIn.cons rfl (fun K hK => ?_) AllReadyIn.nil)
              go_simp
              refine ⟨trivial, rfl, HC.out.mono ?_⟩
              rintro e w3 ⟨nn, bb, rfl, hb3, hbe, hnn⟩
              refine hK _ _ ?_
              clear hK K
              repeat' (first
                | (refine wpAnyIn_take (i := 9) (v := ?_) rfl rfl (by kernel_rfl) (by decide +kernel) (by decide +kernel) (fun _ _ _ h => h) ⟨Or.inl ⟨by rfl, ?_⟩, fun _ => rfl⟩ ?_; rotate_left 1; focus (intro w; go_simp; try with_reducible rfl))
                | (refine wpAnyIn_take (i := 10) (v := ?_) rfl rfl (by kernel_rfl) (by decide +kernel) (by decide +kernel) (fun _ _ _ h => h) ⟨Or.inl ⟨by rfl, ?_⟩, fun _ => rfl⟩ ?_; rotate_left 1; focus (intro w; go_simp; try with_reducible rfl))
                | (refine wpAnyIn_take (i := 11) (v := ?_) rfl rfl (by kernel_rfl) (by decide +kernel) (by decide +kernel) (fun _ _ _ h => h) ⟨Or.inl ⟨by rfl, ?_⟩, fun _ => rfl⟩ ?_; rotate_left 1; focus (intro w; go_simp; try with_reducible rfl))
                | (refine wpAnyIn_take (i := 12) (v := ?_) rfl rfl (by kernel_rfl) (by decide +kernel) (by decide +kernel) (fun _ _ _ h => h) ⟨Or.inl ⟨by rfl, ?_⟩, fun _ => rfl⟩ ?_; rotate_left 1; focus (intro w; go_simp; try with_reducible rfl))
                | (refine wpAnyIn_take (i := 13) (v := ?_) rfl rfl (by kernel_rfl) (by decide +kernel) (by decide +kernel) (fun _ _ _ h => h) ⟨Or.inl ⟨by rfl, ?_⟩, fun _ => rfl⟩ ?_; rotate_left 1; focus (intro w; go_simp; try with_reducible rfl))
                | fail)
              refine wpAnyIn_done (by decide +kernel) ?_ _
              have hb13 : Below W1.heap.size W1 w3 := hB2.trans ((below_drawn1 hb3).mono hB2.size)
              have hr3 : w3.ownsRow W1.heap.size 3 1 u11 acc.length (acc.flatMap intC) := row_kept hrow (fun g _ _ hl => hb3.block g hl)
              have hw3 : W1.heap.size ≤ w3.heap.size := hb13.size
              have HB : Hid (bb = _) := hbe
              have HNN : Hid (∀ m, _ → nn = m) := hnn
              clear hbe hnn hrow
              gi_wp2_with (gi_at_builtin; refine wpListIn_app rowI rfl _ _ rfl W1.heap.size _ _ _ rfl (hr3.alloc _) ⟨w3.heap.size, 0, none⟩ 1 [.int .i64 nn] rfl rfl (cell_one_new _ _ _) (by simp [Value.oneCell']) (by omega) (by simp; omega) ?_)
              intro g cap w4 hown hgrow
              have hb14 : Below W1.heap.size W1 w4 := (hb13.alloc (by omega) _).trans (below_grown' hgrow (by simp; omega) (fun q hq => (hr3.lt q hq).1))
              clear hgrow hr3
              gi_wp2
              go_roundw
              case rel =>
                have hrd : Fx.readZ (T.drop j) ((Fx.words t.data.toList).drop j) = (match Fx.readW x y.data.toList with
                    | some n => match Fx.readZ (T.drop (j + 1)) ((Fx.words t.data.toList).drop (j + 1)) with
                      | some l => some (n :: l)
                      | none => none
                    | none => none) := by rw [HXY.out.1, HXY.out.2]; rfl
                refine ⟨j + 1, acc ++ [nn], by go_num, by omega, hb14, by simpa [hal, List.flatMap_append, intC] using hown, ?_⟩
                cases hw : Fx.readW x y.data.toList with
                | none =>
                  refine Or.inr ⟨rfl, ?_⟩
                  rw [HZ.out, hrd, hw]; rfl
                | some n' =>
                  refine Or.inl ⟨rfl, by simp [hal], ?_⟩
                  rw [HZ.out, hrd, hw, HNN.out n' hw]
                  cases Fx.readZ (T.drop (j + 1)) ((Fx.words t.data.toList).drop (j + 1)) <;> simp
              case measure => simp [intOf]; omega
          · have hjm : j = m := by omega
            subst hjm
            have hAcc : Hid (Fx.readRow T (Fx.lineOf r) = some acc) := by
              show _ = _
              rw [← HT.out.1]
              unfold Fx.readRow
              have e1 : T.drop j = [] := by rw [List.drop_eq_nil_iff]; have := HN.out; omega
              have e2 : (Fx.words t.data.toList).drop j = [] := by rw [List.drop_eq_nil_iff, ← hWL, List.length_map]; have := HM.out; omega
              rw [hz, e1, e2]; simp [Fx.readZ]
            have hbW := hb1.trans (hB2.mono hb1.size)
            have S2 := S.turn (Turn.below hbW)
            obtain ⟨v0, done, C3, ⟨vs, hR1, hR2⟩, hk, hq⟩ := S2.rows
            rw [hk] at hR1
            have hrow7 := hrow.mono (show w.heap.size + 7 ≤ W1.heap.size by have := hb1.size; omega)
            obtain ⟨c3, f3⟩ := one_cell C3
            have hkn : k + 1 ≤ 100001 := by omega
            have HNX : Hid (∀ (w4 : World) (g cap : Nat), w4.ownsRow (w.heap.size + 7) 22 1 (.slice (some ⟨g, 0, none⟩) (k + 1) cap) (k + 1) (vs ++ [u11]) → (wr.alloc (.cells #[u11] 22)).grownBy w4 v0.ownBlock → _ ∧ _) :=
              fun w4 g cap hown hgrow => RI.next S2 hbW (by omega) C3 hR1 hR2 hk hq hrow7 HT.out.2 hAcc.out hown hgrow
            have hu11 : ∃ ad len cap, u11 = .slice ad len cap := by
              rcases hrow.2 with ⟨h, _⟩ | ⟨g, cap, cur, h, _⟩ <;> exact ⟨_, _, _, h⟩
            have hv0 : ∃ ad len cap, v0 = .slice ad len cap := by
              rcases hR1.2 with ⟨h, _⟩ | ⟨g, cap, cur, h, _⟩ <;> exact ⟨_, _, _, h⟩
            obtain ⟨ad1, len1, cap1, rfl⟩ := hu11
            obtain ⟨ad2, len2, cap2, rfl⟩ := hv0
            have hwr7 : w.heap.size + 7 ≤ wr.heap.size := by have := hbW.size; omega
            have HLOW : Hid (∀ q, (Value.slice ad2 len2 cap2).ownBlock = some q → w.heap.size + 7 ≤ q) := fun q hq => (hR1.lt q hq).1
            have HC3 : Hid (Blk wr (w.heap.size + 3) #[.slice ad2 len2 cap2] 24) := C3
            clear hrow hz hR2 hq S2 C3 hcell hlcell S hrow7 hWL
            gi_wp2_with (gi_at_builtin; refine wpListIn_app rowR rfl _ _ rfl (w.heap.size + 7) _ _ _ rfl (hR1.alloc _) ⟨wr.heap.size, 0, none⟩ 1 [.slice ad1 len1 cap1] rfl rfl (cell_one_new _ _ _) (by simp [Value.oneCell']) (by omega) (by simp; omega) ?_)
            intro g cap w4 hown hgrow
            have hC4 : Blk w4 (w.heap.size + 3) #[.slice ad2 len2 cap2] 24 := (hgrow.block _ (by simp; omega) (fun q => by have := HLOW.out _ q.symm; omega)).trans (HC3.out.below ((Below.refl _ _).alloc (Nat.le_refl _) _))
            obtain ⟨c4, f4⟩ := one_cell hC4
            have HF : Hid (_ ∧ _) := HNX.out w4 g cap hown hgrow
            clear hown hgrow hC4 c3 f3
            gi_wp2
            exact HF.out
        · have hAcc : Hid (Fx.readRow T (Fx.lineOf r) = none) := by
            show _ = _
            rw [← HT.out.1]; exact hz
          have hu11 : ∃ ad len cap, u11 = .slice ad len cap := by
            rcases hrow.2 with ⟨h, _⟩ | ⟨g, cap, cur, h, _⟩ <;> exact ⟨_, _, _, h⟩
          obtain ⟨ad1, len1, cap1, rfl⟩ := hu11
          clear hrow
          have hbW := hb1.trans (hB2.mono hb1.size)
          have S2 := S.turn (Turn.below hbW)
          obtain ⟨v0, done, C3, hR, hk, hq⟩ := S2.rows
          obtain ⟨c3, f3⟩ := one_cell C3
          obtain ⟨c0, f0⟩ := one_cell S2.b0
          obtain ⟨c1, c2, f1, f2⟩ := two_cells S2.b1
          have HST : Hid (_ ∧ _) := RI.stop S2 hbW (by omega) hR hk hq HT.out.2 hAcc.out
          obtain ⟨ad2, len2, rfl⟩ := hR.form
          rw [hk] at HST c3
          clear hR hq S2 C3 hcell hlcell S hWL
          gi_wp2
          all_goals exact HST.out
    · have hne : ((m : Int) != (n : Int)) = true := by simp; omega
      have hAcc : Hid (Fx.readRow T (Fx.lineOf r) = none) := by
        show _ = _
        rw [← HT.out.1]
        cases hq : Fx.readRow T t.data.toList with
        | none => rfl
        | some l =>
          have h1 := (Fx.readZ_len hq).2
          rw [← hWL, List.length_map] at h1
          have h2 := HM.out; have h3 := HN.out
          omega
      gi_wp2
      gi_loopw [10, 11, 12] (fun wrong row i wr => wrong = .bool true ∧ row = .slice none 0 0 ∧ i = .int .i64 0 ∧ wr = W1) (fun _ _ i _ => m - (intOf i).toNat)
      case atStart => exact ⟨rfl, rfl, rfl, rfl⟩
      case round =>
        obtain ⟨rfl, rfl, rfl, hwr⟩ := hrel
        have hB2 : Below W1.heap.size W1 wr := by rw [hwr]; exact Below.refl _ _
        clear hwr
        have hbW := hb1.trans (hB2.mono hb1.size)
        have S2 := S.turn (Turn.below hbW)
        obtain ⟨v0, done, C3, hR, hk, hq⟩ := S2.rows
        obtain ⟨c3, f3⟩ := one_cell C3
        obtain ⟨c0, f0⟩ := one_cell S2.b0
        obtain ⟨c1, c2, f1, f2⟩ := two_cells S2.b1
        have HST : Hid (_ ∧ _) := RI.stop S2 hbW (by omega) hR hk hq HT.out.2 hAcc.out
        obtain ⟨ad2, len2, rfl⟩ := hR.form
        rw [hk] at HST c3
        clear hR hq S2 C3 hcell hlcell S hWL
        gi_wp2
        all_goals exact HST.out
  case done =>
    intro k W S hD
    rw [hsz] at hD ⊢
    obtain ⟨v, done, C3, hR, hk, hq⟩ := S.rows
    obtain ⟨ad, vc, rfl⟩ := hR.form
    rw [hk] at C3 hR
    have C0 := S.b0
    have C1 := S.b1
    obtain ⟨c3, f3⟩ := one_cell C3
    obtain ⟨c0, f0⟩ := one_cell C0
    obtain ⟨c1, c2, f1, f2⟩ := two_cells C1
    have hbW := S.below
    have HQ : Hid (Fx.readS T s.data.toList = (done, false)) := by
      show _ = _
      rw [hq]; simp [Fx.readS, Fx.lines_nil, Fx.readLs]
    have BN : Below w.heap.size w (((W.setCell ⟨w.heap.size + 1, 0, none⟩ (.slice ad k vc)).setCell ⟨w.heap.size + 2, 0, none⟩ (.int .i64 0)).setCell ⟨w.heap.size + 2, 1, none⟩ (.int .i64 0)) :=
      ((hbW.setCell (by simp) _).setCell (by simp) _).setCell (by simp) _
    have d0 : Blk (((W.setCell ⟨w.heap.size + 1, 0, none⟩ (.slice ad k vc)).setCell ⟨w.heap.size + 2, 0, none⟩ (.int .i64 0)).setCell ⟨w.heap.size + 2, 1, none⟩ (.int .i64 0)) (w.heap.size + 1) #[.slice ad k vc] 24 :=
      ((C0.set1 _).other 0 (by omega) _).other 1 (by omega) _
    have d1 : Blk (((W.setCell ⟨w.heap.size + 1, 0, none⟩ (.slice ad k vc)).setCell ⟨w.heap.size + 2, 0, none⟩ (.int .i64 0)).setCell ⟨w.heap.size + 2, 1, none⟩ (.int .i64 0)) (w.heap.size + 2) #[.int .i64 0, .int .i64 0] 27 :=
      Blk.set21 (Blk.set20 (C1.other 0 (by omega) _) _) _
    have dD : (((W.setCell ⟨w.heap.size + 1, 0, none⟩ (.slice ad k vc)).setCell ⟨w.heap.size + 2, 0, none⟩ (.int .i64 0)).setCell ⟨w.heap.size + 2, 1, none⟩ (.int .i64 0)).heap[w.heap.size + 5]? = some (.deferred (some [])) := by
      rw [Below.heap_setCell _ _ _ _ (by simp), Below.heap_setCell _ _ _ _ (by simp), Below.heap_setCell _ _ _ _ (by simp)]; exact hD
    have hRs : Rw (w.heap.size + 7) (((W.setCell ⟨w.heap.size + 1, 0, none⟩ (.slice ad k vc)).setCell ⟨w.heap.size + 2, 0, none⟩ (.int .i64 0)).setCell ⟨w.heap.size + 2, 1, none⟩ (.int .i64 0)) (.slice ad k vc) done := by
      refine hR.kept (fun g hg _ => ?_)
      rw [Below.heap_setCell _ _ _ _ (by simp; omega), Below.heap_setCell _ _ _ _ (by simp; omega), Below.heap_setCell _ _ _ _ (by simp; omega)]
    have hE := read_end (T := T) (s := s.data.toList) (er := 0) (at_ := 0) BN dD d0 d1 hRs
    clear S hq hb0 B0 B1 B2 B3 B4 hcell C0 C1 C3 hR BN d0 d1 dD hRs
    gi_wp2
    refine hE _ rfl rfl ?_
    have hm : rdMany T s.data.toList = false := by unfold rdMany; rw [list_size, ← HN.out]; simp; omega
    unfold rdRows rdEr rdAt
    rw [hm, HQ.out]; simp
  case stop =>
    intro k r W S hD
    rw [hsz] at hD ⊢
    obtain ⟨v, done, C0, hR, hk, hq⟩ := S.b0
    obtain ⟨ad, vc, rfl⟩ := hR.form
    have hE := read_end (T := T) (s := s.data.toList) S.below hD C0 S.b1 hR
    have HQ : Hid (Fx.readS T s.data.toList = (done, true)) := hq
    clear S hq hb0 B0 B1 B2 B3 B4 hcell C0 hR
    gi_wp2
    refine hE _ rfl rfl ?_
    have hm : rdMany T s.data.toList = false := by unfold rdMany; rw [list_size, ← HN.out]; simp; omega
    unfold rdRows rdEr rdAt
    rw [hm, HQ.out]; simp [hk]
end Go.Proofs.YtffifljfbeaodaaDoor
