/- Rows of expressions that a call made: the array, and each expression in it. Rows of things that hold rows; what the parts of a program are in memory. The reader of programs: signs, words, names: the walk. Programs are small: the plain mathematics. Are two programs the same: of programs that are: the walk. -/
import Derived.Deep.RegionHeld3
import Derived.Test.YtahalimekacliaaGreatDoorJ4
import Derived.Test.YtahalimekacliaaGreatDoorJ7
import Derived.Test.YtahalimekacliaaGreatDoorJ8
import Derived.Test.YtahalimekacliaaGreatDoorJ9
import Derived.Test.YtahalimekacliaaGreatDoorJ10
import Derived.Test.YtahalimekacliaaGreatDoorJ11
set_option linter.unusedVariables false
set_option linter.unusedSimpArgs false
namespace Go.Proofs.YtahalimekacliaaGreatDoor
open Go.RowKit Go.Shelf Tx
theorem rowE : RowTy Tryz.prog 52 51 1 24 := RowTy.mk' (z := .slice none 0 0) Tryz.underlying52 (by kernel_rfl) rfl (by omega)
theorem row_kept {w w' : World} {base e size n : Nat} {v : Value} {xs : List Value} (h : w.ownsRow base e size v n xs) (hk : ∀ g, base ≤ g → v.ownBlock = some g → g < w.heap.size → w'.heap[g]? = w.heap[g]?) : w'.ownsRow base e size v n xs := by
  refine ⟨h.1, ?_⟩
  rcases h.2 with h0 | ⟨g, cap, cur, rfl, hb, hg, rest⟩
  · exact Or.inl h0
  · exact Or.inr ⟨g, cap, cur, rfl, hb, (hk g hb rfl (Array.getElem?_eq_some_iff.1 hg).1).trans hg, rest⟩
theorem row_apart {w : World} {base base' e e' size size' n n' : Nat} {v v' : Value} {xs xs' : List Value} (h : w.ownsRow base e size v n xs) (h' : w.ownsRow base' e' size' v' n' xs') (he : e ≠ e') : v.ownBlock = none ∨ v.ownBlock ≠ v'.ownBlock := by
  rcases h.2 with ⟨rfl, _⟩ | ⟨g, cap, cur, rfl, hb, hg, rest⟩
  · exact Or.inl rfl
  · right
    rcases h'.2 with ⟨rfl, _⟩ | ⟨g', cap', cur', rfl, hb', hg', rest'⟩
    · simp [Value.ownBlock]
    · simp only [Value.ownBlock, ne_eq, Option.some.injEq]
      rintro rfl
      rw [hg] at hg'; simp at hg'; exact he hg'.2
def RwE (base : Nat) (W : World) (v : Value) (L : List (List Nd)) : Prop :=
  ∃ vs : List Value, W.ownsRow base 51 1 v L.length vs ∧ ∀ (i : Nat) (u : Value) (e : List Nd), vs[i]? = some u → L[i]? = some e → OwnE base W u e
section
variable {base : Nat} {W W' : World} {v : Value} {L : List (List Nd)}
theorem RwE.nil_ (base : Nat) (W : World) : RwE base W (.slice none 0 0) [] := ⟨[], World.ownsRow_nil _ _ _ _, fun i u e hu _ => by simp at hu⟩
theorem RwE.kept (h : RwE base W v L) (hk : ∀ g, base ≤ g → g < W.heap.size → W'.heap[g]? = W.heap[g]?) : RwE base W' v L := by
  obtain ⟨vs, h1, h2⟩ := h
  exact ⟨vs, row_kept h1 (fun g hg _ hl => hk g hg hl), fun i u e hu he => row_kept (h2 i u e hu he) (fun g hg _ hl => hk g hg hl)⟩
theorem RwE.below (h : RwE base W v L) (hb : Below W.heap.size W W') : RwE base W' v L := h.kept fun g _ hl => hb.block g hl
theorem RwE.fr {S : Nat → Prop} (h : RwE base W v L) (hf : Fr S W W') (hs : ∀ g, base ≤ g → ¬ S g) : RwE base W' v L := h.kept fun g hg hl => hf.block g hl (hs g hg)
theorem RwE.mono {b2 : Nat} (h : RwE base W v L) (hb : b2 ≤ base) : RwE b2 W v L := by
  obtain ⟨vs, h1, h2⟩ := h
  exact ⟨vs, World.ownsRow.mono h1 hb, fun i u e hu he => (h2 i u e hu he).mono hb⟩
theorem RwE.len (h : RwE base W v L) : ∃ a c, v = .slice a L.length c ∧ L.length ≤ c := by
  obtain ⟨vs, h1, _⟩ := h
  rcases h1.2 with ⟨rfl, h0⟩ | ⟨g, cap, cur, rfl, _, _, hc, _⟩
  · exact ⟨none, 0, by rw [h0], by omega⟩
  · exact ⟨_, _, rfl, hc⟩
theorem RwE.low (h : RwE base W v L) : ∀ g, v.ownBlock = some g → base ≤ g ∧ g < W.heap.size := by
  obtain ⟨vs, h1, _⟩ := h
  exact fun g hg => World.ownsRow.lt h1 g hg
theorem RwE.row (h : RwE base W v L) : ∃ vs : List Value, W.ownsRow base 51 1 v L.length vs ∧ (∀ (i : Nat) (u : Value) (e : List Nd), vs[i]? = some u → L[i]? = some e → OwnE base W u e) := h
theorem RwE.push {x : Value} {e : List Nd} {g cap k : Nat} {vs : List Value} (hk : L.length = k) (h1 : W.ownsRow base 51 1 v k vs)
    (h2 : ∀ (i : Nat) (u : Value) (e : List Nd), vs[i]? = some u → L[i]? = some e → OwnE base W u e) (hx : OwnE base W x e)
    (hown : W'.ownsRow base 51 1 (.slice (some ⟨g, 0, none⟩) (k + 1) cap) (k + 1) (vs ++ [x])) (hgrow : (W.alloc (.cells #[x] 51)).grownBy W' v.ownBlock) : RwE base W' (.slice (some ⟨g, 0, none⟩) (k + 1) cap) (L ++ [e]) := by
  have hlv : vs.length = k := by have := h1.1; omega
  refine ⟨vs ++ [x], by rw [show (L ++ [e]).length = k + 1 by simp [hk]]; exact hown, fun i u r' hu hr' => ?_⟩
  have up : ∀ {u : Value} {r' : List Nd}, OwnE base W u r' → OwnE base W' u r' := fun {u r'} h =>
    (World.ownsRow.alloc h _).kept hgrow (row_apart (World.ownsRow.alloc h (.cells #[x] 51)) (h1.alloc _) (by decide))
  by_cases hi : i < k
  · rw [List.getElem?_append_left (by omega)] at hu hr'
    exact up (h2 i u r' hu hr')
  · have hik : i = k := by
      have := (List.getElem?_eq_some_iff.1 hu).1
      simp at this; omega
    subst hik
    rw [List.getElem?_append_right (by omega)] at hu hr'
    simp [hlv] at hu; simp [hk] at hr'
    subst hu hr'
    exact up hx
theorem RwE.sg {β : Type} {P : World → List Value → β → Prop} {M : List β} {q : β → List Nd} (h : RwE base W v (M.map q)) (hP : ∀ u x, OwnE base W u (q x) → P W [u] x) : Sg 1 P W v M := by
  obtain ⟨vs, h1, h2⟩ := h
  have hl : vs.length = M.length := by have := h1.1; rw [List.length_map] at this; omega
  refine ⟨vs.map oneC, ?_, by simp [hl], fun i c x hc hx => ?_⟩
  · have h3 : Sl oneC 1 W v vs := Sl.own oneC_len (by rw [flat_one]; exact h1) (by rw [hl, List.length_map])
    rcases h3 with ⟨h4, a', c', h5⟩ | ⟨b, o, c', h4, h5, h6, h7⟩
    · exact Or.inl ⟨by rw [h4]; rfl, a', c', h5⟩
    · refine Or.inr ⟨b, o, c', by rw [List.length_map]; exact h4, by rw [List.length_map]; exact h5, h6, fun i x hi j u hu => ?_⟩
      rw [List.getElem?_map] at hi
      obtain ⟨y, hy, rfl⟩ := Option.map_eq_some_iff.1 hi
      exact h7 i y hy j u hu
  · rw [List.getElem?_map] at hc
    obtain ⟨u, hu, rfl⟩ := Option.map_eq_some_iff.1 hc
    exact hP u x (h2 i u (q x) hu (by rw [List.getElem?_map, hx]; rfl))
end
theorem Gr.fr {S : Nat → Prop} {w w1 w2 : World} {v v' : Value} (h : Fr S w w1) (hg : Gr w1 v w2 v') (hv : ∀ g, v.ownBlock = some g → w.heap.size ≤ g) : Fr S w w2 :=
  Fr.trans (S' := fun k => w.heap.size ≤ k) h ⟨hg.os, hg.tape, hg.output, hg.size, fun k hk hn => hg.block k hk (fun e => hn (hv k e))⟩ (fun i hi hs => by omega)
end Go.Proofs.YtahalimekacliaaGreatDoor
namespace Go.Proofs.YtahalimekacliaaGreatDoor
open Go.RowKit Go.Shelf Tx
def KpT (T base : Nat) (W W' : World) : Prop := ∀ g cur T', base ≤ g → W.heap[g]? = some (.cells cur T' (0, 0)) → T' ≠ T → W'.heap[g]? = W.heap[g]?
section
variable {T base : Nat} {W W' W2 : World}
theorem KpT.row {e size n : Nat} {v : Value} {xs : List Value} (h : KpT T base W W') (ho : W.ownsRow base e size v n xs) (he : e ≠ T) : W'.ownsRow base e size v n xs := by
  refine ⟨ho.1, ?_⟩
  rcases ho.2 with h0 | ⟨g, cap, cur, rfl, hb, hg, rest⟩
  · exact Or.inl h0
  · exact Or.inr ⟨g, cap, cur, rfl, hb, (h g cur e hb hg he).trans hg, rest⟩
theorem KpT.next (h : KpT T base W W') (k : KpT T base W' W2) : KpT T base W W2 := fun g cur T' hb hg ht =>
  (k g cur T' hb ((h g cur T' hb hg ht).trans hg) ht).trans (h g cur T' hb hg ht)
theorem KpT.fr {S : Nat → Prop} (h : Fr S W W') (hs : ∀ g, S g → g < base) : KpT T base W W' := fun g cur _ hb hg _ =>
  h.block g (Array.getElem?_eq_some_iff.1 hg).1 (fun q => by have := hs g q; omega)
theorem KpT.below (h : Below W.heap.size W W') : KpT T base W W' := fun g cur _ _ hg _ => h.block g (Array.getElem?_eq_some_iff.1 hg).1
theorem KpT.grown {b k n : Nat} {v : Value} {xs : List Value} (ho : W.ownsRow b T k v n xs) (hg : W.grownBy W' v.ownBlock) : KpT T base W W' := fun g cur T' _ hc ht => by
  refine hg.block g (Array.getElem?_eq_some_iff.1 hc).1 fun e => ?_
  rcases ho.2 with ⟨rfl, _⟩ | ⟨g', cap, cur', rfl, _, hg', _⟩
  · cases e
  · have e : some g = some g' := e
    cases e
    rw [hc] at hg'
    simp at hg'
    exact ht hg'.2
end
abbrev ThP (β : Type) := Nat → World → List Value → β → Prop
def Stays {β : Type} (T : Nat) (P : ThP β) : Prop := ∀ (base : Nat) (W W' : World) (cs : List Value) (x : β), P base W cs x → KpT T base W W' → P base W' cs x
def Lowers {β : Type} (P : ThP β) : Prop := ∀ (b b2 : Nat) (W : World) (cs : List Value) (x : β), P b W cs x → b2 ≤ b → P b2 W cs x
structure RwC {β : Type} (T k : Nat) (P : ThP β) (base : Nat) (W : World) (v : Value) (L : List β) (cs : List (List Value)) : Prop where
  own : W.ownsRow base T k v L.length (cs.flatMap id)
  len : cs.length = L.length
  each : ∀ c ∈ cs, c.length = k
  is : ∀ (i : Nat) (c : List Value) (x : β), cs[i]? = some c → L[i]? = some x → P base W c x
def Rw {β : Type} (T k : Nat) (P : ThP β) (base : Nat) (W : World) (v : Value) (L : List β) : Prop := ∃ cs, RwC T k P base W v L cs
section
variable {β : Type} {T k base : Nat} {P : ThP β} {W W' w1 : World} {v v1 : Value} {L : List β}
theorem Rw.nil_ : Rw T k P base W (.slice none 0 0) [] := ⟨[], World.ownsRow_nil _ _ _ _, rfl, fun c hc => by simp at hc, fun i c x hc _ => by simp at hc⟩
theorem Rw.stays {T' : Nat} (h : Rw T k P base W v L) (hk : KpT T' base W W') (ht : T ≠ T') (hp : Stays T' P) : Rw T k P base W' v L := by
  obtain ⟨cs, h⟩ := h
  exact ⟨cs, hk.row h.own ht, h.len, h.each, fun i c x hc hx => hp _ _ _ _ _ (h.is i c x hc hx) hk⟩
theorem Rw.lower {b2 : Nat} (h : Rw T k P base W v L) (hb : b2 ≤ base) (hp : Lowers P) : Rw T k P b2 W v L := by
  obtain ⟨cs, h⟩ := h
  exact ⟨cs, World.ownsRow.mono h.own hb, h.len, h.each, fun i c x hc hx => hp _ _ _ _ _ (h.is i c x hc hx) hb⟩
theorem Rw.og (h : Rw T k P base W v L) : Og T k (P base) base W v L := by
  obtain ⟨cs, h⟩ := h
  exact ⟨cs, h.own, h.len, h.each, h.is⟩
theorem Rw.form (h : Rw T k P base W v L) : ∃ a c, v = .slice a L.length c ∧ L.length ≤ c := by
  obtain ⟨cs, h⟩ := h
  rcases h.own.2 with ⟨rfl, h0⟩ | ⟨g, cap, cur, rfl, _, _, hc, _⟩
  · exact ⟨none, 0, by rw [h0], by omega⟩
  · exact ⟨_, _, rfl, hc⟩
theorem RwC.push {x : β} {news : List Value} {cs : List (List Value)} (h : RwC T k P base W v L cs) (hp : Stays T P) (hx : P base W news x) (hn : news.length = k) {o : Obj} (hg : (W.alloc o).grownBy w1 v.ownBlock)
    (ho : w1.ownsRow base T k v1 (L.length + 1) (cs.flatMap id ++ news)) : Rw T k P base w1 v1 (L ++ [x]) := by
  have hk : KpT T base W w1 := (KpT.below ((Below.refl _ _).alloc (Nat.le_refl _) o)).next (KpT.grown (h.own.alloc o) hg)
  refine ⟨cs ++ [news], by simpa using ho, by simp [h.len], fun c hc => ?_, fun i c y hc hy => ?_⟩
  · rcases List.mem_append.1 hc with hc | hc
    · exact h.each c hc
    · rw [List.mem_singleton.1 hc]; exact hn
  · rcases Nat.lt_or_ge i L.length with hi | hi
    · rw [List.getElem?_append_left (by have := h.len; omega)] at hc
      rw [List.getElem?_append_left (by omega)] at hy
      exact hp _ _ _ _ _ (h.is i c y hc hy) hk
    · have hi2 : i = L.length := by
        have := (List.getElem?_eq_some_iff.1 hy).1
        simp at this; omega
      subst hi2
      rw [List.getElem?_append_right (by have := h.len; omega)] at hc
      rw [List.getElem?_append_right (by omega)] at hy
      simp [h.len] at hc hy
      subst hc hy
      exact hp _ _ _ _ _ hx hk
end
open Gx
def PE : ThP (List Nd) := fun b W cs e => ∃ v, cs = [v] ∧ OwnE b W v e
def PPm : ThP Pm := fun _ _ cs x => cs = [.string x.name, .int .i64 x.ty]
def PEq : ThP Eqn := fun b W cs x => ∃ v, cs = [.string x.name, v] ∧ OwnE b W v x.e
abbrev RwX := Rw 51 1 PE
abbrev RwPm := Rw 39 2 PPm
abbrev RwEq := Rw 65 2 PEq
def PIm : ThP Im := fun b W cs x => ∃ ve vf va, cs = [.int .i64 x.kind, .string x.name, .int .i64 x.ty, ve, vf, va] ∧ OwnE b W ve x.e ∧ OwnE b W vf x.f ∧ RwX b W va x.args
abbrev RwIm := Rw 54 6 PIm
def PUn : ThP Un := fun b W cs x => ∃ vi vv vq vx, cs = [.bool x.con, .string x.name, vi, .string x.out.name, .int .i64 x.out.ty, vv, vq, vx] ∧ RwPm b W vi x.ins ∧ RwPm b W vv x.vars ∧ RwEq b W vq x.eqs ∧ RwIm b W vx x.items
abbrev RwUn := Rw 43 8 PUn
theorem KpT.ownE {T base : Nat} {W W' : World} {v : Value} {e : List Nd} (h : KpT T base W W') (ho : OwnE base W v e) (ht : 86 ≠ T) : OwnE base W' v e := h.row ho ht
theorem PE.stays {T : Nat} (ht : 86 ≠ T) : Stays T PE := fun base W W' cs x ⟨v, h1, h2⟩ hk => ⟨v, h1, hk.ownE h2 ht⟩
theorem PE.lowers : Lowers PE := fun b b2 W cs x ⟨v, h1, h2⟩ hb => ⟨v, h1, h2.mono hb⟩
theorem PPm.stays {T : Nat} : Stays T PPm := fun base W W' cs x h _ => h
theorem PPm.lowers : Lowers PPm := fun b b2 W cs x h _ => h
theorem PEq.stays {T : Nat} (ht : 86 ≠ T) : Stays T PEq := fun base W W' cs x ⟨v, h1, h2⟩ hk => ⟨v, h1, hk.ownE h2 ht⟩
theorem PEq.lowers : Lowers PEq := fun b b2 W cs x ⟨v, h1, h2⟩ hb => ⟨v, h1, h2.mono hb⟩
theorem PIm.stays {T : Nat} (ht : 86 ≠ T) (h2 : 51 ≠ T) : Stays T PIm := fun base W W' cs x ⟨ve, vf, va, e1, e2, e3, e4⟩ hk => ⟨ve, vf, va, e1, hk.ownE e2 ht, hk.ownE e3 ht, e4.stays hk h2 (PE.stays ht)⟩
theorem PIm.lowers : Lowers PIm := fun b b2 W cs x ⟨ve, vf, va, e1, e2, e3, e4⟩ hb => ⟨ve, vf, va, e1, e2.mono hb, e3.mono hb, e4.lower hb PE.lowers⟩
theorem PUn.stays {T : Nat} (ht : 86 ≠ T) (h2 : 51 ≠ T) (h3 : 39 ≠ T) (h4 : 65 ≠ T) (h5 : 54 ≠ T) : Stays T PUn :=
  fun base W W' cs x ⟨vi, vv, vq, vx, e1, e2, e3, e4, e5⟩ hk => ⟨vi, vv, vq, vx, e1, e2.stays hk h3 PPm.stays, e3.stays hk h3 PPm.stays, e4.stays hk h4 (PEq.stays ht), e5.stays hk h5 (PIm.stays ht h2)⟩
theorem PUn.lowers : Lowers PUn := fun b b2 W cs x ⟨vi, vv, vq, vx, e1, e2, e3, e4, e5⟩ hb => ⟨vi, vv, vq, vx, e1, e2.lower hb PPm.lowers, e3.lower hb PPm.lowers, e4.lower hb PEq.lowers, e5.lower hb PIm.lowers⟩
abbrev noT : Nat := 1000000
theorem Al.kpT {rb base T : Nat} {W W' : World} (h : Al rb W W') (hr : rb < base) : KpT T base W W' := KpT.fr h (fun g hg => by omega)
theorem rowPm : RowTy Tryz.prog 37 39 2 24 := RowTy.mk' (z := .agg #[.string ⟨#[]⟩, .int .i64 0]) Tryz.underlying37 (by kernel_rfl) rfl (by omega)
theorem rowEq : RowTy Tryz.prog 40 65 2 40 := RowTy.mk' (z := .agg #[.string ⟨#[]⟩, .slice none 0 0]) Tryz.underlying40 (by kernel_rfl) rfl (by omega)
theorem rowIm : RowTy Tryz.prog 41 54 6 104 := RowTy.mk' (z := .agg #[.int .i64 0, .string ⟨#[]⟩, .int .i64 0, .slice none 0 0, .slice none 0 0, .slice none 0 0]) Tryz.underlying41 (by kernel_rfl) rfl (by omega)
theorem rowUn : RowTy Tryz.prog 29 43 8 144 := RowTy.mk' (z := .agg #[.bool false, .string ⟨#[]⟩, .slice none 0 0, .string ⟨#[]⟩, .int .i64 0, .slice none 0 0, .slice none 0 0, .slice none 0 0]) Tryz.underlying29 (by kernel_rfl) rfl (by omega)
theorem Fr.set_at (W : World) (g i : Nat) (v : Value) : Fr (fun k => k = g) W (W.setCell ⟨g, i, none⟩ v) :=
  ⟨rfl, rfl, rfl, by rw [set_size]; exact Nat.le_refl _, fun k _ hn => Below.heap_setCell _ _ _ _ (by show k ≠ g; exact hn)⟩
theorem Fr.blk' {S : Nat → Prop} {W W' : World} {b T : Nat} {cs : Array Value} (hF : Fr S W W') (h : Blk W b cs T) (hn : ¬ S b) : Blk W' b cs T := (hF.block b h.lt hn).trans h
structure Rp (L : List Tok) (a : Option Addr) (cc rb : Nat) (W : World) (s : Mx.Rs) : Prop where
  blk : Blk W rb #[.slice a L.length cc, .int .i64 s.i, .int .i64 s.c, .int .i64 s.p] 57
  le : s.i ≤ L.length
section
variable {L : List Tok} {a : Option Addr} {cc rb : Nat} {W W' : World} {s : Mx.Rs}
theorem Rp.cells (h : Rp L a cc rb W s) : W.cell? ⟨rb, 0, none⟩ = some (.slice a L.length cc) ∧ W.cell? ⟨rb, 1, none⟩ = some (.int .i64 s.i) ∧ W.cell? ⟨rb, 2, none⟩ = some (.int .i64 s.c) ∧ W.cell? ⟨rb, 3, none⟩ = some (.int .i64 s.p) := by
  have h := h.blk; unfold Blk at h
  refine ⟨?_, ?_, ?_, ?_⟩ <;> simp [World.cell?, h]
theorem Rp.free (h : Rp L a cc rb W s) : W.frozen? ⟨rb, 0, none⟩ = false ∧ W.frozen? ⟨rb, 1, none⟩ = false ∧ W.frozen? ⟨rb, 2, none⟩ = false ∧ W.frozen? ⟨rb, 3, none⟩ = false := by
  have h := h.blk; unfold Blk at h
  refine ⟨?_, ?_, ?_, ?_⟩ <;> simp [World.frozen?, h]
theorem Rp.lt (h : Rp L a cc rb W s) : rb < W.heap.size := Blk.lt h.blk
theorem Rp.drew (h : Rp L a cc rb W s) : Rp L a cc rb W.drew s := ⟨h.blk, h.le⟩
theorem Rp.drewN (h : Rp L a cc rb W s) (q : Nat) : Rp L a cc rb (W.drewN q) s := ⟨h.blk, h.le⟩
theorem Rp.below (h : Rp L a cc rb W s) (hb : Below W.heap.size W W') : Rp L a cc rb W' s := ⟨h.blk.below hb, h.le⟩
theorem Rp.fr {S : Nat → Prop} (h : Rp L a cc rb W s) (hf : Fr S W W') (hs : ¬ S rb) : Rp L a cc rb W' s := ⟨(hf.block rb h.lt hs).trans h.blk, h.le⟩
theorem Rp.setI (h : Rp L a cc rb W s) (y : Nat) (hy : y ≤ L.length) : Rp L a cc rb (W.setCell ⟨rb, 1, none⟩ (.int .i64 y)) ⟨y, s.c, s.p⟩ := ⟨by have := Blk.setAt h.blk 1 (.int .i64 y); simpa using this, hy⟩
theorem Rp.setC (h : Rp L a cc rb W s) (y : Int) : Rp L a cc rb (W.setCell ⟨rb, 2, none⟩ (.int .i64 y)) ⟨s.i, y, s.p⟩ := ⟨by have := Blk.setAt h.blk 2 (.int .i64 y); simpa using this, h.le⟩
theorem Rp.setP (h : Rp L a cc rb W s) (y : Int) : Rp L a cc rb (W.setCell ⟨rb, 3, none⟩ (.int .i64 y)) ⟨s.i, s.c, y⟩ := ⟨by have := Blk.setAt h.blk 3 (.int .i64 y); simpa using this, h.le⟩
end
end Go.Proofs.YtahalimekacliaaGreatDoor
namespace Go.Proofs.YtahalimekacliaaGreatDoor
open Go.RowKit Go.Shelf Tx Px Mx Gx
theorem ret_strP {a b : ByteArray} (h : a = b) : Ending.returned (.string a) = .returned (.string b) := by rw [h]
theorem EnvOk.sl {w0 : World} {rb cc : Nat} {a : Option Addr} {L : List Tok} (h : EnvOk w0 rb a cc L) {W : World} (hB : Al rb w0 W) : Sl tokC 3 W (.slice a L.length cc) L := by
  cases hL : L with
  | nil => exact Or.inl ⟨rfl, a, cc, by rfl⟩
  | cons x l =>
    rw [← hL]
    obtain ⟨b, o, rfl, h1, _, _⟩ := h.tok W hB 0 x (by rw [hL]; rfl)
    refine Or.inr ⟨b, o, cc, rfl, h.cap, ?_, fun i y hy j u hu => ?_⟩
    · unfold World.cell? at h1
      split at h1
      · rename_i h2; exact (Array.getElem?_eq_some_iff.1 h2).1
      · cases h1
    · obtain ⟨b', o', e, h2, h3, h4⟩ := h.tok W hB i y hy
      cases e
      match j, hu with
      | 0, hu => cases hu; exact h2
      | 1, hu => cases hu; exact h3
      | 2, hu => cases hu; exact h4
theorem mark_lt {L : List Tok} {s : Rs} (h : markR L s ≠ noS) : s.c = 0 ∧ s.i < L.length := by
  unfold markR at h
  split at h
  · refine ⟨by assumption, ?_⟩
    rcases Nat.lt_or_ge s.i L.length with h1 | h1
    · exact h1
    · unfold hereT at h; rw [List.getElem?_eq_none h1] at h; exact absurd rfl h
  · exact absurd rfl h
theorem text_lt {L : List Tok} {s : Rs} (h : textR L s ≠ noS) : s.c = 0 ∧ s.i < L.length := by
  unfold textR at h
  split at h
  · rename_i h2
    refine ⟨h2.1, ?_⟩
    rcases Nat.lt_or_ge s.i L.length with h1 | h1
    · exact h1
    · rw [List.getElem?_eq_none h1] at h; exact absurd rfl h
  · exact absurd rfl h
def hereK (ks : List Int) (L : List Tok) (s : Rs) : ByteArray := if s.c = 0 then (match L[s.i]? with
  | some t => if (t.k : Int) ∈ ks then t.t else noS
  | none => noS) else noS
theorem hereK_mark (L : List Tok) (s : Rs) : hereK [4, 3] L s = markR L s := by
  unfold hereK markR hereT
  split
  · cases L[s.i]? with
    | none => rfl
    | some t =>
      by_cases h : t.k = 3 ∨ t.k = 4
      · have : (t.k : Int) ∈ [(4 : Int), 3] := by simp; omega
        simp only [if_pos h, if_pos this]; rfl
      · have : ¬ (t.k : Int) ∈ [(4 : Int), 3] := by simp; omega
        simp only [if_neg h, if_neg this]; rfl
  · rfl
theorem hereK_name (L : List Tok) (s : Rs) : hereK [1] L s = textR L s := by
  unfold hereK textR named
  by_cases hc : s.c = 0
  · simp only [hc, if_true, true_and]
    cases L[s.i]? with
    | none => rfl
    | some t =>
      by_cases h : t.k = 1
      · simp [h]
      · have : ¬ (t.k : Int) = 1 := by omega
        simp [h, this]
  · simp [hc]
section
variable {L : List Tok} {a : Option Addr} {cc rb : Nat} {w0 : World}
theorem pok_any (s : Rs) (w : World) (hR : Rp L a cc rb w s) :
    Calls Tryz.prog 23 #[.pointer (some ⟨rb, 0, none⟩)] w fun e w' => e = .returned (.bool (decide (s.c = 0))) ∧ w' = w := by
  obtain ⟨c0, c1, c2, c3⟩ := hR.cells
  clear hR
  go_enter Tryz.func23, Tryz.ntmps23
  go_wp2_with fail
  go_ret
  exact ⟨ret_bool (by rw [Bool.eq_iff_iff]; simp), rfl⟩
set_option maxRecDepth 100000 in
set_option maxHeartbeats 1000000 in
theorem pfail_any (EV : Hid (EnvOk w0 rb a cc L)) (k : Int) (s : Rs) (w : World) (hB : Al rb w0 w) (hR : Rp L a cc rb w s) :
    Calls Tryz.prog 22 #[.pointer (some ⟨rb, 0, none⟩), .int .i64 k] w fun e w' => e = .returned (.tuple #[]) ∧ Rp L a cc rb w' (failR L k s) ∧ Al rb w w' := by
  by_cases hc : s.c = 0
  · obtain ⟨I, c, p⟩ := s
    simp only at hc
    subst hc
    have hle := hR.le
    have hlen := EV.out.len
    simp only at hle
    obtain ⟨c0, c1, c2, c3⟩ := hR.cells
    obtain ⟨f0, f1, f2, f3⟩ := hR.free
    have hok := pok_any _ w hR
    have hat : ∀ w', Al rb w0 w' → _ := fun w' h => eAt_any EV I (by omega) w' h
    have HR := Lib.hid hR
    have HB := Lib.hid hB
    clear hR hB
    go_enter Tryz.func22, Tryz.ntmps22
    go_wp2_with fail
    refine hok.mono ?_
    rintro r w1 ⟨rfl, rfl⟩
    go_wp2_with fail
    go_still_tail 14, (by kernel_rfl)
    still_call (hat _ HB.out.drew)
    repeat still_step
    try refine wpStill_nil ?_
    clear hat hok
    change wpList _ _ _ _ _ w1.drew
    have HR2 : Hid (Rp L a cc rb w1.drew ⟨I, 0, p⟩) := HR.out.drew
    have hb2 : Al rb w1 w1.drew := (Al.refl _ _).drew
    have f2' : w1.drew.frozen? ⟨rb, 2, none⟩ = false := f2
    have f3' : w1.drew.frozen? ⟨rb, 3, none⟩ = false := f3
    have c2' : w1.drew.cell? ⟨rb, 2, none⟩ = some (.int .i64 0) := c2
    have c3' : w1.drew.cell? ⟨rb, 3, none⟩ = some (.int .i64 p) := c3
    clear c0 c1 c2 c3 f0 f1 f2 f3 HR HB EV
    generalize w1.drew = W at *
    go_wp2_with fail
    first | go_end0 | (refine bodyPost_ret (results_none rfl _ _ _) rfl ?_)
    exact ⟨rfl, ((HR2.out.setC k).setP _), (hb2.set _ _).set _ _⟩
  · have hok := pok_any _ w hR
    rw [decide_eq_false hc] at hok
    have HF : Hid (failR L k s = s) := by show _ = _; unfold failR; rw [if_neg hc]
    have HR := Lib.hid hR
    clear hR hB EV hc
    go_enter Tryz.func22, Tryz.ntmps22
    go_wp2_with fail
    refine hok.mono ?_
    rintro r w1 ⟨rfl, rfl⟩
    clear hok
    go_wp2_with fail
    first | go_end0 | (refine bodyPost_ret (results_none rfl _ _ _) rfl ?_)
    exact ⟨rfl, by rw [HF.out]; exact HR.out, Al.refl _ _⟩
set_option maxRecDepth 100000 in
set_option maxHeartbeats 4000000 in
theorem phere_any (EV : Hid (EnvOk w0 rb a cc L)) (nb : Nat) (ks : List Int) (hks : ks.length ≤ 10) (s : Rs) (w : World) (hB : Al rb w0 w) (hR : Rp L a cc rb w s) (hK : Blk w nb (ks.map (Value.int .i64)).toArray 3) :
    Calls Tryz.prog 44 #[.pointer (some ⟨rb, 0, none⟩), .slice (some ⟨nb, 0, none⟩) ks.length ks.length] w fun e w' => e = .returned (.string (hereK ks L s)) ∧ ∃ q, w' = w.drewN q := by
  obtain ⟨I, c, p⟩ := s
  have hle := hR.le
  simp only at hle
  have hlen := EV.out.len
  have hok : ∀ q, Calls Tryz.prog 23 #[.pointer (some ⟨rb, 0, none⟩)] (w.drewN q) fun e w' => e = .returned (.bool (decide (c = 0))) ∧ w' = w.drewN q := fun q => pok_any _ _ (hR.drewN q)
  obtain ⟨c0, c1, c2, c3⟩ := hR.cells
  simp only at c1 c2 c3
  have hi1 : (0 : Int) ≤ (I : Int) := by omega
  by_cases hc : c = 0
  · subst hc
    rw [decide_eq_true (rfl : (0 : Int) = 0)] at hok
    by_cases h : I < L.length
    · obtain ⟨x, hx⟩ : ∃ x, L[I]? = some x := ⟨_, List.getElem?_eq_getElem h⟩
      obtain ⟨b, q, rfl, d0, d1, d2⟩ := EV.out.tok w hB I x hx
      have h2 : (I : Int) < (L.length : Int) := by omega
      have HF : Hid (hereK ks L ⟨I, 0, p⟩ = if (x.k : Int) ∈ ks then x.t else noS) := by
        show _ = _
        unfold hereK; simp only [hx, if_true]
      have hd1 : decide (L.length ≤ I) = false := by simp; omega
      obtain ⟨k, hkk⟩ : ∃ k : Int, k = x.k := ⟨_, rfl⟩
      rw [← hkk] at d0 HF
      obtain ⟨xt, hxt⟩ : ∃ t, t = x.t := ⟨_, rfl⟩
      rw [← hxt] at d1 HF
      have HK := Lib.hid hK
      have HKS := Lib.hid hks
      have HLN := Lib.hid hlen
      obtain ⟨n, hn⟩ : ∃ n, n = ks.length := ⟨_, rfl⟩
      rw [← hn] at hks ⊢
      have HN := Lib.hid hn
      have HCAP := Lib.hid EV.out.cap
      clear hB hx EV hR h hkk hxt hK d2 hle hlen hn HKS
      go_enter Tryz.func44, Tryz.ntmps44
      go_wp2_with fail
      go_quiet ((go_at_call 23; exact Calls.quiet_of_same (hok _)))
      clear hok
      go_wp2_with fail
      go_loopw [6, 23] (fun _ i wr => ∃ t : Nat, i = .int .i64 t ∧ t ≤ n ∧ (∀ j y, j < t → ks[j]? = some y → k ≠ y) ∧ ∃ q, wr = w.drewN q) (fun _ i _ => n - (intOf i).toNat)
      case atStart => exact ⟨0, rfl, Nat.zero_le _, fun j y h _ => by omega, _, rfl⟩
      case round =>
        obtain ⟨t, rfl, ht, hno, q2, hq2⟩ := hrel
        have HNO := Lib.hid hno
        have HQ := Lib.hid hq2
        have c0' : wr.cell? ⟨rb, 0, none⟩ = some (.slice (some ⟨b, q, none⟩) L.length cc) := by rw [hq2]; exact c0
        have c1' : wr.cell? ⟨rb, 1, none⟩ = some (.int .i64 I) := by rw [hq2]; exact c1
        have d0' : wr.cell? ⟨b, q + I * 3, none⟩ = some (.int .i64 k) := by rw [hq2]; exact d0
        have d1' : wr.cell? ⟨b, q + I * 3 + 1, none⟩ = some (.string xt) := by rw [hq2]; exact d1
        by_cases hlt : t < n
        · obtain ⟨y, hy⟩ : ∃ y, ks[t]? = some y := ⟨_, List.getElem?_eq_getElem (by have := HN.out; omega)⟩
          have k0 : wr.cell? ⟨nb, t, none⟩ = some (.int .i64 y) := by
            have h := HK.out; unfold Blk at h
            rw [hq2]; show w.cell? _ = _
            simp [World.cell?, h, hy]
          have htn : (t : Int) < (n : Int) := by omega
          have ht0 : (0 : Int) ≤ (t : Int) := by omega
          have HY := Lib.hid hy
          clear hy hno hq2 c0 c1 c2 c3 d0 d1
          by_cases hky : k = y
          · have hb : (k == y) = true := by rw [beq_iff_eq]; exact hky
            have HFF : Hid (hereK ks L ⟨I, 0, p⟩ = xt) := by
              show _ = _
              rw [HF.out, if_pos]
              rw [hky]; exact List.mem_of_getElem? HY.out
            clear hky
            go_wp2_with fail
            go_quiet (fail)
            go_wp2_with fail
            go_quiet (fail)
            go_wp2_with fail
            go_ret
            exact ⟨ret_strP HFF.out.symm, _, by rw [HQ.out, World.drewN_drewN, World.drewN_drewN]⟩
          · have hb : (k == y) = false := by rw [beq_eq_false_iff_ne]; exact hky
            have HKY := Lib.hid hky
            clear hky
            go_wp2_with fail
            go_quiet (fail)
            go_wp2_with fail
            go_roundw
            case rel => exact ⟨t + 1, by go_num, by omega, fun j z hj hz => by
              by_cases h : j = t
              · subst h; rw [HY.out] at hz; cases hz; exact HKY.out
              · exact HNO.out j z (by omega) hz, _, by rw [HQ.out, World.drewN_drewN]⟩
            case measure => simp [intOf]; omega
        · have hte : t = n := by omega
          subst hte
          have HFF : Hid (hereK ks L ⟨I, 0, p⟩ = noS) := by
            show _ = _
            rw [HF.out, if_neg]
            intro hm
            obtain ⟨j, hj⟩ := List.mem_iff_getElem?.1 hm
            exact HNO.out j k (by have := (List.getElem?_eq_some_iff.1 hj).1; have := HN.out; omega) hj rfl
          clear hno hq2
          go_wp2_with fail
          go_ret
          exact ⟨ret_strP HFF.out.symm, q2, HQ.out⟩
    · have HF : Hid (hereK ks L ⟨I, 0, p⟩ = noS) := by
        show _ = _
        unfold hereK; simp only [if_true]; rw [List.getElem?_eq_none (by omega)]
      have hd1 : decide (L.length ≤ I) = true := by simp; omega
      have hni : ¬ (I < L.length) := by omega
      have hni2 : ¬ ((I : Int) < (L.length : Int)) := by omega
      clear hB hK EV hR h hle hlen hks
      go_enter Tryz.func44, Tryz.ntmps44
      go_wp2_with fail
      go_quiet ((go_at_call 23; exact Calls.quiet_of_same (hok _)))
      go_wp2_with fail
      go_ret
      exact ⟨ret_strP HF.out.symm, _, rfl⟩
  · rw [decide_eq_false hc] at hok
    have HF : Hid (hereK ks L ⟨I, c, p⟩ = noS) := by
      show _ = _
      unfold hereK; rw [if_neg hc]
    clear hB hK EV hR hc hle hlen hks
    go_enter Tryz.func44, Tryz.ntmps44
    go_wp2_with fail
    go_quiet ((go_at_call 23; exact Calls.quiet_of_same (hok _)))
    go_wp2_with fail
    go_ret
    exact ⟨ret_strP HF.out.symm, _, rfl⟩
set_option maxRecDepth 100000 in
theorem pmark_any (EV : Hid (EnvOk w0 rb a cc L)) (s : Rs) (w : World) (hB : Al rb w0 w) (hR : Rp L a cc rb w s) :
    Calls Tryz.prog 43 #[.pointer (some ⟨rb, 0, none⟩)] w fun e w' => e = .returned (.string (markR L s)) ∧ Below w.heap.size w w' := by
  have ba : Below w.heap.size w (w.alloc (.cells #[.int .i64 4, .int .i64 3] 3)) := (Below.refl _ _).alloc (Nat.le_refl _) _
  have hh := phere_any EV w.heap.size [4, 3] (by decide) s (w.alloc (.cells #[.int .i64 4, .int .i64 3] 3)) (hB.then ba) (hR.below ba) (Blk.new w _ _)
  rw [hereK_mark] at hh
  have HB := Lib.hid ba
  clear hB hR EV ba
  go_enter Tryz.func43, Tryz.ntmps43
  go_wp2_with fail
  refine hh.mono ?_
  rintro e w1 ⟨rfl, q, rfl⟩
  clear hh
  go_wp2_with fail
  go_ret
  exact ⟨rfl, below_drawn HB.out q⟩
set_option maxRecDepth 100000 in
theorem ptake_any (EV : Hid (EnvOk w0 rb a cc L)) (t : ByteArray) (ht : t ≠ noS) (s : Rs) (w : World) (hB : Al rb w0 w) (hR : Rp L a cc rb w s) :
    Calls Tryz.prog 21 #[.pointer (some ⟨rb, 0, none⟩), .string t] w fun e w' => e = .returned (.bool (takeB L t s)) ∧ Rp L a cc rb w' (takeR L t s) ∧ Al rb w w' := by
  have hh := pmark_any EV s w hB hR
  have HR := Lib.hid hR
  by_cases hm : markR L s = t
  · have HI := mark_lt (hm ▸ ht)
    obtain ⟨I, c, p⟩ := s
    simp only at HI
    obtain ⟨rfl, hI⟩ := HI
    rw [hm] at hh
    have heq : (t.toList == t.toList) = true := by simp
    have HTB : Hid (takeB L t ⟨I, 0, p⟩ = true) := by show _ = _; unfold takeB; exact decide_eq_true hm
    have HTR : Hid (takeR L t ⟨I, 0, p⟩ = ⟨I + 1, 0, p⟩) := by show _ = _; unfold takeR; rw [if_pos hm]; rfl
    have HLE : Hid (I + 1 ≤ L.length) := hI
    have hlen : I ≤ 100000 := by have := EV.out.len; omega
    clear hB hR EV hm ht hI
    go_enter Tryz.func21, Tryz.ntmps21
    go_wp2_with fail
    refine hh.mono ?_
    rintro r w2 ⟨rfl, hb⟩
    have hR2 : Rp L a cc rb w2 ⟨I, 0, p⟩ := HR.out.below hb
    obtain ⟨c0, c1, c2, c3⟩ := hR2.cells
    obtain ⟨f0, f1, f2, f3⟩ := hR2.free
    have HR2 := Lib.hid hR2
    have HA := Lib.hid (Al.of (rb := rb) hb)
    clear hh hb hR2
    go_wp2_with fail
    go_ret
    exact ⟨ret_bool HTB.out.symm, by rw [HTR.out]; have h := HR2.out.setI (I + 1) HLE.out; simpa using h, HA.out.set _ _⟩
  · have heq : ((markR L s).toList == t.toList) = false := by rw [bytes_eq, decide_eq_false hm]
    have HTB : Hid (takeB L t s = false) := by show _ = _; unfold takeB; exact decide_eq_false hm
    have HTR : Hid (takeR L t s = s) := by show _ = _; unfold takeR; rw [if_neg hm]
    clear hB hR EV hm ht
    go_enter Tryz.func21, Tryz.ntmps21
    go_wp2_with fail
    refine hh.mono ?_
    rintro r w2 ⟨rfl, hb⟩
    have HR2 := Lib.hid (HR.out.below hb)
    have HA := Lib.hid (Al.of (rb := rb) hb)
    clear hh hb
    go_wp2_with fail
    go_ret
    exact ⟨ret_bool HTB.out.symm, by rw [HTR.out]; exact HR2.out, HA.out⟩
def needL (L : List Tok) (ts : List ByteArray) (s : Rs) : Rs := ts.foldl (fun s t => needR L t s) s
theorem need_take (t : ByteArray) (s : Rs) : needR L t s = if takeB L t s = true then takeR L t s else failR L 5 (takeR L t s) := by
  unfold needR takeB takeR
  by_cases h : markR L s = t
  · simp [h]
  · simp [h]
theorem needL_take {ts : List ByteArray} {j : Nat} {t : ByteArray} (s : Rs) (h : ts[j]? = some t) : needL L (ts.take (j + 1)) s = needR L t (needL L (ts.take j) s) := by
  unfold needL
  rw [take_at h, List.foldl_append]; rfl
set_option maxRecDepth 100000 in
set_option maxHeartbeats 2000000 in
theorem pneed_any (EV : Hid (EnvOk w0 rb a cc L)) (nb : Nat) (ts : List ByteArray) (hts : ts.length ≤ 10) (hne : ∀ t ∈ ts, t ≠ noS) (s : Rs) (w : World) (hB : Al rb w0 w) (hR : Rp L a cc rb w s) (hK : Blk w nb (ts.map Value.string).toArray 9) (hnb : nb ≠ rb) :
    Calls Tryz.prog 19 #[.pointer (some ⟨rb, 0, none⟩), .slice (some ⟨nb, 0, none⟩) ts.length ts.length] w fun e w' => e = .returned (.tuple #[]) ∧ Rp L a cc rb w' (needL L ts s) ∧ Al rb w w' := by
  have HB := Lib.hid hB
  have HR := Lib.hid hR
  have HK := Lib.hid hK
  have HNE := Lib.hid hne
  have HNB := Lib.hid hnb
  obtain ⟨n, hn⟩ : ∃ n, n = ts.length := ⟨_, rfl⟩
  rw [← hn] at hts ⊢
  have HN := Lib.hid hn
  clear hB hR hK hne hnb hn
  go_enter Tryz.func19, Tryz.ntmps19
  go_wp2_with fail
  go_loopw [5, 8] (fun _ i wr => ∃ t : Nat, i = .int .i64 t ∧ t ≤ n ∧ Rp L a cc rb wr (needL L (ts.take t) s) ∧ Al rb w wr) (fun _ i _ => n - (intOf i).toNat)
  case atStart => exact ⟨0, rfl, Nat.zero_le _, by simpa [needL] using HR.out, Al.refl _ _⟩
  case round =>
    obtain ⟨t, rfl, ht, hR, hA⟩ := hrel
    by_cases hlt : t < n
    · obtain ⟨y, hy⟩ : ∃ y, ts[t]? = some y := ⟨_, List.getElem?_eq_getElem (by have := HN.out; omega)⟩
      have k0 : wr.cell? ⟨nb, t, none⟩ = some (.string y) := by
        have h := hA.blk HK.out HNB.out; unfold Blk at h
        simp [World.cell?, h, hy]
      have htn : (t : Int) < (n : Int) := by omega
      have ht0 : (0 : Int) ≤ (t : Int) := by omega
      have htk := ptake_any EV y (HNE.out y (List.mem_of_getElem? hy)) _ wr (HB.out.next hA) hR
      have HS : Hid (needL L (ts.take (t + 1)) s = needR L y (needL L (ts.take t) s)) := needL_take s hy
      have HA := Lib.hid hA
      clear hy hR hA
      obtain ⟨s1, hs1⟩ : ∃ s1, s1 = needL L (ts.take t) s := ⟨_, rfl⟩
      rw [← hs1] at htk HS
      rw [need_take] at HS
      obtain ⟨tb, htb⟩ : ∃ tb, tb = takeB L y s1 := ⟨_, rfl⟩
      rw [← htb] at htk HS
      clear hs1 htb
      cases tb
      · have HS2 : Hid (needL L (ts.take (t + 1)) s = failR L 5 (takeR L y s1)) := by show _ = _; have := HS.out; simpa using this
        clear HS
        go_wp2_with fail
        refine htk.mono ?_
        rintro e w1 ⟨rfl, hR1, hA1⟩
        have HA1 := Lib.hid (HA.out.next hA1)
        have hf := pfail_any EV 5 _ w1 (HB.out.next HA1.out) hR1
        clear htk hR1 hA1 k0
        go_wp2_with fail
        refine hf.mono ?_
        rintro e w2 ⟨rfl, hR2, hA2⟩
        have HR2 := Lib.hid hR2
        have HA2 := Lib.hid (HA1.out.next hA2)
        clear hf hR2 hA2
        go_wp2_with fail
        go_roundw
        case rel => exact ⟨t + 1, by go_num, by omega, by rw [HS2.out]; exact HR2.out, HA2.out⟩
        case measure => simp [intOf]; omega
      · have HS2 : Hid (needL L (ts.take (t + 1)) s = takeR L y s1) := by show _ = _; have := HS.out; simpa using this
        clear HS
        go_wp2_with fail
        refine htk.mono ?_
        rintro e w1 ⟨rfl, hR1, hA1⟩
        have HR1 := Lib.hid hR1
        have HA1 := Lib.hid (HA.out.next hA1)
        clear htk hR1 hA1 k0
        go_wp2_with fail
        go_roundw
        case rel => exact ⟨t + 1, by go_num, by omega, by rw [HS2.out]; exact HR1.out, HA1.out⟩
        case measure => simp [intOf]; omega
    · have hte : t = n := by omega
      subst hte
      have HRR : Hid (Rp L a cc rb wr (needL L ts s)) := by
        show Rp _ _ _ _ _ _
        have h := hR
        rwa [List.take_of_length_le (by have := HN.out; omega)] at h
      have HA := Lib.hid hA
      clear hR hA
      go_wp2_with fail
      first | go_end0 | (refine bodyPost_ret (results_none rfl _ _ _) rfl ?_)
      exact ⟨rfl, HRR.out, HA.out⟩
set_option maxRecDepth 100000 in
theorem pname_any (EV : Hid (EnvOk w0 rb a cc L)) (s : Rs) (w : World) (hB : Al rb w0 w) (hR : Rp L a cc rb w s) :
    Calls Tryz.prog 20 #[.pointer (some ⟨rb, 0, none⟩)] w fun e w' => e = .returned (.string (nameR L s).1) ∧ Rp L a cc rb w' (nameR L s).2 ∧ Al rb w w' := by
  have ba : Below w.heap.size w (w.alloc (.cells #[.int .i64 1] 3)) := (Below.refl _ _).alloc (Nat.le_refl _) _
  have hh := phere_any EV w.heap.size [1] (by decide) s (w.alloc (.cells #[.int .i64 1] 3)) (hB.then ba) (hR.below ba) (Blk.new w _ _)
  rw [hereK_name] at hh
  have HBA := Lib.hid ba
  have HR := Lib.hid (hR.below ba)
  have HB := Lib.hid hB
  have HA := Lib.hid (Al.of (rb := rb) ba)
  by_cases hm : textR L s = noS
  · have HN : Hid (nameR L s = (noS, failR L 5 s)) := by show _ = _; unfold nameR; rw [if_pos hm]
    rw [hm] at hh
    have he0 : noS.toList.isEmpty = true := by rw [List.isEmpty_iff, Lib.toList_data]; rfl
    have hf := fun W hW hR => pfail_any EV 5 s W hW hR
    have HF := Lib.hid hf
    clear hB hR ba hm hf
    go_enter Tryz.func20, Tryz.ntmps20
    go_wp2_with fail
    refine hh.mono ?_
    rintro r w2 ⟨rfl, q, hq⟩
    have HA2 : Hid (Al rb w w2) := by show Al _ _ _; rw [hq]; exact HA.out.drewN q
    have hR2 : Rp L a cc rb w2 s := by rw [hq]; exact HR.out.drewN q
    have hf2 := HF.out w2 (HB.out.next HA2.out) hR2
    clear hh hq hR2
    go_wp2_with fail
    refine hf2.mono ?_
    rintro r w3 ⟨rfl, hR3, hA3⟩
    have HR3 := Lib.hid hR3
    have HA3 := Lib.hid (HA2.out.next hA3)
    clear hf2 hR3 hA3
    go_wp2_with fail
    go_ret
    exact ⟨ret_strP (by rw [HN.out]), by rw [HN.out]; exact HR3.out, HA3.out⟩
  · have HI := text_lt hm
    have HN : Hid (nameR L s = (textR L s, nextR s)) := by show _ = _; unfold nameR; rw [if_neg hm]
    obtain ⟨I, c, p⟩ := s
    simp only at HI
    obtain ⟨rfl, hI⟩ := HI
    have HLE : Hid (I + 1 ≤ L.length) := hI
    have hlen : I ≤ 100000 := by have := EV.out.len; omega
    obtain ⟨tx, htx⟩ : ∃ tx, tx = textR L ⟨I, 0, p⟩ := ⟨_, rfl⟩
    rw [← htx] at hh HN hm
    have heq : tx.toList.isEmpty = false := by
      rw [List.isEmpty_eq_false_iff, Lib.toList_data]
      exact fun h => hm (bytes_ext (by rw [h]; rfl))
    clear hB hR ba hm hI EV htx
    go_enter Tryz.func20, Tryz.ntmps20
    go_wp2_with fail
    refine hh.mono ?_
    rintro r w2 ⟨rfl, q, hq⟩
    have HA2 : Hid (Al rb w w2) := by show Al _ _ _; rw [hq]; exact HA.out.drewN q
    have hR2 : Rp L a cc rb w2 ⟨I, 0, p⟩ := by rw [hq]; exact HR.out.drewN q
    obtain ⟨c0, c1, c2, c3⟩ := hR2.cells
    obtain ⟨f0, f1, f2, f3⟩ := hR2.free
    have HR2 := Lib.hid hR2
    clear hh hq hR2
    go_wp2_with fail
    go_ret
    exact ⟨ret_strP (by rw [HN.out]), by rw [HN.out]; have h := HR2.out.setI (I + 1) HLE.out; simpa [nextR] using h, HA2.out.set _ _⟩
end
end Go.Proofs.YtahalimekacliaaGreatDoor
namespace Go.Proofs.YtahalimekacliaaGreatDoor
namespace Gx
open Tx Px
structure ImFew (x : Im) : Prop where
  e : x.e.length ≤ 5000
  f : x.f.length ≤ 5000
  n : x.args.length ≤ 200
  a : ∀ y ∈ x.args, y.length ≤ 5000
structure UnFew (u : Un) : Prop where
  i : u.ins.length ≤ 200
  v : u.vars.length ≤ 200
  q : u.eqs.length ≤ 200
  x : u.items.length ≤ 200
  qe : ∀ y ∈ u.eqs, y.e.length ≤ 5000
  xe : ∀ y ∈ u.items, ImFew y
structure PgFew (p : Pg) : Prop where
  n : p.units.length ≤ 200
  u : ∀ y ∈ p.units, UnFew y
section
variable {L : List Tok} {X : XO} {α β : Type}
def Fz (P : α → Prop) (r : Rz α) : Prop := ∀ a i, r = .ok (a, i) → P a
theorem Fz.bd_ {P : α → Prop} {Q : β → Prop} {r : Rz α} {f : α → Nat → Rz β} (h : Fz P r) (hf : ∀ a i, P a → Fz Q (f a i)) : Fz Q (bd r f) := fun b j e => by
  obtain ⟨a, k, h1, h2⟩ := bd_ok e
  exact hf a k (h a k h1) b j h2
theorem Fz.rt_ {P : α → Prop} {a : α} (h : P a) (i : Nat) : Fz P (rt a i) := fun b j e => by obtain ⟨rfl, _⟩ := rt_ok e; exact h
theorem Fz.er_ {P : α → Prop} (c : Int) (i : Nat) : Fz P (er L c i : Rz α) := fun _ _ e => (er_ok e).elim
theorem Fz.any (r : Rz α) : Fz (fun _ => True) r := fun _ _ _ => trivial
theorem fz_expr (hX : XAll L X) (i : Nat) : Fz (fun e : List Nd => e.length ≤ 5000) (exprS X i) := fun b j e => by
  unfold exprS at e
  split at e
  · cases e
  · rename_i F k hk
    obtain ⟨rfl, rfl⟩ := rt_ok e
    have h1 := hX i
    rw [hk] at h1
    obtain ⟨f, hf⟩ := h1
    have h2 := (parse_ok hf).2.1
    rw [Fo.flat_len]; exact h2
theorem fz_loop {P : α → Prop} {one : Nat → Rz (α × Bool)} (h : ∀ i, Fz (fun x => P x.1) (one i)) : ∀ k acc i, acc.length + k ≤ 200 → (∀ x ∈ acc, P x) → Fz (fun l : List α => l.length ≤ 200 ∧ ∀ x ∈ l, P x) (loopS L one k acc i)
  | 0, _, i, _, _ => Fz.er_ 7 i
  | k + 1, acc, i, hk, ha => (h i).bd_ fun x j hx => by
    have h2 : ∀ y ∈ acc ++ [x.1], P y := fun y hy => by
      rcases List.mem_append.1 hy with hy | hy
      · exact ha y hy
      · rw [List.mem_singleton.1 hy]; exact hx
    split
    · exact fz_loop h k _ j (by simp; omega) h2
    · exact Fz.rt_ ⟨by simp; omega, h2⟩ j
theorem fz_between {P : α → Prop} {one : Nat → Rz α} (h : ∀ i, Fz P (one i)) (s : ByteArray) (i : Nat) : Fz (fun l : List α => l.length ≤ 200 ∧ ∀ x ∈ l, P x) (betweenS L one s i) := by
  refine (Fz.any _).bd_ fun _ j _ => ?_
  split
  · exact Fz.rt_ ⟨by simp, fun x hx => by cases hx⟩ _
  · refine fz_loop (fun i => (h i).bd_ (Q := fun x : α × Bool => P x.1) fun x j hx => ?_) 200 [] j (by simp) (fun x hx => by cases hx)
    split
    · exact Fz.rt_ (by exact hx) _
    · exact (Fz.any _).bd_ fun _ j _ => Fz.rt_ (by exact hx) j
theorem fz_many {P : α → Prop} {one : Nat → Rz α} {on : Nat → Bool} (h : ∀ i, Fz P (one i)) (i : Nat) : Fz (fun l : List α => l.length ≤ 200 ∧ ∀ x ∈ l, P x) (manyS L one on i) := by
  unfold manyS
  split
  · exact fz_loop (fun i => (h i).bd_ (Q := fun x : α × Bool => P x.1) fun x j hx => Fz.rt_ (by exact hx) j) 200 [] i (by simp) (fun x hx => by cases hx)
  · exact Fz.rt_ ⟨by simp, fun x hx => by cases hx⟩ _
theorem fz_param (i : Nat) : Fz (fun _ : Pm => True) (paramS L i) := Fz.any _
theorem fz_item (hX : XAll L X) (i : Nat) : Fz ImFew (itemS L X i) := by
  have hE := fz_expr hX
  have z : ([] : List Nd).length ≤ 5000 := by simp
  have za : ∀ y ∈ ([] : List (List Nd)), y.length ≤ 5000 := fun y hy => by cases hy
  unfold itemS
  split
  · exact (hE _).bd_ fun e j he => (Fz.any _).bd_ fun _ j _ => Fz.rt_ ⟨he, z, by simp, za⟩ j
  split
  · exact (hE _).bd_ fun e j he => (Fz.any _).bd_ fun _ j _ => Fz.rt_ ⟨he, z, by simp, za⟩ j
  split
  · exact (Fz.any _).bd_ fun p j _ => (Fz.any _).bd_ fun _ j _ => (hE _).bd_ fun e j he => (Fz.any _).bd_ fun _ j _ => Fz.rt_ ⟨he, z, by simp, za⟩ j
  split
  · exact (Fz.any _).bd_ fun p j _ => (Fz.any _).bd_ fun _ j _ => (hE _).bd_ fun e j he => (Fz.any _).bd_ fun _ j _ => (hE _).bd_ fun f j hf => (Fz.any _).bd_ fun _ j _ => Fz.rt_ ⟨he, hf, by simp, za⟩ j
  · exact (Fz.any _).bd_ fun p j _ => (fz_between hE _ _).bd_ fun l j hl => (Fz.any _).bd_ fun _ j _ => Fz.rt_ ⟨z, z, hl.1, hl.2⟩ j
theorem fz_items (hX : XAll L X) (i : Nat) : Fz (fun l : List Im => l.length ≤ 200 ∧ ∀ x ∈ l, ImFew x) (itemsS L X i) :=
  (fz_many (fz_item hX) i).bd_ fun l j hl => (Fz.any _).bd_ fun _ j _ => Fz.rt_ (by exact hl) j
theorem fz_eq (hX : XAll L X) (i : Nat) : Fz (fun q : Eqn => q.e.length ≤ 5000) (eqS L X i) :=
  (Fz.any _).bd_ fun n j _ => (Fz.any _).bd_ fun _ j _ => (fz_expr hX _).bd_ fun e j he => (Fz.any _).bd_ fun _ j _ => Fz.rt_ (by exact he) j
theorem fz_eqs (hX : XAll L X) (i : Nat) : Fz (fun l : List Eqn => l.length ≤ 200 ∧ ∀ x ∈ l, x.e.length ≤ 5000) (eqsS L X i) :=
  (fz_many (fz_eq hX) i).bd_ fun l j hl => (Fz.any _).bd_ fun _ j _ => Fz.rt_ (by exact hl) j
theorem fz_vars (i : Nat) : Fz (fun l : List Pm => l.length ≤ 200 ∧ ∀ x ∈ l, True) (varsS L i) := fz_loop (fun i => fun _ _ _ => trivial) 200 [] i (by simp) (fun x hx => by cases hx)
theorem fz_opt {P : α → Prop} {f : Nat → Rz (List α)} (h : ∀ i, Fz (fun l : List α => l.length ≤ 200 ∧ ∀ x ∈ l, P x) (f i)) (s : ByteArray) (i : Nat) : Fz (fun l : List α => l.length ≤ 200 ∧ ∀ x ∈ l, P x) (optS L s f i) := by
  unfold optS
  split
  · exact h _
  · exact Fz.rt_ ⟨by simp, fun x hx => by cases hx⟩ _
theorem fz_unit (hX : XAll L X) (i : Nat) : Fz UnFew (unitS L X i) := by
  unfold unitS
  split
  · exact (Fz.any _).bd_ fun n j _ => (fz_between (P := fun _ : Pm => True) (fun i => fz_param i) _ _).bd_ fun l j hl => (fz_items hX _).bd_ fun x j hx =>
      Fz.rt_ ⟨hl.1, by simp, by simp, hx.1, (fun y hy => by cases hy), hx.2⟩ j
  · refine (Fz.any _).bd_ fun _ j _ => ?_
    refine Fz.bd_ (P := fun h : ByteArray × List Pm × Pm => h.2.1.length ≤ 200) ?_ fun h j hh => ?_
    · exact (Fz.any _).bd_ fun n j _ => (fz_between (P := fun _ : Pm => True) (fun i => fz_param i) _ _).bd_ fun l j hl => (Fz.any _).bd_ fun _ j _ => (Fz.any _).bd_ fun _ j _ => (Fz.any _).bd_ fun o j _ => (Fz.any _).bd_ fun _ j _ => Fz.rt_ (by exact hl.1) j
    · exact (fz_opt (fun i => fz_items hX i) _ _).bd_ fun x j hx => (fz_opt (P := fun _ : Pm => True) (fun i => fz_vars i) _ _).bd_ fun v j hv => (Fz.any _).bd_ fun _ j _ => (fz_eqs hX _).bd_ fun q j hq =>
        Fz.rt_ ⟨hh, hv.1, hq.1, hx.1, hq.2, hx.2⟩ j
theorem prog_few (hX : XAll L X) {p : Pg} (h : progS L X = .ok p) : PgFew p := by
  have h1 : Fz PgFew (progZ L X) := (fz_many (fz_unit hX) 0).bd_ fun us j hu => (Fz.any _).bd_ fun t j _ => Fz.rt_ ⟨hu.1, hu.2⟩ j
  unfold progS at h
  split at h
  · cases h
  · rename_i q i hq
    cases h
    exact h1 _ _ hq
end
end Gx
end Go.Proofs.YtahalimekacliaaGreatDoor
namespace Go.Proofs.YtahalimekacliaaGreatDoor
open Go.RowKit Go.Shelf Tx Gx
theorem pmPart0 (u0 u1 : Value) (w : World) : (part 9 #[u0, u1] 0).run Tryz.prog w = .ok u0 w := by kernel_rfl
theorem pmPart1 (u0 u1 : Value) (w : World) : (part 3 #[u0, u1] 1).run Tryz.prog w = .ok u1 w := by kernel_rfl
theorem pmStood : Tryz.prog.stoodInHeld 39 = false := by kernel_rfl
set_option maxRecDepth 100000 in
theorem eqPm (n : ByteArray) (t : Int) (w : World) : (Op.equalIn 10000 39 (.agg #[.string n, .int .i64 t]) (.agg #[.string n, .int .i64 t])).run Tryz.prog w = .ok true w := by
  have hu := Tryz.underlying39
  have hf := fields_eq Tryz.underlying39
  have hi : ∀ (d : Nat) (p q : Int), (Op.equalIn (d + 1) 3 (.int .i64 p) (.int .i64 q)).run Tryz.prog w = .ok (p == q) w := fun d p q => run_equalIn_int w d _ _ _ p q Tryz.underlying3
  have hs : ∀ (d : Nat) (p : ByteArray), (Op.equalIn (d + 1) 9 (.string p) (.string p)).run Tryz.prog w = .ok true w := fun d p => by
    rw [run_equalIn_string w d _ p p Tryz.underlying9]
    congr 1
    simp
  rw [run_equalIn_agg w 9999 _ _ _ (by rw [hf]; exact hu) pmStood, hf]
  simp [Op.eqFields, hi, hs, pmPart0, pmPart1, Result.andThen]
theorem keeps_of {β : Type} {b : Nat} {P : ThP β} (h : Stays noT P) : Keeps (P b) := fun w w' c x hp hb => h b w w' c x hp (KpT.below hb)
theorem Rw.sg {β : Type} {T k base : Nat} {P : ThP β} {W : World} {v : Value} {L : List β} (h : Rw T k P base W v L) : Sg k (P base) W v L := h.og.sg
theorem keepsPm (b : Nat) : Keeps (PPm b) := keeps_of PPm.stays
theorem keepsIm (b : Nat) : Keeps (PIm b) := keeps_of (PIm.stays (by decide) (by decide))
theorem keepsUn (b : Nat) : Keeps (PUn b) := keeps_of (PUn.stays (by decide) (by decide) (by decide) (by decide) (by decide))
end Go.Proofs.YtahalimekacliaaGreatDoor
