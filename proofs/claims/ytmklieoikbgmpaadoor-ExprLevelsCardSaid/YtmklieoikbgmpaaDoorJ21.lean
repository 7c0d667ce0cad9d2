/- The reference's reader of expressions: level 3 (since): the walk. The reference's reader of expressions: where there was a fault: the walk. The reference's reader of expressions: operators ahead of an operand; numbers; within: the walk. The reference's reader of expressions: behind if: the walk. Rows of expressions that a call made: the array, and each expression in it. The reference's reader of expressions: a call's arguments: the walk. The program's reader of expressions: a whole expression; a call's arguments: the walk. (Printed by gen/expargs.py out of the reference's walk.) The program's reader of expressions: where there was a fault: the walk. The reference's reader of expressions: names and calls, what begins an operand: the walk. The reference's reader of expressions: what begins an operand: the walk. The reference's reader of expressions: level 5 (and): the walk. The reference's reader of expressions: the level of or: the walk. The reference's reader of expressions: the level of sum: the walk. The reference's reader of expressions: levels 1 and 2 (Arrow, imp): the walk. -/
import Derived.Test.YtmklieoikbgmpaaDoorJ7
import Derived.Test.YtmklieoikbgmpaaDoorJ15
import Derived.Test.YtmklieoikbgmpaaDoorJ20
set_option linter.unusedVariables false
set_option linter.unusedSimpArgs false
namespace Go.Proofs.YtmklieoikbgmpaaDoor
open Go.RowKit Go.Shelf Tx Px
section
variable {L : List Tok} {a : Option Addr} {cc rb : Nat} {w0 : World}
end
end Go.Proofs.YtmklieoikbgmpaaDoor
namespace Go.Proofs.YtmklieoikbgmpaaDoor
open Go.RowKit Go.Shelf Tx Px
section
variable {L : List Tok} {a : Option Addr} {cc rb : Nat} {w0 : World}
end
end Go.Proofs.YtmklieoikbgmpaaDoor
namespace Go.Proofs.YtmklieoikbgmpaaDoor
open Go.RowKit Go.Shelf Tx Px
def withinS (p : Orc) (L : List Tok) (I o : Nat) : Option Res := match L[I + 1]? with
  | some u => if u.k = 2 ∧ Lx.val u.t.data.toList ≤ 1000 then thenE (p (.bin 8) (I + 2) o) fun a i => one (node 25 (Lx.val u.t.data.toList) noS a) i else errAt L 5 (I + 1)
  | none => errAt L 5 (I + 1)
section
variable {L : List Tok} {a : Option Addr} {cc rb : Nat} {w0 : World}
end
end Go.Proofs.YtmklieoikbgmpaaDoor
namespace Go.Proofs.YtmklieoikbgmpaaDoor
open Go.RowKit Go.Shelf Tx Px
section
variable {L : List Tok} {a : Option Addr} {cc rb : Nat} {w0 : World}
def choiceS (p : Orc) (L : List Tok) (I o : Nat) : Option Res := thenE (p (.bin 0) I o) fun a i => needT L tThen i fun i => thenE (p (.bin 0) i o) fun b i => needT L tElse i fun i => thenE (p (.bin 0) i o) fun c i => one (node 26 0 noS (a.app (b.app c))) i
end
end Go.Proofs.YtmklieoikbgmpaaDoor
namespace Go.Proofs.YtmklieoikbgmpaaDoor
open Go.RowKit Go.Shelf Tx
theorem rowE : RowTy Tryd.prog 102 26 1 24 := RowTy.mk' (z := .slice none 0 0) Tryd.underlying102 (by kernel_rfl) rfl (by omega)
theorem row_kept {w w' : World} {base e size n : Nat} {v : Value} {xs : List Value} (h : w.ownsRow base e size v n xs) (hk : ∀ g, base ≤ g → v.ownBlock = some g → g < w.heap.size → w'.heap[g]? = w.heap[g]?) : w'.ownsRow base e size v n xs := by
  refine ⟨h.1, ?_⟩
  rcases h.2 with h0 | ⟨g, cap, cur, rfl, hb, hg, rest⟩
  · exact Or.inl h0
  · exact Or.inr ⟨g, cap, cur, rfl, hb, (hk g hb rfl (Array.getElem?_eq_some_iff.1 hg).1).trans hg, rest⟩
theorem row_apart {w : World} {base base' e e' size size' n n' : Nat} {v v' : Value} {xs xs' : List Value} (h : w.ownsRow base e size v n xs) (h' : w.ownsRow base' e' size' v' n' xs') (he : e ≠ e') : v.ownBlock = none ∨ v.ownBlock ≠ v'.ownBlock := by
  rcases h.2 with ⟨rfl, _⟩ | ⟨g, cap, cur, rfl, hb, hg, rest⟩
  · exact Or.inl rfl
  · right
    rcases h'.2 with ⟨rfl, _⟩ | ⟨g', cap', cur', rfl, hb', hg', rest'⟩
    · simp [Value.ownBlock]
    · simp only [Value.ownBlock, ne_eq, Option.some.injEq]
      rintro rfl
      rw [hg] at hg'; simp at hg'; exact he hg'.2
def RwE (base : Nat) (W : World) (v : Value) (L : List (List Nd)) : Prop :=
  ∃ vs : List Value, W.ownsRow base 26 1 v L.length vs ∧ ∀ (i : Nat) (u : Value) (e : List Nd), vs[i]? = some u → L[i]? = some e → OwnE base W u e
section
variable {base : Nat} {W W' : World} {v : Value} {L : List (List Nd)}
theorem RwE.nil_ (base : Nat) (W : World) : RwE base W (.slice none 0 0) [] := ⟨[], World.ownsRow_nil _ _ _ _, fun i u e hu _ => by simp at hu⟩
theorem RwE.kept (h : RwE base W v L) (hk : ∀ g, base ≤ g → g < W.heap.size → W'.heap[g]? = W.heap[g]?) : RwE base W' v L := by
  obtain ⟨vs, h1, h2⟩ := h
  exact ⟨vs, row_kept h1 (fun g hg _ hl => hk g hg hl), fun i u e hu he => row_kept (h2 i u e hu he) (fun g hg _ hl => hk g hg hl)⟩
theorem RwE.below (h : RwE base W v L) (hb : Below W.heap.size W W') : RwE base W' v L := h.kept fun g _ hl => hb.block g hl
theorem RwE.fr {S : Nat → Prop} (h : RwE base W v L) (hf : Fr S W W') (hs : ∀ g, base ≤ g → ¬ S g) : RwE base W' v L := h.kept fun g hg hl => hf.block g hl (hs g hg)
theorem RwE.mono {b2 : Nat} (h : RwE base W v L) (hb : b2 ≤ base) : RwE b2 W v L := by
  obtain ⟨vs, h1, h2⟩ := h
  exact ⟨vs, World.ownsRow.mono h1 hb, fun i u e hu he => (h2 i u e hu he).mono hb⟩
theorem RwE.len (h : RwE base W v L) : ∃ a c, v = .slice a L.length c ∧ L.length ≤ c := by
  obtain ⟨vs, h1, _⟩ := h
  rcases h1.2 with ⟨rfl, h0⟩ | ⟨g, cap, cur, rfl, _, _, hc, _⟩
  · exact ⟨none, 0, by rw [h0], by omega⟩
  · exact ⟨_, _, rfl, hc⟩
theorem RwE.low (h : RwE base W v L) : ∀ g, v.ownBlock = some g → base ≤ g ∧ g < W.heap.size := by
  obtain ⟨vs, h1, _⟩ := h
  exact fun g hg => World.ownsRow.lt h1 g hg
theorem RwE.row (h : RwE base W v L) : ∃ vs : List Value, W.ownsRow base 26 1 v L.length vs ∧ (∀ (i : Nat) (u : Value) (e : List Nd), vs[i]? = some u → L[i]? = some e → OwnE base W u e) := h
theorem RwE.push {x : Value} {e : List Nd} {g cap k : Nat} {vs : List Value} (hk : L.length = k) (h1 : W.ownsRow base 26 1 v k vs)
    (h2 : ∀ (i : Nat) (u : Value) (e : List Nd), vs[i]? = some u → L[i]? = some e → OwnE base W u e) (hx : OwnE base W x e)
    (hown : W'.ownsRow base 26 1 (.slice (some ⟨g, 0, none⟩) (k + 1) cap) (k + 1) (vs ++ [x])) (hgrow : (W.alloc (.cells #[x] 26)).grownBy W' v.ownBlock) : RwE base W' (.slice (some ⟨g, 0, none⟩) (k + 1) cap) (L ++ [e]) := by
  have hlv : vs.length = k := by have := h1.1; omega
  refine ⟨vs ++ [x], by rw [show (L ++ [e]).length = k + 1 by simp [hk]]; exact hown, fun i u r' hu hr' => ?_⟩
  have up : ∀ {u : Value} {r' : List Nd}, OwnE base W u r' → OwnE base W' u r' := fun {u r'} h =>
    (World.ownsRow.alloc h _).kept hgrow (row_apart (World.ownsRow.alloc h (.cells #[x] 26)) (h1.alloc _) (by decide))
  by_cases hi : i < k
  · rw [List.getElem?_append_left (by omega)] at hu hr'
    exact up (h2 i u r' hu hr')
  · have hik : i = k := by
      have := (List.getElem?_eq_some_iff.1 hu).1
      simp at this; omega
    subst hik
    rw [List.getElem?_append_right (by omega)] at hu hr'
    simp [hlv] at hu; simp [hk] at hr'
    subst hu hr'
    exact up hx
theorem RwE.sg {β : Type} {P : World → List Value → β → Prop} {M : List β} {q : β → List Nd} (h : RwE base W v (M.map q)) (hP : ∀ u x, OwnE base W u (q x) → P W [u] x) : Sg 1 P W v M := by
  obtain ⟨vs, h1, h2⟩ := h
  have hl : vs.length = M.length := by have := h1.1; rw [List.length_map] at this; omega
  refine ⟨vs.map oneC, ?_, by simp [hl], fun i c x hc hx => ?_⟩
  · have h3 : Sl oneC 1 W v vs := Sl.own oneC_len (by rw [flat_one]; exact h1) (by rw [hl, List.length_map])
    rcases h3 with ⟨h4, a', c', h5⟩ | ⟨b, o, c', h4, h5, h6, h7⟩
    · exact Or.inl ⟨by rw [h4]; rfl, a', c', h5⟩
    · refine Or.inr ⟨b, o, c', by rw [List.length_map]; exact h4, by rw [List.length_map]; exact h5, h6, fun i x hi j u hu => ?_⟩
      rw [List.getElem?_map] at hi
      obtain ⟨y, hy, rfl⟩ := Option.map_eq_some_iff.1 hi
      exact h7 i y hy j u hu
  · rw [List.getElem?_map] at hc
    obtain ⟨u, hu, rfl⟩ := Option.map_eq_some_iff.1 hc
    exact hP u x (h2 i u (q x) hu (by rw [List.getElem?_map, hx]; rfl))
end
theorem Gr.fr {S : Nat → Prop} {w w1 w2 : World} {v v' : Value} (h : Fr S w w1) (hg : Gr w1 v w2 v') (hv : ∀ g, v.ownBlock = some g → w.heap.size ≤ g) : Fr S w w2 :=
  Fr.trans (S' := fun k => w.heap.size ≤ k) h ⟨hg.os, hg.tape, hg.output, hg.size, fun k hk hn => hg.block k hk (fun e => hn (hv k e))⟩ (fun i hi hs => by omega)
end Go.Proofs.YtmklieoikbgmpaaDoor
namespace Go.Proofs.YtmklieoikbgmpaaDoor
open Go.RowKit Go.Shelf Tx Px
theorem args_cases {L : List Tok} {f i o : Nat} {l : List Fo} {r : Res} (h : P L f (.args l) i o = some r) :
    ∃ g, f = g + 1 ∧ ((∃ e, P L g (.bin 0) i o = some (.error e) ∧ r = .error e) ∨ ∃ a j, P L g (.bin 0) i o = some (.ok ([a], j)) ∧
      ((isT L j tRpar = true ∧ r = .ok (l ++ [a], j + 1)) ∨ (isT L j tRpar = false ∧ isT L j tComma = true ∧ P L g (.args (l ++ [a])) (j + 1) o = some r) ∨ (isT L j tRpar = false ∧ isT L j tComma = false ∧ r = .error (5, atP L j)))) := by
  cases f with
  | zero => cases h
  | succ g =>
    refine ⟨g, rfl, ?_⟩
    simp only [P, stepP] at h
    rcases thenE_some h with ⟨e, h1, h2⟩ | ⟨a, j, h1, h2⟩
    · exact Or.inl ⟨e, h1, h2⟩
    · refine Or.inr ⟨a, j, h1, ?_⟩
      split at h2
      · rename_i h3; exact Or.inl ⟨h3, (Option.some.inj h2).symm⟩
      rename_i h3
      split at h2
      · rename_i h4; exact Or.inr (Or.inl ⟨by simpa using h3, h4, h2⟩)
      · rename_i h4; exact Or.inr (Or.inr ⟨by simpa using h3, by simpa using h4, (Option.some.inj h2).symm⟩)
def RPosts (St : World → Int → Int → Int → Int → Prop) (rb : Nat) (o : Int) (w : World) (r : Res) (e : Ending) (w' : World) : Prop :=
  Al rb w w' ∧ match r with
  | .error (c, p) => ∃ (a : Option Addr) (n k i : Nat), e = .returned (.slice a n k) ∧ c ≠ 0 ∧ i ≤ 200000 ∧ St w' (i : Nat) o c p
  | .ok (l, i) => ∃ v, e = .returned v ∧ RwE w.heap.size w' v (l.map (Fo.flat 0)) ∧ St w' (i : Nat) o 0 0
def LpA (St : World → Int → Int → Int → Int → Prop) (L : List Tok) (rb base : Nat) (o : Nat) (w : World) (fu : Nat) (r : Res) (ov : Value) (wr : World) : Prop :=
  Al rb w wr ∧ ((∃ (Fs : List Fo) (i g : Nat), g < fu ∧ RwE base wr ov (Fs.map (Fo.flat 0)) ∧ (∀ F ∈ Fs, Px.Good F) ∧ (cat Fs).size + Fs.length ≤ 3 * i ∧ i ≤ L.length ∧ St wr (i : Nat) o 0 0 ∧ P L g (.args Fs) i o = some r) ∨
    ∃ (c p : Int) (a : Option Addr) (m k i : Nat), r = .error (c, p) ∧ c ≠ 0 ∧ i ≤ 200000 ∧ St wr (i : Nat) o c p ∧ ov = .slice a m k)
section
variable {L : List Tok} {a : Option Addr} {cc rb : Nat} {w0 : World}
end
end Go.Proofs.YtmklieoikbgmpaaDoor
namespace Go.Proofs.YtmklieoikbgmpaaDoor
open Go.RowKit Go.Shelf Tx Px
section
variable {L : List Tok} {a : Option Addr} {cc rb : Nat} {w0 : World} {lv pm : Value}
theorem e4take_yes (EV : Hid (EnvOk w0 rb a cc L)) (I : Nat) (hI : I ≤ 200000) (o p : Int) (s : ByteArray) (hs : isT L I s = true) (w : World) (hB : Al rb w0 w) (hR : Re w rb (.slice a L.length cc) I o 0 p lv pm) :
    Calls Tryd.prog 64 #[.pointer (some ⟨rb, 0, none⟩), .string s] w fun e w' => e = .returned (.bool true) ∧ Re w' rb (.slice a L.length cc) ((I : Int) + 1) o 0 p lv pm ∧ Al rb w w' := etake_yes EV I hI o p s hs w hB hR
theorem e4take_no (EV : Hid (EnvOk w0 rb a cc L)) (I : Nat) (hI : I ≤ 200000) (o c p : Int) (s : ByteArray) (hn : isT L I s = false ∨ c ≠ 0) (w : World) (hB : Al rb w0 w) (hR : Re w rb (.slice a L.length cc) I o c p lv pm) (hs : s ≠ noS := by decide) :
    Calls Tryd.prog 64 #[.pointer (some ⟨rb, 0, none⟩), .string s] w fun e w' => e = .returned (.bool false) ∧ Below w.heap.size w w' := (etake_no EV I hI o c p s hs hn w hB hR).mono fun _ _ ⟨h1, q, h2⟩ => ⟨h1, by rw [h2]; exact below_drawn (Below.refl _ _) _⟩
theorem e4need_yes (EV : Hid (EnvOk w0 rb a cc L)) (I : Nat) (hI : I ≤ 200000) (o p : Int) (s : ByteArray) (hs : isT L I s = true) (w : World) (hB : Al rb w0 w) (hR : Re w rb (.slice a L.length cc) I o 0 p lv pm) :
    Calls Tryd.prog 67 #[.pointer (some ⟨rb, 0, none⟩), .string s] w fun e w' => e = .returned (.tuple #[]) ∧ Re w' rb (.slice a L.length cc) ((I : Int) + 1) o 0 p lv pm ∧ Al rb w w' := eneed_yes EV I hI o p s hs w hB hR
theorem e4need_no (EV : Hid (EnvOk w0 rb a cc L)) (I : Nat) (hI : I ≤ 200000) (o p : Int) (s : ByteArray) (hn : isT L I s = false) (w : World) (hB : Al rb w0 w) (hR : Re w rb (.slice a L.length cc) I o 0 p lv pm) (hs : s ≠ noS := by decide) :
    Calls Tryd.prog 67 #[.pointer (some ⟨rb, 0, none⟩), .string s] w fun e w' => e = .returned (.tuple #[]) ∧ Re w' rb (.slice a L.length cc) I o 5 (atP L I) lv pm ∧ Al rb w w' := eneed_no EV I hI o p s hs hn w hB hR
theorem e4need_fault (EV : Hid (EnvOk w0 rb a cc L)) (I : Nat) (hI : I ≤ 200000) (o c p : Int) (s : ByteArray) (hc : c ≠ 0) (w : World) (hB : Al rb w0 w) (hR : Re w rb (.slice a L.length cc) I o c p lv pm) (hs : s ≠ noS := by decide) :
    Calls Tryd.prog 67 #[.pointer (some ⟨rb, 0, none⟩), .string s] w fun e w' => e = .returned (.tuple #[]) ∧ Below w.heap.size w w' := (eneed_fault EV I hI o c p s hs hc w hB hR).mono fun _ _ ⟨h1, q, h2⟩ => ⟨h1, by rw [h2]; exact below_drawn (Below.refl _ _) _⟩
variable {lb pb : Nat}
theorem whole_any {g : Nat} (IH : BnOk w0 rb a cc L lb pb g) (I o : Nat) (r : Res) (w : World) (hI : I ≤ L.length) (hP : P L g (.bin 0) I o = some r) (hB : Al rb w0 w) (hR : RE rb a cc L lb pb w I o 0 0) :
    Calls Tryd.prog 15 #[.pointer (some ⟨rb, 0, none⟩)] w (RPost (RE rb a cc L lb pb) rb o w r) := by
  have hc : Calls Tryd.prog 32 #[.pointer (some ⟨rb, 0, none⟩), .int .i64 0] w (RPost (RE rb a cc L lb pb) rb o w r) := IH 0 I o r w (by omega) hI hP hB hR
  have HX : Hid (∀ e w', RPost (RE rb a cc L lb pb) rb o w r e w' → ∃ x n k, e = .returned (.slice x n k)) := by
    intro e w' ⟨_, h⟩
    match r, h with
    | .error _, ⟨x, n, k, _, h, _⟩ => exact ⟨x, n, k, h⟩
    | .ok _, ⟨F, v, _, h, ho, _⟩ => obtain ⟨x, k, rfl, _⟩ := ho.form; exact ⟨x, _, k, h⟩
  clear hB hR hP IH
  go_enter Tryd.func15, Tryd.ntmps15
  go_wp2_with fail
  refine hc.mono ?_
  intro e w1 hpost
  obtain ⟨x, n, k, rfl⟩ := HX.out e w1 hpost
  have HP := Lib.hid hpost
  clear hc hpost HX
  go_wp2_with fail
  go_ret
  exact HP.out
end
section
variable {L : List Tok} {a : Option Addr} {cc rb lb pb : Nat} {w0 : World}
set_option maxHeartbeats 1000000 in
theorem eargs_none (EV : Hid (EnvOk w0 rb a cc L)) (J o : Nat) (w : World) (hJ : isT L J tRpar = true) (hB : Al rb w0 w) (hR : RE rb a cc L lb pb w J o 0 0) :
    Calls Tryd.prog 65 #[.pointer (some ⟨rb, 0, none⟩)] w fun e w' => e = .returned (.slice none 0 0) ∧ RE rb a cc L lb pb w' ((J : Int) + 1) o 0 0 ∧ Al rb w w' := by
  have hJL := isT_lt hJ
  have hL := EV.out.len
  have hc := e4take_yes EV J (by omega) o 0 ⟨#[41]⟩ hJ w hB hR
  clear hJ hB hR EV
  go_enter Tryd.func65, Tryd.ntmps65
  go_wp2_with fail
  refine hc.mono ?_
  rintro r w1 ⟨rfl, hR, hA⟩
  have HR := Lib.hid hR
  have HA := Lib.hid hA
  clear hc hR hA
  go_wp2_with fail
  go_ret
  exact ⟨rfl, HR.out, HA.out⟩
set_option maxRecDepth 100000 in
set_option maxHeartbeats 4000000 in
theorem eargs_any (EV : Hid (EnvOk w0 rb a cc L)) (f : Nat) (IH : Hid (∀ g, g < f → BnOk w0 rb a cc L lb pb g)) (J o : Nat) (r : Res) (w : World) (hJ : J ≤ L.length) (hnp : isT L J tRpar = false) (hP : P L f (.args []) J o = some r) (hB : Al rb w0 w) (hR : RE rb a cc L lb pb w J o 0 0) :
    Calls Tryd.prog 65 #[.pointer (some ⟨rb, 0, none⟩)] w (RPosts (RE rb a cc L lb pb) rb o w r) := by
  have hL := EV.out.len
  have hlt := hR.lt
  obtain ⟨nb, hnb⟩ : ∃ nb, nb = w.heap.size := ⟨_, rfl⟩
  have HNB := Lib.hid hnb
  rw [← hnb] at hlt
  have HB := Lib.hid hB
  have hc := e4take_no EV J (by omega) o 0 0 ⟨#[41]⟩ (Or.inl hnp) w hB hR
  have HLP : Hid (∀ w1, Below w.heap.size w w1 → LpA (RE rb a cc L lb pb) L rb nb o w (f + 1) r (.slice none 0 0) w1) := fun w1 hb =>
    ⟨Al.of hb, Or.inl ⟨[], J, f, by omega, RwE.nil_ _ _, (fun F hF => by simp at hF), by simp [cat, Fo.size], hJ, hR.below hb, hP⟩⟩
  clear hB hR hP hnp hnb
  go_enter Tryd.func65, Tryd.ntmps65
  go_wp2_with fail
  refine hc.mono ?_
  rintro e w1 ⟨rfl, hb⟩
  have HLP2 := Lib.hid (HLP.out w1 hb)
  clear hc hb HLP
  go_wp2_with fail
  go_loopw [3] (fun ov wr => LpA (RE rb a cc L lb pb) L rb nb o w (f + 1) r ov wr) (fun _ wr => mR rb 1 3 L.length wr)
  case atStart => exact HLP2.out
  case round =>
    obtain ⟨hA, ⟨Fs, i, g2, hg2, hO, hG, hF, hi, hR, hP⟩ | ⟨c, p, x, n, k, i, hr, hc, hi, hR, rfl⟩⟩ := hrel
    · have hBr : Al rb w0 wr := HB.out.next hA
      obtain ⟨vs, hO1, hO2⟩ := hO.row
      obtain ⟨va, vc, rfl, hvc⟩ := hO.len
      rw [List.length_map] at hO1 hvc ⊢
      obtain ⟨fl, hfl⟩ : ∃ fl, fl = Fs.length := ⟨_, rfl⟩
      rw [← hfl] at hO1 hvc ⊢
      have hfr := mR_ok (N := L.length) hR.cells.2.1 hR.cells.2.2.2.1
      have HM := Lib.hid hfr
      obtain ⟨g3, rfl, hrest⟩ := args_cases hP
      obtain ⟨c0, c1, c2, c3, c4, c5, c6⟩ := hR.cells
      obtain ⟨r3, hr3⟩ : ∃ r3, P L g3 (.bin 0) i o = some r3 := by
        rcases hrest with ⟨e, h, _⟩ | ⟨a, i, h, _⟩
        · exact ⟨_, h⟩
        · exact ⟨_, h⟩
      have hcall := whole_any (IH.out g3 (by omega)) i o r3 wr hi hr3 hBr hR
      have hok := eok_any i o 0 0 _ wr hR
      have hrw : nb ≤ wr.heap.size := by rw [HNB.out]; exact hA.size
      have hflb : fl ≤ 400000 := by omega
      have HR3 := Lib.hid hr3
      have HRS := Lib.hid hrest
      have HO1 := Lib.hid hO1
      have HO2 := Lib.hid hO2
      have HOL := Lib.hid (fun g hg => (World.ownsRow.lt hO1 g hg).1)
      have HG := Lib.hid hG
      have HA := Lib.hid hA
      have HFL := Lib.hid hfl
      clear hr3 hrest hO hO1 hO2 hG hR hP hfr hfl
      go_wp2_with fail
      refine hok.mono ?_
      rintro e w3 ⟨rfl, rfl⟩
      clear hok
      go_wp2_with fail
      refine hcall.mono ?_
      rintro e w3 ⟨hA3, hpost⟩
      have HA3 : Hid (Al rb w w3) := HA.out.next hA3
      have hrw3 : nb ≤ w3.heap.size := by have := hA3.size; omega
      have hO3 : w3.ownsRow nb 26 1 (.slice va fl vc) fl vs := Fr.ownsRow hA3 HO1.out (fun k hk e => by have := HOL.out k hk; omega)
      have HO3 : Hid (∀ (i : Nat) (u : Value) (e : List Nd), vs[i]? = some u → (Fs.map (Fo.flat 0))[i]? = some e → OwnE nb w3 u e) := fun i u e hu he => hA3.ownE (HO2.out i u e hu he) hlt
      clear hcall hA3 c0 c1 c2 c3 c4 c5 c6 hBr hA HO1 HO2
      match r3, hpost with
      | .error (c, p), ⟨y, yn, yk, i3, he, hc, hi3, hR4⟩ =>
        subst he
        have HRE : Hid (r = .error (c, p)) := by
          rcases HRS.out with ⟨e, h, h2⟩ | ⟨a, i, h, _⟩
          · have h3 := HR3.out.symm.trans h; cases h3; exact h2
          · have h3 := HR3.out.symm.trans h; cases h3
        have HR4 := Lib.hid hR4
        clear hR4
        go_wp2_with (at_builtin; refine wpList_app rowE rfl _ _ rfl nb _ _ _ rfl (hO3.alloc _) ⟨w3.heap.size, 0, none⟩ 1 [.slice y yn yk] rfl rfl ?c1 ?c2 ?c3 ?c4 (w3.heap.size + 1) ?c5 ?_)
        case c1 => exact World.news_of_block (heap_alloc_new w3 _)
        case c2 => simp [Value.oneCell']
        case c3 => omega
        case c4 => simp; omega
        case c5 => simp
        intro g cap w4 hown hgrow hat hlt4 hcap
        have hgr : Gr w3 (.slice va fl vc) w4 (.slice (some ⟨g, 0, none⟩) (fl + 1) cap) := gr_append hgrow hat
        have HA4 : Hid (Al rb w w4) := Gr.fr HA3.out hgr (fun g hg => by rw [← HNB.out]; exact HOL.out g hg)
        have HR5 : Hid (RE rb a cc L lb pb w4 i3 o c p) := hgr.blk HR4.out (fun h => by have := HOL.out rb h; omega)
        clear hown hgrow hat hgr hO3 hlt4 hcap
        have ht := e4take_no EV i3 hi3 o c p ⟨#[41]⟩ (Or.inr hc) w4 (HB.out.next HA4.out) HR5.out
        go_wp2_with fail
        refine ht.mono ?_
        rintro e w5 ⟨rfl, hb5⟩
        have HR6 := Lib.hid (HR5.out.below hb5)
        have HA6 := Lib.hid (HA4.out.then hb5)
        have hn := e4need_fault EV i3 hi3 o c p ⟨#[44]⟩ hc w5 (HB.out.next HA6.out) HR6.out
        clear ht hb5
        go_wp2_with fail
        refine hn.mono ?_
        rintro e w6 ⟨rfl, hb6⟩
        have HR7 := Lib.hid (HR6.out.below hb6)
        have HA7 := Lib.hid (HA6.out.then hb6)
        clear hn hb6
        go_wp2_with fail
        go_roundw
        case rel => exact ⟨HA7.out, Or.inr ⟨c, p, _, _, _, i3, HRE.out, hc, hi3, HR7.out, rfl⟩⟩
        case measure => rw [HM.out, mR_err HR7.out.cells.2.2.2.1 hc]; omega
      | .ok (l, j), ⟨F, v, hl, he, hO4, hR4⟩ =>
        subst hl he
        obtain ⟨k1, k2, k3, k4⟩ := (P_ok EV.out.ok g3).bin hi HR3.out
        obtain ⟨ya, yc, rfl, -⟩ := hO4.form
        obtain ⟨yl, hyl⟩ : ∃ yl, yl = (F.flat 0).length := ⟨_, rfl⟩
        rw [← hyl] at hO4 ⊢
        have HR4 := Lib.hid hR4
        have HK1 := Lib.hid k1
        have HO4 : Hid (OwnE nb w3 (.slice ya yl yc) (F.flat 0)) := hO4.mono hrw
        have HRE : Hid ((isT L j tRpar = true ∧ r = .ok (Fs ++ [F], j + 1)) ∨ (isT L j tRpar = false ∧ isT L j tComma = true ∧ P L g3 (.args (Fs ++ [F])) (j + 1) o = some r) ∨ (isT L j tRpar = false ∧ isT L j tComma = false ∧ r = .error (5, atP L j))) := by
          rcases HRS.out with ⟨e, h, h2⟩ | ⟨a, i, h, h2⟩
          · have h3 := HR3.out.symm.trans h; cases h3
          · have h3 := HR3.out.symm.trans h; cases h3; exact h2
        clear hR4 hO4 k1 hyl
        go_wp2_with (at_builtin; refine wpList_app rowE rfl _ _ rfl nb _ _ _ rfl (hO3.alloc _) ⟨w3.heap.size, 0, none⟩ 1 [.slice ya yl yc] rfl rfl ?c6 ?c7 ?c8 ?c9 (w3.heap.size + 1) ?c10 ?_)
        case c6 => exact World.news_of_block (heap_alloc_new w3 _)
        case c7 => simp [Value.oneCell']
        case c8 => omega
        case c9 => simp; omega
        case c10 => simp
        intro g cap w4 hown hgrow hat hlt4 hcap
        have hgr : Gr w3 (.slice va fl vc) w4 (.slice (some ⟨g, 0, none⟩) (fl + 1) cap) := gr_append hgrow hat
        have HA4 : Hid (Al rb w w4) := Gr.fr HA3.out hgr (fun g hg => by rw [← HNB.out]; exact HOL.out g hg)
        have HR5 : Hid (RE rb a cc L lb pb w4 j o 0 0) := hgr.blk HR4.out (fun h => by have := HOL.out rb h; omega)
        have HO5 : Hid (RwE nb w4 (.slice (some ⟨g, 0, none⟩) (fl + 1) cap) ((Fs ++ [F]).map (Fo.flat 0))) := by
          show RwE _ _ _ _
          rw [List.map_append]
          exact RwE.push (by rw [List.length_map, HFL.out]) hO3 HO3.out HO4.out hown hgrow
        clear hown hgrow hat hgr hO3 hlt4 hcap
        rcases hT : isT L j tRpar with _ | _
        · have ht := e4take_no EV j (by omega) o 0 0 ⟨#[41]⟩ (Or.inl hT) w4 (HB.out.next HA4.out) HR5.out
          rcases hT2 : isT L j tComma with _ | _
          · have HRR : Hid (r = .error (5, atP L j)) := by
              rcases HRE.out with h | h | h
              · exact absurd (hT.symm.trans h.1) (by decide)
              · exact absurd (hT2.symm.trans h.2.1) (by decide)
              · exact h.2.2
            have HT2 := Lib.hid hT2
            clear hT hT2
            go_wp2_with fail
            refine ht.mono ?_
            rintro e w5 ⟨rfl, hb5⟩
            have HR6 := Lib.hid (HR5.out.below hb5)
            have HA6 := Lib.hid (HA4.out.then hb5)
            have hn := e4need_no EV j (by omega) o 0 ⟨#[44]⟩ HT2.out w5 (HB.out.next HA6.out) HR6.out
            clear ht hb5
            go_wp2_with fail
            refine hn.mono ?_
            rintro e w6 ⟨rfl, hR7, hA7⟩
            have HR7 := Lib.hid hR7
            have HA7 := Lib.hid (HA6.out.next hA7)
            clear hn hR7 hA7
            go_wp2_with fail
            go_roundw
            case rel => exact ⟨HA7.out, Or.inr ⟨5, atP L j, _, _, _, j, HRR.out, by decide, by omega, HR7.out, rfl⟩⟩
            case measure => rw [HM.out, mR_err HR7.out.cells.2.2.2.1 (by decide)]; omega
          · have HRR : Hid (P L g3 (.args (Fs ++ [F])) (j + 1) o = some r) := by
              rcases HRE.out with h | h | h
              · exact absurd (hT.symm.trans h.1) (by decide)
              · exact h.2.2
              · exact absurd (hT2.symm.trans h.2.1) (by decide)
            have hjl := isT_lt hT2
            have HT2 := Lib.hid hT2
            clear hT hT2
            go_wp2_with fail
            refine ht.mono ?_
            rintro e w5 ⟨rfl, hb5⟩
            have HR6 := Lib.hid (HR5.out.below hb5)
            have HA6 := Lib.hid (HA4.out.then hb5)
            have HO6 := Lib.hid (HO5.out.below hb5)
            have hn := e4need_yes EV j (by omega) o 0 ⟨#[44]⟩ HT2.out w5 (HB.out.next HA6.out) HR6.out
            clear ht hb5
            go_wp2_with fail
            refine hn.mono ?_
            rintro e w6 ⟨rfl, hR7, hA7⟩
            have HR7 : Hid (RE rb a cc L lb pb w6 ((j + 1 : Nat) : Int) o 0 0) := by show Re _ _ _ _ _ _ _ _ _; simpa using hR7
            have HA7 := Lib.hid (HA6.out.next hA7)
            have HO7 := Lib.hid (HO6.out.fr hA7 (fun g hg e => by omega))
            have hsz : (cat (Fs ++ [F])).size + (Fs ++ [F]).length ≤ 3 * (j + 1) := by
              rw [cat_snoc, Fo.size_app, List.length_append, List.length_singleton]; omega
            have HSZ := Lib.hid hsz
            clear hn hR7 hA7 hsz
            go_wp2_with fail
            go_roundw
            case rel => exact ⟨HA7.out, Or.inl ⟨Fs ++ [F], j + 1, g3, by omega, HO7.out, (fun G hG => by
              rcases List.mem_append.1 hG with h | h
              · exact HG.out G h
              · rw [List.mem_singleton.1 h]; exact HK1.out), HSZ.out, by omega, HR7.out, HRR.out⟩⟩
            case measure => rw [HM.out, mR_ok HR7.out.cells.2.1 HR7.out.cells.2.2.2.1]; omega
        · have ht := e4take_yes EV j (by omega) o 0 ⟨#[41]⟩ hT w4 (HB.out.next HA4.out) HR5.out
          have HRR : Hid (r = .ok (Fs ++ [F], j + 1)) := by
            rcases HRE.out with h | h | h
            · exact h.2
            · exact absurd (hT.symm.trans h.1) (by decide)
            · exact absurd (hT.symm.trans h.1) (by decide)
          clear hT
          go_wp2_with fail
          refine ht.mono ?_
          rintro e w5 ⟨rfl, hR6, hA6⟩
          have HR6 : Hid (RE rb a cc L lb pb w5 ((j + 1 : Nat) : Int) o 0 0) := by show Re _ _ _ _ _ _ _ _ _; simpa using hR6
          have HA7 := Lib.hid (HA4.out.next hA6)
          have HO7 := Lib.hid (HO5.out.fr hA6 (fun g hg e => by omega))
          clear ht hR6 hA6
          go_wp2_with fail
          go_ret
          rw [HRR.out]
          exact ⟨HA7.out, _, rfl, by rw [← HNB.out]; exact HO7.out, HR6.out⟩
    · obtain ⟨c0, c1, c2, c3, c4, c5, c6⟩ := hR.cells
      have hok := eok_any i o c p _ wr hR
      rw [decide_eq_false hc] at hok
      have HE : Hid (RPosts (RE rb a cc L lb pb) rb o w r (.returned (.slice none 0 0)) wr) := by
        show RPosts _ _ _ _ _ _ _
        rw [hr]; exact ⟨hA, none, 0, 0, i, rfl, hc, hi, hR⟩
      clear hA hR hr hc hi
      go_wp2_with fail
      refine hok.mono ?_
      rintro e w3 ⟨rfl, rfl⟩
      clear hok
      go_wp2_with fail
      go_ret
      exact HE.out
end
end Go.Proofs.YtmklieoikbgmpaaDoor
namespace Go.Proofs.YtmklieoikbgmpaaDoor
open Go.RowKit Go.Shelf Tx Px
section
variable {L : List Tok} {a : Option Addr} {cc rb lb pb : Nat} {w0 : World}
set_option maxRecDepth 100000 in
set_option maxHeartbeats 4000000 in
theorem operand_fault (i o c p : Int) (hc : c ≠ 0) (w : World) (hR : RE rb a cc L lb pb w i o c p) :
    Calls Tryd.prog 44 #[.pointer (some ⟨rb, 0, none⟩)] w fun e w' => e = .returned (.slice none 0 0) ∧ Below w.heap.size w w' := by
  have hb : Below w.heap.size w (w.alloc (.cells #[.pointer (some ⟨rb, 0, none⟩)] 49)) := (Below.refl _ _).alloc (Nat.le_refl _) _
  have hbx := (one_cell (Blk.new w #[.pointer (some ⟨rb, 0, none⟩)] 49)).1
  have hok := eok_any i o c p _ _ (hR.below hb)
  rw [decide_eq_false hc] at hok
  have HB := Lib.hid hb
  clear hR hb hc
  go_enter_defers Tryd.func44, Tryd.ntmps44
  go_wp2_with fail
  refine hok.mono ?_
  rintro e w3 ⟨rfl, rfl⟩
  clear hok
  go_wp2_with fail
  exact ⟨_, results_tmp rfl _ _ _, rfl, HB.out⟩
set_option maxRecDepth 100000 in
set_option maxHeartbeats 4000000 in
theorem binary_fault {ms : Nat → Nat} (EX : Hid (EnvX w0 rb a cc L lb pb ms)) (i : Nat) (hi : i ≤ 200000) (o c p : Int) (hc : c ≠ 0) : ∀ (k n : Nat), n + k = 8 → ∀ (w : World), Al rb w0 w → RE rb a cc L lb pb w i o c p →
    Calls Tryd.prog 32 #[.pointer (some ⟨rb, 0, none⟩), .int .i64 (n : Nat)] w fun e w' => e = .returned (.slice none 0 0) ∧ Below w.heap.size w w'
  | 0, n, hn, w, _, hR => by
    obtain rfl : n = 8 := by omega
    have hop := operand_fault i o c p hc w hR
    obtain ⟨c0, c1, c2, c3, c4, c5, c6⟩ := hR.cells
    clear hR hc
    go_enter Tryd.func32, Tryd.ntmps32
    go_wp2_with fail
    refine hop.mono ?_
    rintro e w3 ⟨rfl, hb⟩
    have HB := Lib.hid hb
    clear hop hb
    go_wp2_with fail
    go_ret
    exact ⟨rfl, HB.out⟩
  | k + 1, n, hn, w, hB, hR => by
    have hcall : Calls Tryd.prog 32 #[.pointer (some ⟨rb, 0, none⟩), .int .i64 ((n : Int) + 1)] w fun e w' => e = .returned (.slice none 0 0) ∧ Below w.heap.size w w' := binary_fault EX i hi o c p hc k (n + 1) (by omega) w hB hR
    obtain ⟨c0, c1, c2, c3, c4, c5, c6⟩ := hR.cells
    have hn8 : ((n : Int) == 8) = false := by rw [beq_eq_false_iff_ne]; omega
    have hn9 : (n : Int) < 8 := by omega
    have hn0 : (0 : Int) ≤ (n : Int) := by omega
    have HN : Hid (n < 8) := by show _ < _; omega
    have HR := Lib.hid hR
    have HAB := Lib.hid hB
    have EV : Hid (EnvOk w0 rb a cc L) := EX.out.ev
    have HC := Lib.hid hc
    clear hR hB hn hc
    go_enter Tryd.func32, Tryd.ntmps32
    go_wp2_with fail
    refine hcall.mono ?_
    rintro e w1 ⟨rfl, hb⟩
    have HB1 := Lib.hid hb
    have hA1 : Al rb w0 w1 := HAB.out.then hb
    have HA1 := Lib.hid hA1
    obtain ⟨M0, l0, l1, l2⟩ := EX.out.lv w1 hA1 n HN.out
    have HR1 := Lib.hid (HR.out.below hb)
    obtain ⟨m, hm⟩ : ∃ m, m = ms n := ⟨_, rfl⟩
    rw [← hm] at M0 l0
    obtain ⟨rg, hrg⟩ : ∃ rg, rg = decide (n ≤ 1) := ⟨_, rfl⟩
    obtain ⟨oc, hoc⟩ : ∃ oc, oc = decide (n = 5) := ⟨_, rfl⟩
    rw [← hrg] at l1
    rw [← hoc] at l2
    clear hrg hoc hm hA1 hcall hb c0 c1 c2 c3 c4 c5 c6
    obtain ⟨c0, c1, c2, c3, c4, c5, c6⟩ := HR1.out.cells
    have M1 := Lib.hid M0
    clear M0
    go_wp2_with fail
    obtain ⟨W, hW⟩ : ∃ W, W = w1.alloc (.cells #[.map (some m), .bool rg, .bool oc] 74) := ⟨_, rfl⟩
    have hbl : Below w1.heap.size w1 W := by rw [hW]; exact (Below.refl _ _).alloc (Nat.le_refl _) _
    have hbk : Blk W w1.heap.size #[.map (some m), .bool rg, .bool oc] 74 := by rw [hW]; exact Blk.new w1 _ _
    have hhere := fun q => ehere_any EV i hi o c p (W.drewN q) ((HA1.out.then hbl).drewN q) ((HR1.out.below hbl).drewN q)
    have hsn : hereS c L i = noS := by unfold hereS; rw [if_neg HC.out]
    rw [hsn] at hhere
    have hlk : ∀ q, (Instr.lookup 52 (.map (some m)) (.string noS) true).run Tryd.prog (W.drewN q) = .ok (.tuple #[((look noS (lvl n)).map vI).getD (.int .i64 0), .bool (look noS (lvl n)).isSome]) (W.drewN q) :=
      fun q => ((map_past M1.out hbl).of_block (w' := W.drewN q) rfl).lookup keyText Tryd.underlying52 (z := .int .i64 0) (fun w => by kernel_rfl) noS
    rw [look_noS] at hlk
    simp only [Option.map_none, Option.getD_none, Option.isSome_none] at hlk
    obtain ⟨b0, b1, b2⟩ := tri_cells hbk
    have HBL := Lib.hid hbl
    rw [← hW]
    clear hsn hbk hbl hW c0 c1 c2 c3 c4 c5 c6 l0 l1 l2
    go_loopw [5, 6] (fun av lv wr => av = .slice none 0 0 ∧ lv = .pointer (some ⟨w1.heap.size, 0, none⟩) ∧ wr = W) (fun _ _ _ => 0)
    case atStart => exact ⟨rfl, rfl, rfl⟩
    case round =>
      obtain ⟨rfl, rfl, hwr⟩ := hrel
      subst hwr
      go_wp2_with fail
      go_quiet ((go_at_call 45; exact Calls.quiet_of (hhere _)))
      have HB2 := Lib.hid (below_drawn (Below.refl wr.heap.size wr) nq)
      generalize wr.drewN nq = V at HB2
      clear hhere hlk b0 b1 b2
      go_wp2_with fail
      go_ret
      exact ⟨rfl, below_next HB1.out (below_next HBL.out HB2.out)⟩
theorem whole_fault {ms : Nat → Nat} (EX : Hid (EnvX w0 rb a cc L lb pb ms)) (i : Nat) (hi : i ≤ 200000) (o c p : Int) (hc : c ≠ 0) (w : World) (hB : Al rb w0 w) (hR : RE rb a cc L lb pb w i o c p) :
    Calls Tryd.prog 15 #[.pointer (some ⟨rb, 0, none⟩)] w fun e w' => e = .returned (.slice none 0 0) ∧ Below w.heap.size w w' := by
  have hcall : Calls Tryd.prog 32 #[.pointer (some ⟨rb, 0, none⟩), .int .i64 0] w fun e w' => e = .returned (.slice none 0 0) ∧ Below w.heap.size w w' := binary_fault EX i hi o c p hc 8 0 rfl w hB hR
  clear hB hR hc
  go_enter Tryd.func15, Tryd.ntmps15
  go_wp2_with fail
  refine hcall.mono ?_
  rintro e w1 ⟨rfl, hb⟩
  have HB := Lib.hid hb
  clear hcall hb
  go_wp2_with fail
  go_ret
  exact ⟨rfl, HB.out⟩
end
end Go.Proofs.YtmklieoikbgmpaaDoor
namespace Go.Proofs.YtmklieoikbgmpaaDoor
open Go.RowKit Go.Shelf Tx Px
def namedS (p : Orc) (L : List Tok) (name : ByteArray) (I o : Nat) : Option Res :=
  if isT L (I + 1) tLpar then (if isT L (I + 2) tRpar then one (joinF 27 0 name []) (I + 3) else callS name (p (.args []) (I + 2) o)) else one (node 3 0 name .no) (I + 1)
section
variable {L : List Tok} {a : Option Addr} {cc rb : Nat} {w0 : World}
end
end Go.Proofs.YtmklieoikbgmpaaDoor
namespace Go.Proofs.YtmklieoikbgmpaaDoor
open Go.RowKit Go.Shelf Tx Px
section
variable {L : List Tok} {a : Option Addr} {cc rb : Nat} {w0 : World}
end
end Go.Proofs.YtmklieoikbgmpaaDoor
namespace Go.Proofs.YtmklieoikbgmpaaDoor
open Go.RowKit Go.Shelf Tx Px
section
variable {L : List Tok} {a : Option Addr} {cc rb : Nat} {w0 : World}
end
end Go.Proofs.YtmklieoikbgmpaaDoor
namespace Go.Proofs.YtmklieoikbgmpaaDoor
open Go.RowKit Go.Shelf Tx Px
section
variable {L : List Tok} {a : Option Addr} {cc rb : Nat} {w0 : World}
end
end Go.Proofs.YtmklieoikbgmpaaDoor
namespace Go.Proofs.YtmklieoikbgmpaaDoor
open Go.RowKit Go.Shelf Tx Px
section
variable {L : List Tok} {a : Option Addr} {cc rb : Nat} {w0 : World}
end
end Go.Proofs.YtmklieoikbgmpaaDoor
namespace Go.Proofs.YtmklieoikbgmpaaDoor
open Go.RowKit Go.Shelf Tx Px
section
variable {L : List Tok} {a : Option Addr} {cc rb : Nat} {w0 : World}
end
end Go.Proofs.YtmklieoikbgmpaaDoor
