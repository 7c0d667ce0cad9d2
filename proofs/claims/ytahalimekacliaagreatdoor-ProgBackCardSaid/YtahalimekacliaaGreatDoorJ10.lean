/- Readers of expressions: what both share: their memory, tokens. Readers of expressions: what one level's answer is made of: the plain part. The reference's reader of expressions: operators ahead of an operand; numbers; within: the walk. The reference's reader of expressions: behind if: the walk. -/
import Derived.Deep.QuietTactic
import Derived.BigQuiet
import Derived.Lib.Hide
import Derived.Test.YtahalimekacliaaGreatDoorJ1
import Derived.Test.YtahalimekacliaaGreatDoorJ2
import Derived.Test.YtahalimekacliaaGreatDoorJ7
import Derived.Test.YtahalimekacliaaGreatDoorJ8
import Derived.Test.YtahalimekacliaaGreatDoorJ9
set_option linter.unusedVariables false
set_option linter.unusedSimpArgs false
namespace Go.Proofs.YtahalimekacliaaGreatDoor
open Go.RowKit Go.Shelf Tx Px
abbrev Al (rb : Nat) (w w' : World) : Prop := Fr (fun k => k = rb) w w'
section
variable {W W' : World} {rb : Nat}
theorem set_size (W : World) (a : Addr) (y : Value) : (W.setCell a y).heap.size = W.heap.size := by simp [World.setCell]
theorem Al.set {w : World} (h : Al rb w W) (i : Nat) (y : Value) : Al rb w (W.setCell ⟨rb, i, none⟩ y) := by
  refine ⟨h.os, h.tape, h.output, ?_, fun k hk hn => ?_⟩
  · rw [set_size]; exact h.size
  · rw [Below.heap_setCell _ _ _ _ (by show k ≠ rb; exact hn)]; exact h.block k hk hn
theorem Al.next {w : World} (h : Al rb w W) (k : Al rb W W') : Al rb w W' := Fr.trans h k fun _ _ q => q
theorem Al.then {w : World} (h : Al rb w W) (k : Below W.heap.size W W') : Al rb w W' := h.next (Fr.of_below k _)
theorem Al.refl (rb : Nat) (w : World) : Al rb w w := Fr.refl _ w
theorem Al.drew {w : World} (h : Al rb w W) : Al rb w W.drew := ⟨h.os, h.tape, h.output, h.size, h.block⟩
theorem Al.drewN {w : World} (h : Al rb w W) (q : Nat) : Al rb w (W.drewN q) := ⟨h.os, h.tape, h.output, h.size, h.block⟩
theorem Al.of (h : Below W.heap.size W W') : Al rb W W' := Fr.of_below h _
theorem Al.ownE {base : Nat} {v : Value} {e : List Nd} (h : Al rb W W') (ho : OwnE base W v e) (hb : rb < base) : OwnE base W' v e := Fr.ownsRow h ho (fun k hk e => by have := (World.ownsRow.lt ho k hk).1; omega)
theorem Al.blk {b T : Nat} {cs : Array Value} (h : Al rb W W') (hk : Blk W b cs T) (hb : b ≠ rb) : Blk W' b cs T := (h.block b hk.lt hb).trans hk
theorem Al.keeps {w0 : World} {base : Nat} (h : Al rb W W') (hb : Below base w0 W) (hlt : base ≤ W.heap.size) (hr : base ≤ rb) : Below base w0 W' := Fr.below hb h hlt (fun i hi => by omega)
end
def TokAt (w0 : World) (rb : Nat) (a : Option Addr) (L : List Tok) : Prop := ∀ W, Al rb w0 W → ∀ i x, L[i]? = some x → ∃ b o, a = some ⟨b, o, none⟩ ∧ W.cell? ⟨b, o + i * 3, none⟩ = some (.int .i64 x.k) ∧ W.cell? ⟨b, o + i * 3 + 1, none⟩ = some (.string x.t) ∧ W.cell? ⟨b, o + i * 3 + 2, none⟩ = some (.int .i64 x.p)
structure EnvOk (w0 : World) (rb : Nat) (a : Option Addr) (cc : Nat) (L : List Tok) : Prop where
  len : L.length ≤ 100000
  cap : L.length ≤ cc
  tok : TokAt w0 rb a L
  ok : ∀ t ∈ L, TokOk t
theorem atP_lt {L : List Tok} {i : Nat} {x : Tok} (h : L[i]? = some x) : atP L i = x.p := by unfold atP; rw [h]
theorem atP_ge {L : List Tok} {i : Nat} (h : L.length ≤ i) : atP L i = -1 := by unfold atP; rw [List.getElem?_eq_none h]
theorem isT_kind {L : List Tok} {i : Nat} {x : Tok} (h : L[i]? = some x) (hk : x.k ≠ 3 ∧ x.k ≠ 4) (s : ByteArray) : isT L i s = false := by
  unfold isT hereT; rw [h]; simp [hk.1, hk.2]
theorem isT_text {L : List Tok} {i : Nat} {x : Tok} (h : L[i]? = some x) (hk : x.k = 3 ∨ x.k = 4) (s : ByteArray) : isT L i s = decide (x.t = s) := by
  unfold isT hereT; rw [h]; simp [hk]
theorem bytes_eq (s t : ByteArray) : (s.toList == t.toList) = decide (s = t) := by
  rw [Bool.eq_iff_iff, beq_iff_eq, decide_eq_true_eq, Lib.toList_data, Lib.toList_data]
  exact ⟨fun h => bytes_ext h, fun h => by rw [h]⟩
theorem sg_parts {W : World} {g : Nat} {us : List Value} {Fs : List Fo} {T : TypeId} (h : Blk W g us.toArray T) (hl : us.length = Fs.length) (hx : ∀ (i : Nat) u F, us[i]? = some u → Fs[i]? = some F → IsE W u (F.flat 0)) : Sg 1 IsF W (.slice (some ⟨g, 0, none⟩) Fs.length Fs.length) Fs := by
  refine ⟨us.map oneC, Or.inr ⟨g, 0, Fs.length, by simp [hl], by simp [hl], h.lt, fun i x hi j u hu => ?_⟩, by simp [hl], fun i c F hc hF => ?_⟩
  · rw [List.getElem?_map] at hi
    obtain ⟨y, hy, rfl⟩ := Option.map_eq_some_iff.1 hi
    have hj : j = 0 ∧ u = y := by
      cases j with
      | zero => simp [oneC] at hu; exact ⟨rfl, hu.symm⟩
      | succ j => simp [oneC] at hu
    obtain ⟨rfl, rfl⟩ := hj
    unfold Blk at h
    simp [World.cell?, h, hy]
  · rw [List.getElem?_map] at hc
    obtain ⟨u, hu, rfl⟩ := Option.map_eq_some_iff.1 hc
    exact ⟨u, rfl, hx i u F hu hF⟩
theorem sg_two {W : World} {g : Nat} {u v : Value} {A B : Fo} {T : TypeId} (h : Blk W g #[u, v] T) (hu : IsE W u (A.flat 0)) (hv : IsE W v (B.flat 0)) : Sg 1 IsF W (.slice (some ⟨g, 0, none⟩) 2 2) [A, B] :=
  sg_parts (us := [u, v]) (Fs := [A, B]) h rfl fun i x F hx hF => by
    match i with
    | 0 => simp at hx hF; subst hx hF; exact hu
    | 1 => simp at hx hF; subst hx hF; exact hv
    | i + 2 => simp at hx
theorem sg_one {W : World} {g : Nat} {u : Value} {A : Fo} {T : TypeId} (h : Blk W g #[u] T) (hu : IsE W u (A.flat 0)) : Sg 1 IsF W (.slice (some ⟨g, 0, none⟩) 1 1) [A] :=
  sg_parts (us := [u]) (Fs := [A]) h rfl fun i x F hx hF => by
    match i with
    | 0 => simp at hx hF; subst hx hF; exact hu
    | i + 1 => simp at hx
theorem sg_three {W : World} {g : Nat} {u v z : Value} {A B C : Fo} {T : TypeId} (h : Blk W g #[u, v, z] T) (hu : IsE W u (A.flat 0)) (hv : IsE W v (B.flat 0)) (hz : IsE W z (C.flat 0)) : Sg 1 IsF W (.slice (some ⟨g, 0, none⟩) 3 3) [A, B, C] :=
  sg_parts (us := [u, v, z]) (Fs := [A, B, C]) h rfl fun i x F hx hF => by
    match i with
    | 0 => simp at hx hF; subst hx hF; exact hu
    | 1 => simp at hx hF; subst hx hF; exact hv
    | 2 => simp at hx hF; subst hx hF; exact hz
    | i + 3 => simp at hx
theorem join_two (op n : Int) (A B : Fo) (h : op ≠ 27) : joinF op n noS [A, B] = node op n noS (A.app B) := by
  unfold joinF node; rw [if_neg h]; simp [cat, Fo.app_no]
theorem join_one (op n : Int) (A : Fo) (h : op ≠ 27) : joinF op n noS [A] = node op n noS A := by
  unfold joinF node; rw [if_neg h]; simp [cat, Fo.app_no]
theorem join_three (op n : Int) (A B C : Fo) (h : op ≠ 27) : joinF op n noS [A, B, C] = node op n noS (A.app (B.app C)) := by
  unfold joinF node; rw [if_neg h]; simp [cat, Fo.app_no]
theorem join_nil (op n : Int) (s : ByteArray) (h : op ≠ 27) : joinF op n s [] = node op n s .no := by
  unfold joinF node; rw [if_neg h]; simp [cat]
def RPost (St : World → Int → Int → Int → Int → Prop) (rb : Nat) (o : Int) (w : World) (r : Res) (e : Ending) (w' : World) : Prop :=
  Al rb w w' ∧ match r with
  | .error (c, p) => ∃ (a : Option Addr) (n k i : Nat), e = .returned (.slice a n k) ∧ c ≠ 0 ∧ i ≤ 200000 ∧ St w' (i : Nat) o c p
  | .ok (l, i) => ∃ F v, l = [F] ∧ e = .returned v ∧ OwnE w.heap.size w' v (F.flat 0) ∧ St w' (i : Nat) o 0 0
theorem rpost_err {St : World → Int → Int → Int → Int → Prop} {rb : Nat} {o : Int} {w w' : World} {c p : Int} {a : Option Addr} {n k i : Nat} (h : Al rb w w') (hc : c ≠ 0) (hi : i ≤ 200000) (hs : St w' (i : Nat) o c p) : RPost St rb o w (.error (c, p)) (.returned (.slice a n k)) w' := ⟨h, a, n, k, i, rfl, hc, hi, hs⟩
theorem rpost_ok {St : World → Int → Int → Int → Int → Prop} {rb : Nat} {o : Int} {w w' : World} {i : Nat} {F : Fo} {v : Value} (h : Al rb w w') (hv : OwnE w.heap.size w' v (F.flat 0)) (hs : St w' (i : Nat) o 0 0) : RPost St rb o w (.ok ([F], i)) (.returned v) w' := ⟨h, F, v, rfl, rfl, hv, hs⟩
theorem str_beq (a b : ByteArray) : (a == b) = true ↔ a = b := by
  obtain ⟨x⟩ := a
  obtain ⟨y⟩ := b
  constructor
  · intro h
    have e : x = y := by simpa using (show (x == y) = true from h)
    rw [e]
  · intro h
    cases h
    show (x == x) = true
    simp
theorem keyLaw_str {P : Program} {k : TypeId} (hk : P.underlying k = some .string) : KeyLaw' P k Value.string where
  inj a b h := by simpa using h
  check b x w := by
    show (Instr.checkKey b (9999 + 1) k (.string x)).run P w = .ok () w
    rw [Instr.checkKey]
    simp [run_underlying hk, go_sem]
  find x es l hl w := by
    have key : ∀ (es : List MapEntry) (l : List ByteArray) (i : Nat), es.map (·.key) = l.map Value.string →
        ∃ r, Instr.findNow .string (.string x) es i = some r ∧ ((r = none ∧ x ∉ l) ∨ ∃ j e, r = some (i + j, e.val) ∧ es[j]? = some e ∧ l[j]? = some x ∧ ∀ j', j' < j → l[j']? ≠ some x) := by
      intro es
      induction es with
      | nil => intro l i h; cases l <;> simp at h; exact ⟨none, rfl, Or.inl ⟨rfl, by simp⟩⟩
      | cons e es ih =>
        intro l i h
        cases l with
        | nil => simp at h
        | cons y l =>
          simp at h
          obtain ⟨he, h⟩ := h
          simp only [Instr.findNow, he, Instr.sameNow]
          by_cases hxy : x = y
          · subst hxy
            have : (x == x) = true := (str_beq x x).2 rfl
            simp only [this]
            exact ⟨_, rfl, Or.inr ⟨0, e, rfl, rfl, rfl, by simp⟩⟩
          · have : (x == y) = false := by
              cases hb : (x == y) with
              | true => exact absurd ((str_beq x y).1 hb) hxy
              | false => rfl
            simp only [this]
            obtain ⟨r, h1, h2⟩ := ih l (i + 1) h
            refine ⟨r, h1, ?_⟩
            rcases h2 with ⟨rfl, hn⟩ | ⟨j, e', rfl, h3, h4, h5⟩
            · exact Or.inl ⟨rfl, by simp [hxy, hn]⟩
            · refine Or.inr ⟨j + 1, e', by simp; omega, by simpa using h3, by simpa using h4, ?_⟩
              intro j' hj'
              cases j' with
              | zero => simp; exact fun e => hxy e.symm
              | succ j' => simpa using h5 j' (by omega)
    obtain ⟨r, h1, h2⟩ := key es l 0 hl
    refine ⟨r, ?_, by simpa using h2⟩
    simp [Instr.findKey, run_underlying hk, h1, go_sem]
  stays x w := by
    have h : Instr.sameBits (9999 + 1) (.string x) (.string x) = true := by rw [Instr.sameBits]; exact (str_beq x x).2 rfl
    have h' : Instr.sameBits 10000 (.string x) (.string x) = true := h
    simp [Instr.keyThatStays, h', go_sem]
end Go.Proofs.YtahalimekacliaaGreatDoor
namespace Go.Proofs.YtahalimekacliaaGreatDoor
open Go.RowKit Go.Shelf Tx Px
theorem bin_cases {L : List Tok} {f n I o : Nat} {r : Res} (hn : n < 8) (h : P L f (.bin n) I o = some r) :
    ∃ g, f = g + 1 ∧ ((∃ e, P L g (.bin (n + 1)) I o = some (.error e) ∧ r = .error e) ∨ ∃ a i, P L g (.bin (n + 1)) I o = some (.ok ([a], i)) ∧ P L g (.loop n a) i o = some r) := by
  cases f with
  | zero => cases h
  | succ g =>
    refine ⟨g, rfl, ?_⟩
    simp only [P, stepP, if_pos hn] at h
    rcases thenE_some h with ⟨e, h1, h2⟩ | ⟨a, i, h1, h2⟩
    · exact Or.inl ⟨e, h1, h2⟩
    · exact Or.inr ⟨a, i, h1, h2⟩
theorem top_cases {L : List Tok} {f I o : Nat} {r : Res} (h : P L f (.bin 8) I o = some r) : ∃ g, f = g + 1 ∧ operandS (P L g) L I o = some r := by
  cases f with
  | zero => cases h
  | succ g => exact ⟨g, rfl, by simpa [P, stepP] using h⟩
def both (op : Int) (sw : Bool) (a b : Fo) : Fo := node op 0 noS (if sw then b.app a else a.app b)
theorem loop_cases {L : List Tok} {f n i o : Nat} {a : Fo} {r : Res} (h : P L f (.loop n a) i o = some r) :
    ((hereT L i).bind (Px.opAt n) = none ∧ r = .ok ([a], i)) ∨ ∃ g s op sw, f = g + 1 ∧ hereT L i = some s ∧ Px.opAt n s = some (op, sw) ∧
      ((∃ e, P L g (.bin (if n ≤ 1 then n else n + 1)) (i + 1) o = some (.error e) ∧ r = .error e) ∨ ∃ b j, P L g (.bin (if n ≤ 1 then n else n + 1)) (i + 1) o = some (.ok ([b], j)) ∧
        (((n ≤ 1 ∨ n = 5) ∧ r = .ok ([both op sw a b], j)) ∨ (¬ (n ≤ 1 ∨ n = 5) ∧ P L g (.loop n (both op sw a b)) j o = some r))) := by
  cases f with
  | zero => cases h
  | succ g =>
    simp only [P, stepP] at h
    cases hq : (hereT L i).bind (Px.opAt n) with
    | none => rw [hq] at h; exact Or.inl ⟨rfl, (Option.some.inj h).symm⟩
    | some x =>
      obtain ⟨op, sw⟩ := x
      rw [hq] at h
      right
      obtain ⟨s, hs, hs2⟩ := Option.bind_eq_some_iff.1 hq
      refine ⟨g, s, op, sw, rfl, hs, hs2, ?_⟩
      rcases thenE_some h with ⟨e, h1, h2⟩ | ⟨b, j, h1, h2⟩
      · exact Or.inl ⟨e, h1, h2⟩
      · refine Or.inr ⟨b, j, h1, ?_⟩
        split at h2
        · rename_i h3; exact Or.inl ⟨h3, (Option.some.inj h2).symm⟩
        · rename_i h3; exact Or.inr ⟨h3, h2⟩
def cI (w : World) (a : Addr) : Int := match w.cell? a with
  | some (.int _ i) => i
  | _ => 0
theorem cI_at {w : World} {a : Addr} {k : IntKind} {i : Int} (h : w.cell? a = some (.int k i)) : cI w a = i := by unfold cI; rw [h]
theorem both_good {op : Int} {sw : Bool} {a b : Fo} (ho : 6 ≤ op ∧ op ≤ 20) (ha : Px.Good a) (hb : Px.Good b) : Px.Good (both op sw a b) := by
  unfold both
  cases sw
  · exact good_two ho ha hb
  · exact good_two ho hb ha
theorem both_size (op : Int) (sw : Bool) (a b : Fo) : (both op sw a b).size = a.size + b.size + 1 := by
  unfold both node
  cases sw <;> simp [Fo.size, Fo.size_app]; omega
def mR (rb ia ic N : Nat) (w : World) : Nat := if cI w ⟨rb, ic, none⟩ = 0 then N + 1 - (cI w ⟨rb, ia, none⟩).toNat else 0
theorem mR_ok {rb ia ic N : Nat} {w : World} {k1 k2 : IntKind} {i : Nat} (h1 : w.cell? ⟨rb, ia, none⟩ = some (.int k1 i)) (h2 : w.cell? ⟨rb, ic, none⟩ = some (.int k2 0)) : mR rb ia ic N w = N + 1 - i := by
  unfold mR; rw [cI_at h1, cI_at h2]; simp
theorem mR_err {rb ia ic N : Nat} {w : World} {k2 : IntKind} {c : Int} (h2 : w.cell? ⟨rb, ic, none⟩ = some (.int k2 c)) (hc : c ≠ 0) : mR rb ia ic N w = 0 := by
  unfold mR; rw [cI_at h2, if_neg hc]
def LpR (St : World → Int → Int → Int → Int → Prop) (L : List Tok) (rb base : Nat) (o : Nat) (w : World) (n fu : Nat) (r : Res) (av : Value) (wr : World) : Prop :=
  Al rb w wr ∧ ((∃ F i g, g < fu ∧ OwnE base wr av (F.flat 0) ∧ Px.Good F ∧ F.size + 1 ≤ 3 * i ∧ i ≤ L.length ∧ St wr (i : Nat) o 0 0 ∧ P L g (.loop n F) i o = some r) ∨
    ∃ (c p : Int) (a : Option Addr) (m k i : Nat), r = .error (c, p) ∧ c ≠ 0 ∧ i ≤ 200000 ∧ St wr (i : Nat) o c p ∧ av = .slice a m k)
end Go.Proofs.YtahalimekacliaaGreatDoor
namespace Go.Proofs.YtahalimekacliaaGreatDoor
open Go.RowKit Go.Shelf Tx Px
def withinS (p : Orc) (L : List Tok) (I o : Nat) : Option Res := match L[I + 1]? with
  | some u => if u.k = 2 ∧ Lx.val u.t.data.toList ≤ 1000 then thenE (p (.bin 8) (I + 2) o) fun a i => one (node 25 (Lx.val u.t.data.toList) noS a) i else errAt L 5 (I + 1)
  | none => errAt L 5 (I + 1)
section
variable {L : List Tok} {a : Option Addr} {cc rb : Nat} {w0 : World}
end
end Go.Proofs.YtahalimekacliaaGreatDoor
namespace Go.Proofs.YtahalimekacliaaGreatDoor
open Go.RowKit Go.Shelf Tx Px
section
variable {L : List Tok} {a : Option Addr} {cc rb : Nat} {w0 : World}
def choiceS (p : Orc) (L : List Tok) (I o : Nat) : Option Res := thenE (p (.bin 0) I o) fun a i => needT L tThen i fun i => thenE (p (.bin 0) i o) fun b i => needT L tElse i fun i => thenE (p (.bin 0) i o) fun c i => one (node 26 0 noS (a.app (b.app c))) i
end
end Go.Proofs.YtahalimekacliaaGreatDoor
