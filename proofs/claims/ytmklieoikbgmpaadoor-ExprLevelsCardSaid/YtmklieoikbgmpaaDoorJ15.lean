/- Plain mathematics of ordered decision diagrams: what a list of nodes means; two nodes that mean the same are one; counting; the first row. Maps in memory by plain lists of keys and values; frames that may turn a set of blocks; the store of diagrams in memory. Readers of expressions: what both share: their memory, tokens. The program's reader of expressions: its memory; signs and words: the walk. Readers of expressions: what one level's answer is made of: the plain part. The reference: a node moved; an expression behind another; nodes in order: the walks. The reference: nodes in order: the walk. The reference: the expression of a node; in order; are two the same: the walks. The reference: expressions under an operator: the walk. The reference: calls put together; expressions under any operator: the walk. Rows of numbers and truths as lines of a text: the plain mathematics. Expressions over atoms: the plain mathematics. The reference: expressions in the places of streams: the walk. The reference: expressions in the places of streams: the walk of Put. The reference's reader of expressions: its memory; signs and words, what is passed, expressions put together: the walk. The reference's reader of expressions: what is passed, what must be passed, expressions put together: the walk. -/
import Derived.WalkKit
import Derived.WalkSpells
import Derived.WalkLawsBesides
import Derived.Maps.Own
import Derived.Test.YtmklieoikbgmpaaDoorJ1
import Derived.Test.YtmklieoikbgmpaaDoorJ7
import Derived.Test.YtmklieoikbgmpaaDoorJ11
import Derived.Test.YtmklieoikbgmpaaDoorJ14
namespace Go.Proofs.YtmklieoikbgmpaaDoor
namespace Dd
abbrev Nd := Nat × Nat × Nat
def T (ns : List Nd) (f : Nat) : Nat := (ns.getD f (0, 0, 0)).1
def L (ns : List Nd) (f : Nat) : Nat := (ns.getD f (0, 0, 0)).2.1
def H (ns : List Nd) (f : Nat) : Nat := (ns.getD f (0, 0, 0)).2.2
def ev (ns : List Nd) (env : Nat → Bool) : Nat → Nat → Bool
  | 0, f => f == 1
  | k + 1, f => if f ≤ 1 then f == 1 else if env (T ns f) then ev ns env k (H ns f) else ev ns env k (L ns f)
theorem getD_app {ns xs : List Nd} {f : Nat} (hf : f < ns.length) : (ns ++ xs).getD f (0, 0, 0) = ns.getD f (0, 0, 0) := by
  simp [List.getD, List.getElem?_append_left hf]
theorem T_app {ns xs : List Nd} {f : Nat} (hf : f < ns.length) : T (ns ++ xs) f = T ns f := by unfold T; rw [getD_app hf]
end Dd
end Go.Proofs.YtmklieoikbgmpaaDoor
namespace Go.Proofs.YtmklieoikbgmpaaDoor
open Go.RowKit
structure Fr (S : Nat → Prop) (w w' : World) : Prop where
  os : w'.os = w.os
  tape : w'.tape = w.tape
  output : w'.output = w.output
  size : w.heap.size ≤ w'.heap.size
  block : ∀ k, k < w.heap.size → ¬ S k → w'.heap[k]? = w.heap[k]?
theorem Fr.refl (S : Nat → Prop) (w : World) : Fr S w w := ⟨rfl, rfl, rfl, Nat.le_refl _, fun _ _ _ => rfl⟩
theorem Fr.trans {S S' : Nat → Prop} {a b c : World} (h : Fr S a b) (k : Fr S' b c) (hs : ∀ i, i < a.heap.size → S' i → S i) : Fr S a c :=
  ⟨k.os.trans h.os, k.tape.trans h.tape, k.output.trans h.output, Nat.le_trans h.size k.size, fun i hi hn => (k.block i (Nat.lt_of_lt_of_le hi h.size) (fun q => hn (hs i hi q))).trans (h.block i hi hn)⟩
theorem Fr.mono {S S' : Nat → Prop} {a b : World} (h : Fr S a b) (hs : ∀ i, i < a.heap.size → S i → S' i) : Fr S' a b :=
  ⟨h.os, h.tape, h.output, h.size, fun i hi hn => h.block i hi fun q => hn (hs i hi q)⟩
theorem Fr.cell {S : Nat → Prop} {w w' : World} (h : Fr S w w') {p : Addr} (hp : p.block < w.heap.size) (hn : ¬ S p.block) : w'.cell? p = w.cell? p := World.cell?_of_block (w := w) (h.block p.block hp hn)
theorem Fr.below {S : Nat → Prop} {a w w' : World} {B : Nat} (h : Below B a w) (k : Fr S w w') (hB : B ≤ w.heap.size) (hs : ∀ i, S i → B ≤ i) : Below B a w' :=
  ⟨k.os.trans h.os, k.tape.trans h.tape, k.output.trans h.output, Nat.le_trans h.size k.size, fun i hi => (k.block i (by omega) (fun q => by have := hs i q; omega)).trans (h.block i hi)⟩
theorem Fr.of_below {w w' : World} (h : Below w.heap.size w w') (S : Nat → Prop) : Fr S w w' := ⟨h.os, h.tape, h.output, h.size, fun k hk _ => h.block k hk⟩
theorem Fr.ownsRow {S : Nat → Prop} {w w' : World} (h : Fr S w w') {base e size n : Nat} {v : Value} {xs : List Value} (ho : w.ownsRow base e size v n xs) (hn : ∀ k, v.ownBlock = some k → ¬ S k) : w'.ownsRow base e size v n xs := by
  have hlt := ho.lt
  obtain ⟨h1, h2⟩ := ho
  refine ⟨h1, ?_⟩
  rcases h2 with h2 | ⟨g, cap, cur, rfl, hg, hh, r⟩
  · exact Or.inl h2
  · exact Or.inr ⟨g, cap, cur, rfl, hg, by rw [h.block g (hlt g rfl).2 (hn g rfl)]; exact hh, r⟩
structure KeyLaw' (P : Program) (k : TypeId) {κ : Type} (code : κ → Value) : Prop where
  inj : ∀ a b, code a = code b → a = b
  check : ∀ (b : Bool) (x : κ) (w : World), (Instr.checkKey b 10000 k (code x)).run P w = .ok () w
  find : ∀ (x : κ) (es : List MapEntry) (l : List κ), es.map (·.key) = l.map code → ∀ w, ∃ r, (Instr.findKey k (code x) es).run P w = .ok r w ∧
    ((r = none ∧ x ∉ l) ∨ ∃ i e, r = some (i, e.val) ∧ es[i]? = some e ∧ l[i]? = some x ∧ ∀ j, j < i → l[j]? ≠ some x)
  stays : ∀ (x : κ) (w : World), (Instr.keyThatStays (code x) (code x)).run P w = .ok (code x) w
def MapIs {κ ν : Type} (kc : κ → Value) (vc : ν → Value) (w : World) (m : Nat) (l : List (κ × ν)) : Prop :=
  ∃ es clock, w.heap[m]? = some (.map es clock) ∧ es.toList.map (fun e => (e.key, e.val)) = l.map (fun p => (kc p.1, vc p.2))
theorem MapIs.lt {κ ν : Type} {kc : κ → Value} {vc : ν → Value} {w : World} {m : Nat} {l : List (κ × ν)} (h : MapIs kc vc w m l) : m < w.heap.size := by
  obtain ⟨es, clock, hb, _⟩ := h
  exact (Array.getElem?_eq_some_iff.1 hb).1
theorem MapIs.of_block {κ ν : Type} {kc : κ → Value} {vc : ν → Value} {w w' : World} {m : Nat} {l : List (κ × ν)} (h : MapIs kc vc w m l) (hb : w'.heap[m]? = w.heap[m]?) : MapIs kc vc w' m l := by
  obtain ⟨es, clock, h1, h2⟩ := h
  exact ⟨es, clock, hb.trans h1, h2⟩
theorem MapIs.made {κ ν : Type} (kc : κ → Value) (vc : ν → Value) (w : World) : MapIs kc vc (w.alloc (.map #[] 0)) w.heap.size [] :=
  ⟨#[], 0, (MapKept.heap_alloc w _).1, rfl⟩
def look {κ ν : Type} [DecidableEq κ] (x : κ) : List (κ × ν) → Option ν
  | [] => none
  | p :: r => if p.1 = x then some p.2 else look x r
theorem look_at {κ ν : Type} [DecidableEq κ] (x : κ) : ∀ (l : List (κ × ν)) (i : Nat) (v : ν), l[i]? = some (x, v) → (∀ j, j < i → (l[j]?).map (·.1) ≠ some x) → look x l = some v
  | [], i, v, h, _ => by simp at h
  | p :: r, 0, v, h, _ => by simp at h; subst h; simp [look]
  | p :: r, i + 1, v, h, hn => by
    have h0 := hn 0 (by omega)
    simp at h0 h
    rw [look, if_neg h0]
    exact look_at x r i v h fun j hj => by have := hn (j + 1) (by omega); simpa using this
theorem look_none {κ ν : Type} [DecidableEq κ] (x : κ) : ∀ (l : List (κ × ν)), (x ∉ l.map (·.1)) → look x l = none
  | [], _ => rfl
  | p :: r, h => by
    simp at h
    rw [look, if_neg (fun e => h.1 e.symm)]
    exact look_none x r (by simpa using h.2)
theorem look_mem {κ ν : Type} [DecidableEq κ] {x : κ} {v : ν} : ∀ {l : List (κ × ν)}, look x l = some v → (x, v) ∈ l
  | [], h => by simp [look] at h
  | p :: r, h => by
    rw [look] at h
    split at h
    · rename_i e; simp at h; subst e; subst h; simp
    · exact List.mem_cons_of_mem _ (look_mem h)
theorem MapIs.lookup {P : Program} {κ ν : Type} [DecidableEq κ] {kc : κ → Value} {vc : ν → Value} {w : World} {m : Nat} {l : List (κ × ν)} {t k e : TypeId} (h : MapIs kc vc w m l) (K : KeyLaw' P k kc) (ht : P.underlying t = some (.map k e))
    {z : Value} (hz : ∀ w, (zeroValue e).run P w = .ok z w) (x : κ) :
    (Instr.lookup t (.map (some m)) (kc x) true).run P w = .ok (.tuple #[((look x l).map vc).getD z, .bool (look x l).isSome]) w := by
  obtain ⟨es, clock, hb, hl⟩ := h
  have hk : es.toList.map (·.key) = (l.map (·.1)).map kc := by
    have := congrArg (List.map Prod.fst) hl
    simpa [Function.comp_def] using this
  obtain ⟨r, hr, hcase⟩ := K.find x es.toList (l.map (·.1)) hk w
  have hget : (getObj m).run P w = .ok (.map es clock) w := by simp [getObj, Sem.run, hb]
  rcases hcase with ⟨rfl, hno⟩ | ⟨i, en, rfl, hi, hli, hfirst⟩
  · have hn := look_none x l hno
    simp [Instr.lookup, run_underlying ht, hget, K.check, hr, hz, hn, go_sem]
  · obtain ⟨p, hp⟩ : ∃ p, l[i]? = some p ∧ p.1 = x := by
      rw [List.getElem?_map] at hli
      obtain ⟨p, h1, h2⟩ := Option.map_eq_some_iff.1 hli
      exact ⟨p, h1, h2⟩
    obtain ⟨hp1, rfl⟩ := hp
    have hv : en.val = vc p.2 := by
      have := congrArg (fun q => (q[i]?).map Prod.snd) hl
      simpa [hi, hp1] using this
    have hsome : look p.1 l = some p.2 := look_at _ l i p.2 (by rw [hp1]) fun j hj => by
      have := hfirst j hj
      rw [List.getElem?_map] at this
      exact this
    simp [Instr.lookup, run_underlying ht, hget, K.check, hr, hsome, hv, go_sem]
def putAt {κ ν : Type} [DecidableEq κ] (x : κ) (v : ν) : List (κ × ν) → List (κ × ν)
  | [] => [(x, v)]
  | p :: r => if p.1 = x then (x, v) :: r else p :: putAt x v r
theorem putAt_none {κ ν : Type} [DecidableEq κ] (x : κ) (v : ν) : ∀ (l : List (κ × ν)), x ∉ l.map (·.1) → putAt x v l = l ++ [(x, v)]
  | [], _ => rfl
  | p :: r, h => by
    simp at h
    rw [putAt, if_neg (fun e => h.1 e.symm), putAt_none x v r (by simpa using h.2)]; rfl
theorem putAt_at {κ ν : Type} [DecidableEq κ] (x : κ) (v : ν) : ∀ (l : List (κ × ν)) (i : Nat), (l[i]?).map (·.1) = some x → (∀ j, j < i → (l[j]?).map (·.1) ≠ some x) → putAt x v l = l.set i (x, v)
  | [], i, h, _ => by simp at h
  | p :: r, 0, h, _ => by simp at h; simp [putAt, h]
  | p :: r, i + 1, h, hn => by
    have h0 := hn 0 (by omega)
    simp at h0 h
    rw [putAt, if_neg h0, putAt_at x v r i (by simpa using h) fun j hj => by have := hn (j + 1) (by omega); simpa using this]
    rfl
theorem MapIs.update {P : Program} {κ ν : Type} [DecidableEq κ] {kc : κ → Value} {vc : ν → Value} {w : World} {m : Nat} {l : List (κ × ν)} {t k e : TypeId} (h : MapIs kc vc w m l) (K : KeyLaw' P k kc) (ht : P.underlying t = some (.map k e)) (x : κ) (v : ν) :
    ∃ w', (Instr.mapUpdate t (.map (some m)) (kc x) (vc v)).run P w = .ok () w' ∧ MapIs kc vc w' m (putAt x v l) ∧ w.grownBy w' (some m) := by
  have hlt := h.lt
  obtain ⟨es, clock, hb, hl⟩ := h
  have hk : es.toList.map (·.key) = (l.map (·.1)).map kc := by
    have := congrArg (List.map Prod.fst) hl
    simpa [Function.comp_def] using this
  obtain ⟨r, hr, hcase⟩ := K.find x es.toList (l.map (·.1)) hk w
  have hget : (getObj m).run P w = .ok (.map es clock) w := by simp [getObj, Sem.run, hb]
  have hset : ∀ o, (setObj m o).run P w = .ok () { w with heap := w.heap.setIfInBounds m o } := fun o => by simp [setObj, Sem.run, hb]
  have hgrown : ∀ o, w.grownBy { w with heap := w.heap.setIfInBounds m o } (some m) := fun o =>
    ⟨rfl, rfl, rfl, by simp, fun i hi hne => by simp only [Array.getElem?_setIfInBounds]; rw [if_neg (fun e => hne (by rw [e]))]⟩
  rcases hcase with ⟨rfl, hno⟩ | ⟨i, en, rfl, hi, hli, hfirst⟩
  · refine ⟨{ w with heap := w.heap.setIfInBounds m (.map (es.push { key := kc x, val := vc v, born := clock }) (clock + 1)) }, ?_, ⟨_, _, by simp [hlt]; exact ⟨rfl, rfl⟩, ?_⟩, hgrown _⟩
    · simp [Instr.mapUpdate, run_underlying ht, hget, hset, K.check, hr, go_sem]
    · rw [putAt_none x v l hno]; simp [hl]
  · obtain ⟨p, hp1, hp2⟩ : ∃ p, l[i]? = some p ∧ p.1 = x := by
      rw [List.getElem?_map] at hli
      obtain ⟨p, h1, h2⟩ := Option.map_eq_some_iff.1 hli
      exact ⟨p, h1, h2⟩
    have hkey : en.key = kc x := by
      have := congrArg (fun q => (q[i]?).map Prod.fst) hl
      simp [hi, hp1, hp2] at this
      exact this
    have hi' : es[i]? = some en := by simpa using hi
    refine ⟨{ w with heap := w.heap.setIfInBounds m (.map (es.modify i fun e => { e with key := kc x, val := vc v }) clock) }, ?_, ⟨_, _, by simp [hlt]; exact ⟨rfl, rfl⟩, ?_⟩, hgrown _⟩
    · simp [Instr.mapUpdate, run_underlying ht, hget, hset, K.check, hr, hi', hkey, K.stays, go_sem]
    · rw [putAt_at x v l i (by rw [hp1]; simp [hp2]) (fun j hj => by have := hfirst j hj; rw [List.getElem?_map] at this; exact this)]
      apply List.ext_getElem?
      intro j
      have hj := congrArg (fun q => q[j]?) hl
      simp only [List.getElem?_map] at hj ⊢
      simp only [Array.getElem?_toList, Array.getElem?_modify, List.getElem?_set]
      simp only [Array.getElem?_toList] at hj
      by_cases e : i = j
      · subst e
        have hlen : i < l.length := (List.getElem?_eq_some_iff.1 hp1).1
        simp [hi', hlen]
      · simp [e, hj]
theorem wpList_insert_is {P : Program} {κ ν : Type} [DecidableEq κ] {kc : κ → Value} {vc : ν → Value} {w : World} {ops : Array Oper} {rest : List Oper} {o : Oper} {a : Act} {Q : Exit → Act → World → Prop}
    (hg : o.guard = none) (m x v : Operand) (t : TypeId) (hop : o.op = Op.insert t m x v) {k e : TypeId} (K : KeyLaw' P k kc) (ht : P.underlying t = some (.map k e)) {mb : Nat} {l : List (κ × ν)} (hM : MapIs kc vc w mb l)
    (hm : a.eval m = .map (some mb)) (key : κ) (val : ν) (hx : a.eval x = kc key) (hv : a.eval v = vc val)
    (hK : ∀ w', MapIs kc vc w' mb (putAt key val l) → w.grownBy w' (some mb) → wpList P ops Q rest (a.put o.dst undef) w') : wpList P ops Q (o :: rest) a w := by
  refine wpList_plain hg fun K' hK' => ?_
  obtain ⟨w', hrun, r1, r2⟩ := hM.update K ht key val
  unfold Oper.wp
  simp [execOp, hop, hm, hx, hv, hrun, Result.andThen]
  exact hK' _ _ (hK w' r1 r2)
end Go.Proofs.YtmklieoikbgmpaaDoor
namespace Go.Proofs.YtmklieoikbgmpaaDoor
open Go.RowKit Go.Shelf Tx Px
abbrev Al (rb : Nat) (w w' : World) : Prop := Fr (fun k => k = rb) w w'
section
variable {W W' : World} {rb : Nat}
theorem set_size (W : World) (a : Addr) (y : Value) : (W.setCell a y).heap.size = W.heap.size := by simp [World.setCell]
theorem Al.set {w : World} (h : Al rb w W) (i : Nat) (y : Value) : Al rb w (W.setCell ⟨rb, i, none⟩ y) := by
  refine ⟨h.os, h.tape, h.output, ?_, fun k hk hn => ?_⟩
  · rw [set_size]; exact h.size
  · rw [Below.heap_setCell _ _ _ _ (by show k ≠ rb; exact hn)]; exact h.block k hk hn
theorem Al.next {w : World} (h : Al rb w W) (k : Al rb W W') : Al rb w W' := Fr.trans h k fun _ _ q => q
theorem Al.then {w : World} (h : Al rb w W) (k : Below W.heap.size W W') : Al rb w W' := h.next (Fr.of_below k _)
theorem Al.refl (rb : Nat) (w : World) : Al rb w w := Fr.refl _ w
theorem Al.drew {w : World} (h : Al rb w W) : Al rb w W.drew := ⟨h.os, h.tape, h.output, h.size, h.block⟩
theorem Al.drewN {w : World} (h : Al rb w W) (q : Nat) : Al rb w (W.drewN q) := ⟨h.os, h.tape, h.output, h.size, h.block⟩
theorem Al.of (h : Below W.heap.size W W') : Al rb W W' := Fr.of_below h _
theorem Al.ownE {base : Nat} {v : Value} {e : List Nd} (h : Al rb W W') (ho : OwnE base W v e) (hb : rb < base) : OwnE base W' v e := Fr.ownsRow h ho (fun k hk e => by have := (World.ownsRow.lt ho k hk).1; omega)
theorem Al.blk {b T : Nat} {cs : Array Value} (h : Al rb W W') (hk : Blk W b cs T) (hb : b ≠ rb) : Blk W' b cs T := (h.block b hk.lt hb).trans hk
theorem Al.keeps {w0 : World} {base : Nat} (h : Al rb W W') (hb : Below base w0 W) (hlt : base ≤ W.heap.size) (hr : base ≤ rb) : Below base w0 W' := Fr.below hb h hlt (fun i hi => by omega)
end
def TokAt (w0 : World) (rb : Nat) (a : Option Addr) (L : List Tok) : Prop := ∀ W, Al rb w0 W → ∀ i x, L[i]? = some x → ∃ b o, a = some ⟨b, o, none⟩ ∧ W.cell? ⟨b, o + i * 3, none⟩ = some (.int .i64 x.k) ∧ W.cell? ⟨b, o + i * 3 + 1, none⟩ = some (.string x.t) ∧ W.cell? ⟨b, o + i * 3 + 2, none⟩ = some (.int .i64 x.p)
structure EnvOk (w0 : World) (rb : Nat) (a : Option Addr) (cc : Nat) (L : List Tok) : Prop where
  len : L.length ≤ 100000
  cap : L.length ≤ cc
  tok : TokAt w0 rb a L
  ok : ∀ t ∈ L, TokOk t
theorem atP_lt {L : List Tok} {i : Nat} {x : Tok} (h : L[i]? = some x) : atP L i = x.p := by unfold atP; rw [h]
theorem atP_ge {L : List Tok} {i : Nat} (h : L.length ≤ i) : atP L i = -1 := by unfold atP; rw [List.getElem?_eq_none h]
theorem isT_kind {L : List Tok} {i : Nat} {x : Tok} (h : L[i]? = some x) (hk : x.k ≠ 3 ∧ x.k ≠ 4) (s : ByteArray) : isT L i s = false := by
  unfold isT hereT; rw [h]; simp [hk.1, hk.2]
theorem isT_text {L : List Tok} {i : Nat} {x : Tok} (h : L[i]? = some x) (hk : x.k = 3 ∨ x.k = 4) (s : ByteArray) : isT L i s = decide (x.t = s) := by
  unfold isT hereT; rw [h]; simp [hk]
theorem bytes_eq (s t : ByteArray) : (s.toList == t.toList) = decide (s = t) := by
  rw [Bool.eq_iff_iff, beq_iff_eq, decide_eq_true_eq, Lib.toList_data, Lib.toList_data]
  exact ⟨fun h => bytes_ext h, fun h => by rw [h]⟩
theorem sg_parts {W : World} {g : Nat} {us : List Value} {Fs : List Fo} {T : TypeId} (h : Blk W g us.toArray T) (hl : us.length = Fs.length) (hx : ∀ (i : Nat) u F, us[i]? = some u → Fs[i]? = some F → IsE W u (F.flat 0)) : Sg 1 IsF W (.slice (some ⟨g, 0, none⟩) Fs.length Fs.length) Fs := by
  refine ⟨us.map oneC, Or.inr ⟨g, 0, Fs.length, by simp [hl], by simp [hl], h.lt, fun i x hi j u hu => ?_⟩, by simp [hl], fun i c F hc hF => ?_⟩
  · rw [List.getElem?_map] at hi
    obtain ⟨y, hy, rfl⟩ := Option.map_eq_some_iff.1 hi
    have hj : j = 0 ∧ u = y := by
      cases j with
      | zero => simp [oneC] at hu; exact ⟨rfl, hu.symm⟩
      | succ j => simp [oneC] at hu
    obtain ⟨rfl, rfl⟩ := hj
    unfold Blk at h
    simp [World.cell?, h, hy]
  · rw [List.getElem?_map] at hc
    obtain ⟨u, hu, rfl⟩ := Option.map_eq_some_iff.1 hc
    exact ⟨u, rfl, hx i u F hu hF⟩
theorem sg_two {W : World} {g : Nat} {u v : Value} {A B : Fo} {T : TypeId} (h : Blk W g #[u, v] T) (hu : IsE W u (A.flat 0)) (hv : IsE W v (B.flat 0)) : Sg 1 IsF W (.slice (some ⟨g, 0, none⟩) 2 2) [A, B] :=
  sg_parts (us := [u, v]) (Fs := [A, B]) h rfl fun i x F hx hF => by
    match i with
    | 0 => simp at hx hF; subst hx hF; exact hu
    | 1 => simp at hx hF; subst hx hF; exact hv
    | i + 2 => simp at hx
theorem sg_one {W : World} {g : Nat} {u : Value} {A : Fo} {T : TypeId} (h : Blk W g #[u] T) (hu : IsE W u (A.flat 0)) : Sg 1 IsF W (.slice (some ⟨g, 0, none⟩) 1 1) [A] :=
  sg_parts (us := [u]) (Fs := [A]) h rfl fun i x F hx hF => by
    match i with
    | 0 => simp at hx hF; subst hx hF; exact hu
    | i + 1 => simp at hx
theorem sg_three {W : World} {g : Nat} {u v z : Value} {A B C : Fo} {T : TypeId} (h : Blk W g #[u, v, z] T) (hu : IsE W u (A.flat 0)) (hv : IsE W v (B.flat 0)) (hz : IsE W z (C.flat 0)) : Sg 1 IsF W (.slice (some ⟨g, 0, none⟩) 3 3) [A, B, C] :=
  sg_parts (us := [u, v, z]) (Fs := [A, B, C]) h rfl fun i x F hx hF => by
    match i with
    | 0 => simp at hx hF; subst hx hF; exact hu
    | 1 => simp at hx hF; subst hx hF; exact hv
    | 2 => simp at hx hF; subst hx hF; exact hz
    | i + 3 => simp at hx
theorem join_two (op n : Int) (A B : Fo) (h : op ≠ 27) : joinF op n noS [A, B] = node op n noS (A.app B) := by
  unfold joinF node; rw [if_neg h]; simp [cat, Fo.app_no]
theorem join_one (op n : Int) (A : Fo) (h : op ≠ 27) : joinF op n noS [A] = node op n noS A := by
  unfold joinF node; rw [if_neg h]; simp [cat, Fo.app_no]
theorem join_three (op n : Int) (A B C : Fo) (h : op ≠ 27) : joinF op n noS [A, B, C] = node op n noS (A.app (B.app C)) := by
  unfold joinF node; rw [if_neg h]; simp [cat, Fo.app_no]
theorem join_nil (op n : Int) (s : ByteArray) (h : op ≠ 27) : joinF op n s [] = node op n s .no := by
  unfold joinF node; rw [if_neg h]; simp [cat]
def RPost (St : World → Int → Int → Int → Int → Prop) (rb : Nat) (o : Int) (w : World) (r : Res) (e : Ending) (w' : World) : Prop :=
  Al rb w w' ∧ match r with
  | .error (c, p) => ∃ (a : Option Addr) (n k i : Nat), e = .returned (.slice a n k) ∧ c ≠ 0 ∧ i ≤ 200000 ∧ St w' (i : Nat) o c p
  | .ok (l, i) => ∃ F v, l = [F] ∧ e = .returned v ∧ OwnE w.heap.size w' v (F.flat 0) ∧ St w' (i : Nat) o 0 0
theorem rpost_err {St : World → Int → Int → Int → Int → Prop} {rb : Nat} {o : Int} {w w' : World} {c p : Int} {a : Option Addr} {n k i : Nat} (h : Al rb w w') (hc : c ≠ 0) (hi : i ≤ 200000) (hs : St w' (i : Nat) o c p) : RPost St rb o w (.error (c, p)) (.returned (.slice a n k)) w' := ⟨h, a, n, k, i, rfl, hc, hi, hs⟩
theorem rpost_ok {St : World → Int → Int → Int → Int → Prop} {rb : Nat} {o : Int} {w w' : World} {i : Nat} {F : Fo} {v : Value} (h : Al rb w w') (hv : OwnE w.heap.size w' v (F.flat 0)) (hs : St w' (i : Nat) o 0 0) : RPost St rb o w (.ok ([F], i)) (.returned v) w' := ⟨h, F, v, rfl, rfl, hv, hs⟩
theorem str_beq (a b : ByteArray) : (a == b) = true ↔ a = b := by
  obtain ⟨x⟩ := a
  obtain ⟨y⟩ := b
  constructor
  · intro h
    have e : x = y := by simpa using (show (x == y) = true from h)
    rw [e]
  · intro h
    cases h
    show (x == x) = true
    simp
theorem keyLaw_str {P : Program} {k : TypeId} (hk : P.underlying k = some .string) : KeyLaw' P k Value.string where
  inj a b h := by simpa using h
  check b x w := by
    show (Instr.checkKey b (9999 + 1) k (.string x)).run P w = .ok () w
    rw [Instr.checkKey]
    simp [run_underlying hk, go_sem]
  find x es l hl w := by
    have key : ∀ (es : List MapEntry) (l : List ByteArray) (i : Nat), es.map (·.key) = l.map Value.string →
        ∃ r, Instr.findNow .string (.string x) es i = some r ∧ ((r = none ∧ x ∉ l) ∨ ∃ j e, r = some (i + j, e.val) ∧ es[j]? = some e ∧ l[j]? = some x ∧ ∀ j', j' < j → l[j']? ≠ some x) := by
      intro es
      induction es with
      | nil => intro l i h; cases l <;> simp at h; exact ⟨none, rfl, Or.inl ⟨rfl, by simp⟩⟩
      | cons e es ih =>
        intro l i h
        cases l with
        | nil => simp at h
        | cons y l =>
          simp at h
          obtain ⟨he, h⟩ := h
          simp only [Instr.findNow, he, Instr.sameNow]
          by_cases hxy : x = y
          · subst hxy
            have : (x == x) = true := (str_beq x x).2 rfl
            simp only [this]
            exact ⟨_, rfl, Or.inr ⟨0, e, rfl, rfl, rfl, by simp⟩⟩
          · have : (x == y) = false := by
              cases hb : (x == y) with
              | true => exact absurd ((str_beq x y).1 hb) hxy
              | false => rfl
            simp only [this]
            obtain ⟨r, h1, h2⟩ := ih l (i + 1) h
            refine ⟨r, h1, ?_⟩
            rcases h2 with ⟨rfl, hn⟩ | ⟨j, e', rfl, h3, h4, h5⟩
            · exact Or.inl ⟨rfl, by simp [hxy, hn]⟩
            · refine Or.inr ⟨j + 1, e', by simp; omega, by simpa using h3, by simpa using h4, ?_⟩
              intro j' hj'
              cases j' with
              | zero => simp; exact fun e => hxy e.symm
              | succ j' => simpa using h5 j' (by omega)
    obtain ⟨r, h1, h2⟩ := key es l 0 hl
    refine ⟨r, ?_, by simpa using h2⟩
    simp [Instr.findKey, run_underlying hk, h1, go_sem]
  stays x w := by
    have h : Instr.sameBits (9999 + 1) (.string x) (.string x) = true := by rw [Instr.sameBits]; exact (str_beq x x).2 rfl
    have h' : Instr.sameBits 10000 (.string x) (.string x) = true := h
    simp [Instr.keyThatStays, h', go_sem]
end Go.Proofs.YtmklieoikbgmpaaDoor
namespace Go.Proofs.YtmklieoikbgmpaaDoor
open Go.RowKit Go.Shelf Tx Px
def Re (w : World) (rb : Nat) (tv : Value) (I o c p : Int) (lv pm : Value) : Prop := Blk w rb #[tv, .int .i64 I, .int .i64 o, .int .i64 c, .int .i64 p, lv, pm] 55
section
variable {W W' : World} {rb : Nat} {tv lv pm : Value} {I o c p : Int}
theorem Re.cells (h : Re W rb tv I o c p lv pm) : W.cell? ⟨rb, 0, none⟩ = some tv ∧ W.cell? ⟨rb, 1, none⟩ = some (.int .i64 I) ∧ W.cell? ⟨rb, 2, none⟩ = some (.int .i64 o) ∧ W.cell? ⟨rb, 3, none⟩ = some (.int .i64 c) ∧ W.cell? ⟨rb, 4, none⟩ = some (.int .i64 p) ∧ W.cell? ⟨rb, 5, none⟩ = some lv ∧ W.cell? ⟨rb, 6, none⟩ = some pm := by
  unfold Re Blk at h
  refine ⟨?_, ?_, ?_, ?_, ?_, ?_, ?_⟩ <;> simp [World.cell?, h]
theorem Re.free (h : Re W rb tv I o c p lv pm) : W.frozen? ⟨rb, 0, none⟩ = false ∧ W.frozen? ⟨rb, 1, none⟩ = false ∧ W.frozen? ⟨rb, 2, none⟩ = false ∧ W.frozen? ⟨rb, 3, none⟩ = false ∧ W.frozen? ⟨rb, 4, none⟩ = false := by
  unfold Re Blk at h
  refine ⟨?_, ?_, ?_, ?_, ?_⟩ <;> simp [World.frozen?, h]
theorem Re.lt (h : Re W rb tv I o c p lv pm) : rb < W.heap.size := Blk.lt h
theorem Re.setI (h : Re W rb tv I o c p lv pm) (y : Int) : Re (W.setCell ⟨rb, 1, none⟩ (.int .i64 y)) rb tv y o c p lv pm := by
  have := Blk.setAt h 1 (.int .i64 y); unfold Re; simpa using this
theorem Re.setO (h : Re W rb tv I o c p lv pm) (y : Int) : Re (W.setCell ⟨rb, 2, none⟩ (.int .i64 y)) rb tv I y c p lv pm := by
  have := Blk.setAt h 2 (.int .i64 y); unfold Re; simpa using this
theorem Re.setC (h : Re W rb tv I o c p lv pm) (y : Int) : Re (W.setCell ⟨rb, 3, none⟩ (.int .i64 y)) rb tv I o y p lv pm := by
  have := Blk.setAt h 3 (.int .i64 y); unfold Re; simpa using this
theorem Re.setP (h : Re W rb tv I o c p lv pm) (y : Int) : Re (W.setCell ⟨rb, 4, none⟩ (.int .i64 y)) rb tv I o c y lv pm := by
  have := Blk.setAt h 4 (.int .i64 y); unfold Re; simpa using this
theorem Re.drewN (h : Re W rb tv I o c p lv pm) (q : Nat) : Re (W.drewN q) rb tv I o c p lv pm := h
theorem Re.drew (h : Re W rb tv I o c p lv pm) : Re W.drew rb tv I o c p lv pm := h
theorem Re.below (h : Re W rb tv I o c p lv pm) (hb : Below W.heap.size W W') : Re W' rb tv I o c p lv pm := Blk.below h hb
end
section
variable {L : List Tok} {a : Option Addr} {cc rb : Nat} {w0 : World} {lv pm : Value}
set_option maxRecDepth 100000 in
set_option maxHeartbeats 1000000 in
theorem eAt_any (EV : Hid (EnvOk w0 rb a cc L)) (i : Nat) (hi : i ≤ 200000) (w : World) (hB : Al rb w0 w) :
    Calls Tryd.prog 6 #[.slice a L.length cc, .int .i64 i] w fun e w' => e = .returned (.int .i64 (atP L i)) ∧ w' = w := by
  have hi0 : ¬ ((i : Int) < 0) := by omega
  have hi1 : (0 : Int) ≤ (i : Int) := by omega
  have hcap := EV.out.cap
  by_cases h : i < L.length
  · obtain ⟨x, hx⟩ : ∃ x, L[i]? = some x := ⟨_, List.getElem?_eq_getElem h⟩
    have e := atP_lt hx
    rw [e]
    obtain ⟨b, q, rfl, -, -, c2⟩ := EV.out.tok w hB i x hx
    have h2 : (i : Int) < (L.length : Int) := by omega
    clear hB hx e EV
    go_enter Tryd.func6, Tryd.ntmps6
    go_wp2_with fail
    go_ret
    exact ⟨rfl, rfl⟩
  · rw [atP_ge (by omega)]
    have h2 : (L.length : Int) ≤ (i : Int) := by omega
    clear hB EV
    go_enter Tryd.func6, Tryd.ntmps6
    go_wp2_with fail
    go_ret
    exact ⟨rfl, rfl⟩
theorem eok_any (I o c p : Int) (tv : Value) (w : World) (hR : Re w rb tv I o c p lv pm) :
    Calls Tryd.prog 16 #[.pointer (some ⟨rb, 0, none⟩)] w fun e w' => e = .returned (.bool (decide (c = 0))) ∧ w' = w := by
  obtain ⟨c0, c1, c2, c3, c4, c5, c6⟩ := hR.cells
  clear hR
  go_enter Tryd.func16, Tryd.ntmps16
  go_wp2_with fail
  go_ret
  exact ⟨ret_bool (by rw [Bool.eq_iff_iff]; simp), rfl⟩
set_option maxRecDepth 100000 in
set_option maxHeartbeats 1000000 in
theorem efail_yes (EV : Hid (EnvOk w0 rb a cc L)) (I : Nat) (hI : I ≤ 200000) (o p k : Int) (w : World) (hB : Al rb w0 w) (hR : Re w rb (.slice a L.length cc) I o 0 p lv pm) :
    Calls Tryd.prog 62 #[.pointer (some ⟨rb, 0, none⟩), .int .i64 k] w fun e w' => e = .returned (.slice none 0 0) ∧ Re w' rb (.slice a L.length cc) I o k (atP L I) lv pm ∧ Al rb w w' := by
  obtain ⟨c0, c1, c2, c3, c4, c5, c6⟩ := hR.cells
  obtain ⟨f0, f1, f2, f3, f4⟩ := hR.free
  have hlt := hR.lt
  have hok := eok_any I o 0 p _ w hR
  have hat : ∀ w', Al rb w0 w' → _ := fun w' h => eAt_any EV I hI w' h
  have HR := Lib.hid hR
  have HB := Lib.hid hB
  clear hR hB
  go_enter Tryd.func62, Tryd.ntmps62
  go_wp2_with fail
  refine hok.mono ?_
  rintro r w1 ⟨rfl, rfl⟩
  go_wp2_with fail
  go_still_tail 14, (by kernel_rfl)
  still_call (hat _ HB.out.drew)
  repeat still_step
  try refine wpStill_nil ?_
  clear hat hok
  change wpList _ _ _ _ _ w1.drew
  have HR2 : Hid (Re w1.drew rb (.slice a L.length cc) I o 0 p lv pm) := HR.out
  have hb2 : Al rb w1 w1.drew := (Al.refl _ _).drew
  have f3' : w1.drew.frozen? ⟨rb, 3, none⟩ = false := f3
  have f4' : w1.drew.frozen? ⟨rb, 4, none⟩ = false := f4
  have c3' : w1.drew.cell? ⟨rb, 3, none⟩ = some (.int .i64 0) := c3
  have c4' : w1.drew.cell? ⟨rb, 4, none⟩ = some (.int .i64 p) := c4
  clear c0 c1 c2 c3 c4 c5 c6 f0 f1 f2 f3 f4 HR HB EV
  generalize w1.drew = W at *
  go_wp2_with fail
  go_ret
  exact ⟨rfl, ((HR2.out.setC k).setP _), (hb2.set _ _).set _ _⟩
set_option maxRecDepth 100000 in
set_option maxHeartbeats 1000000 in
theorem efail_no (I o c p k : Int) (hc : c ≠ 0) (tv : Value) (w : World) (hR : Re w rb tv I o c p lv pm) :
    Calls Tryd.prog 62 #[.pointer (some ⟨rb, 0, none⟩), .int .i64 k] w fun e w' => e = .returned (.slice none 0 0) ∧ w' = w := by
  have hok := eok_any I o c p _ w hR
  rw [decide_eq_false hc] at hok
  clear hR
  go_enter Tryd.func62, Tryd.ntmps62
  go_wp2_with fail
  refine hok.mono ?_
  rintro r w1 ⟨rfl, rfl⟩
  go_wp2_with fail
  go_ret
  exact ⟨rfl, rfl⟩
end
end Go.Proofs.YtmklieoikbgmpaaDoor
namespace Go.Proofs.YtmklieoikbgmpaaDoor
open Go.RowKit Go.Shelf Tx Px
theorem bin_cases {L : List Tok} {f n I o : Nat} {r : Res} (hn : n < 8) (h : P L f (.bin n) I o = some r) :
    ∃ g, f = g + 1 ∧ ((∃ e, P L g (.bin (n + 1)) I o = some (.error e) ∧ r = .error e) ∨ ∃ a i, P L g (.bin (n + 1)) I o = some (.ok ([a], i)) ∧ P L g (.loop n a) i o = some r) := by
  cases f with
  | zero => cases h
  | succ g =>
    refine ⟨g, rfl, ?_⟩
    simp only [P, stepP, if_pos hn] at h
    rcases thenE_some h with ⟨e, h1, h2⟩ | ⟨a, i, h1, h2⟩
    · exact Or.inl ⟨e, h1, h2⟩
    · exact Or.inr ⟨a, i, h1, h2⟩
theorem top_cases {L : List Tok} {f I o : Nat} {r : Res} (h : P L f (.bin 8) I o = some r) : ∃ g, f = g + 1 ∧ operandS (P L g) L I o = some r := by
  cases f with
  | zero => cases h
  | succ g => exact ⟨g, rfl, by simpa [P, stepP] using h⟩
def both (op : Int) (sw : Bool) (a b : Fo) : Fo := node op 0 noS (if sw then b.app a else a.app b)
theorem loop_cases {L : List Tok} {f n i o : Nat} {a : Fo} {r : Res} (h : P L f (.loop n a) i o = some r) :
    ((hereT L i).bind (Px.opAt n) = none ∧ r = .ok ([a], i)) ∨ ∃ g s op sw, f = g + 1 ∧ hereT L i = some s ∧ Px.opAt n s = some (op, sw) ∧
      ((∃ e, P L g (.bin (if n ≤ 1 then n else n + 1)) (i + 1) o = some (.error e) ∧ r = .error e) ∨ ∃ b j, P L g (.bin (if n ≤ 1 then n else n + 1)) (i + 1) o = some (.ok ([b], j)) ∧
        (((n ≤ 1 ∨ n = 5) ∧ r = .ok ([both op sw a b], j)) ∨ (¬ (n ≤ 1 ∨ n = 5) ∧ P L g (.loop n (both op sw a b)) j o = some r))) := by
  cases f with
  | zero => cases h
  | succ g =>
    simp only [P, stepP] at h
    cases hq : (hereT L i).bind (Px.opAt n) with
    | none => rw [hq] at h; exact Or.inl ⟨rfl, (Option.some.inj h).symm⟩
    | some x =>
      obtain ⟨op, sw⟩ := x
      rw [hq] at h
      right
      obtain ⟨s, hs, hs2⟩ := Option.bind_eq_some_iff.1 hq
      refine ⟨g, s, op, sw, rfl, hs, hs2, ?_⟩
      rcases thenE_some h with ⟨e, h1, h2⟩ | ⟨b, j, h1, h2⟩
      · exact Or.inl ⟨e, h1, h2⟩
      · refine Or.inr ⟨b, j, h1, ?_⟩
        split at h2
        · rename_i h3; exact Or.inl ⟨h3, (Option.some.inj h2).symm⟩
        · rename_i h3; exact Or.inr ⟨h3, h2⟩
def cI (w : World) (a : Addr) : Int := match w.cell? a with
  | some (.int _ i) => i
  | _ => 0
theorem cI_at {w : World} {a : Addr} {k : IntKind} {i : Int} (h : w.cell? a = some (.int k i)) : cI w a = i := by unfold cI; rw [h]
theorem both_good {op : Int} {sw : Bool} {a b : Fo} (ho : 6 ≤ op ∧ op ≤ 20) (ha : Px.Good a) (hb : Px.Good b) : Px.Good (both op sw a b) := by
  unfold both
  cases sw
  · exact good_two ho ha hb
  · exact good_two ho hb ha
theorem both_size (op : Int) (sw : Bool) (a b : Fo) : (both op sw a b).size = a.size + b.size + 1 := by
  unfold both node
  cases sw <;> simp [Fo.size, Fo.size_app]; omega
def mR (rb ia ic N : Nat) (w : World) : Nat := if cI w ⟨rb, ic, none⟩ = 0 then N + 1 - (cI w ⟨rb, ia, none⟩).toNat else 0
theorem mR_ok {rb ia ic N : Nat} {w : World} {k1 k2 : IntKind} {i : Nat} (h1 : w.cell? ⟨rb, ia, none⟩ = some (.int k1 i)) (h2 : w.cell? ⟨rb, ic, none⟩ = some (.int k2 0)) : mR rb ia ic N w = N + 1 - i := by
  unfold mR; rw [cI_at h1, cI_at h2]; simp
theorem mR_err {rb ia ic N : Nat} {w : World} {k2 : IntKind} {c : Int} (h2 : w.cell? ⟨rb, ic, none⟩ = some (.int k2 c)) (hc : c ≠ 0) : mR rb ia ic N w = 0 := by
  unfold mR; rw [cI_at h2, if_neg hc]
def LpR (St : World → Int → Int → Int → Int → Prop) (L : List Tok) (rb base : Nat) (o : Nat) (w : World) (n fu : Nat) (r : Res) (av : Value) (wr : World) : Prop :=
  Al rb w wr ∧ ((∃ F i g, g < fu ∧ OwnE base wr av (F.flat 0) ∧ Px.Good F ∧ F.size + 1 ≤ 3 * i ∧ i ≤ L.length ∧ St wr (i : Nat) o 0 0 ∧ P L g (.loop n F) i o = some r) ∨
    ∃ (c p : Int) (a : Option Addr) (m k i : Nat), r = .error (c, p) ∧ c ≠ 0 ∧ i ≤ 200000 ∧ St wr (i : Nat) o c p ∧ av = .slice a m k)
end Go.Proofs.YtmklieoikbgmpaaDoor
namespace Go.Proofs.YtmklieoikbgmpaaDoor
open Go.RowKit Go.Shelf Tx
end Go.Proofs.YtmklieoikbgmpaaDoor
namespace Go.Proofs.YtmklieoikbgmpaaDoor
open Go.RowKit Go.Shelf Tx
theorem Gr.other {w w1 w2 : World} {v v1 u u' : Value} (h : Gr w v w1 v1) (k : Gr w1 u w2 u') (hu : ∀ g, u.ownBlock = some g → w.heap.size ≤ g) : Gr w v w2 v1 :=
  ⟨k.os.trans h.os, k.tape.trans h.tape, k.output.trans h.output, Nat.le_trans h.size k.size,
   fun i hi hn => (k.block i (Nat.lt_of_lt_of_le hi h.size) (fun e => by have := hu i e; omega)).trans (h.block i hi hn), h.own⟩
end Go.Proofs.YtmklieoikbgmpaaDoor
namespace Go.Proofs.YtmklieoikbgmpaaDoor
open Go.RowKit Go.Shelf Tx
end Go.Proofs.YtmklieoikbgmpaaDoor
namespace Go.Proofs.YtmklieoikbgmpaaDoor
open Go.RowKit Go.Shelf Tx
end Go.Proofs.YtmklieoikbgmpaaDoor
namespace Go.Proofs.YtmklieoikbgmpaaDoor
open Go.RowKit Go.Shelf Tx
end Go.Proofs.YtmklieoikbgmpaaDoor
namespace Go.Proofs.YtmklieoikbgmpaaDoor.Fx
abbrev Bs := List UInt8
def lineOf (s : Bs) : Bs := s.takeWhile (· != 10)
def restOf (s : Bs) : Bs := (s.dropWhile (· != 10)).drop 1
def linesF : Nat → Bs → List Bs
  | 0, _ => []
  | f + 1, s => if s.isEmpty then [] else lineOf s :: linesF f (restOf s)
def lines (s : Bs) : List Bs := linesF (s.length + 1) s
def wordOf (s : Bs) : Bs := s.takeWhile (· != 32)
def behind (s : Bs) : Bs := s.dropWhile (· != 32)
def skip (s : Bs) : Bs := s.dropWhile (· == 32)
def wordsF : Nat → Bs → List Bs
  | 0, _ => []
  | f + 1, s => if (skip s).isEmpty then [] else wordOf (skip s) :: wordsF f (behind (skip s))
def words (s : Bs) : List Bs := wordsF (s.length + 1) s
def fits (n : Int) : Bool := decide (-2147483648 ≤ n) && decide (n ≤ 2147483647)
def isD (c : UInt8) : Bool := 48 ≤ c && c ≤ 57
def val (l : Bs) : Nat := l.foldl (fun n c => 10 * n + (c.toNat - 48)) 0
def size (d : Bs) : Option Nat := if d.isEmpty || decide (10 < d.length) || (d.headD 0 == 48 && decide (1 < d.length)) || !d.all isD then none else some (val d)
def tru : Bs := [116, 114, 117, 101]
def fal : Bs := [102, 97, 108, 115, 101]
def dg (n : Nat) : UInt8 := UInt8.ofNat (48 + n)
def decF : Nat → Nat → Bs
  | 0, _ => []
  | f + 1, n => if n < 10 then [dg n] else decF f (n / 10) ++ [dg (n % 10)]
def dec (n : Nat) : Bs := decF (n + 1) n
def itoa (n : Int) : Bs := if n < 0 then 45 :: dec n.natAbs else dec n.toNat
def may (t n : Int) : Bool := (decide (t = 2) && fits n) || (decide (t = 1) && (decide (n = 0) || decide (n = 1)))
def text (t n : Int) : Bs := if t = 1 then (if n = 1 then tru else fal) else itoa n
end Go.Proofs.YtmklieoikbgmpaaDoor.Fx
namespace Go.Proofs.YtmklieoikbgmpaaDoor
namespace Ux
open Tx
end Ux
end Go.Proofs.YtmklieoikbgmpaaDoor
namespace Go.Proofs.YtmklieoikbgmpaaDoor
open Go.RowKit Go.Shelf Tx
end Go.Proofs.YtmklieoikbgmpaaDoor
namespace Go.Proofs.YtmklieoikbgmpaaDoor
open Go.RowKit Go.Shelf Tx
theorem RowL.gr {α : Type} {f : α → Value} {T base g n : Nat} {w w' : World} {v v' : Value} {L : List α} (h : RowL f T base w g n L) (hg : Gr w v w' v') (hn : v.ownBlock ≠ some g) : RowL f T base w' g n L := by
  refine World.ownsRow.kept h (row := v.ownBlock) ⟨hg.os, hg.tape, hg.output, hg.size, fun k hk hne => hg.block k hk (fun e => hne e.symm)⟩ ?_
  exact Or.inr (fun e => hn e.symm)
end Go.Proofs.YtmklieoikbgmpaaDoor
namespace Go.Proofs.YtmklieoikbgmpaaDoor
open Go.RowKit Go.Shelf Tx Px
section
variable {W W' : World} {rb : Nat} {tv : Value} {I o c p : Int}
end
section
variable {L : List Tok} {a : Option Addr} {cc rb : Nat} {w0 : World}
end
end Go.Proofs.YtmklieoikbgmpaaDoor
namespace Go.Proofs.YtmklieoikbgmpaaDoor
open Go.RowKit Go.Shelf Tx Px
section
variable {L : List Tok} {a : Option Addr} {cc rb : Nat} {w0 : World}
end
end Go.Proofs.YtmklieoikbgmpaaDoor
