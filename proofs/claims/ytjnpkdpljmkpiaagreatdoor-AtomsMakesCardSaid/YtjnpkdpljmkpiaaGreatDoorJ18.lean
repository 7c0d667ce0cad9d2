/- Plain mathematics of ordered decision diagrams: what a list of nodes means; two nodes that mean the same are one; counting; the first row. Maps in memory by plain lists of keys and values; frames that may turn a set of blocks; the store of diagrams in memory. Readers of expressions: what both share: their memory, tokens. The reference's reader of expressions: its memory; signs and words, what is passed, expressions put together: the walk. Readers of expressions: what one level's answer is made of: the plain part. Rows of expressions that a call made: the array, and each expression in it. The store of diagrams in memory. Walks: half, are. Plain mathematics of diagrams, more: rows of values by number; how often a function is true; its first row. -/
import Derived.WalkKit
import Derived.WalkSpells
import Derived.WalkLawsBesides
import Derived.Maps.Own
import Derived.Test.YtjnpkdpljmkpiaaGreatDoorProg
import Derived.BigQuiet
import Derived.Deep.QuietTactic
import Derived.Test.YtjnpkdpljmkpiaaGreatDoorJ1
import Derived.Test.YtjnpkdpljmkpiaaGreatDoorJ7
import Derived.Test.YtjnpkdpljmkpiaaGreatDoorJ15
import Derived.Test.YtjnpkdpljmkpiaaGreatDoorJ17
namespace Go.Proofs.YtjnpkdpljmkpiaaGreatDoor
namespace Dd
abbrev Nd := Nat × Nat × Nat
def T (ns : List Nd) (f : Nat) : Nat := (ns.getD f (0, 0, 0)).1
def L (ns : List Nd) (f : Nat) : Nat := (ns.getD f (0, 0, 0)).2.1
def H (ns : List Nd) (f : Nat) : Nat := (ns.getD f (0, 0, 0)).2.2
structure WF (vars : Nat) (ns : List Nd) : Prop where
  two : 2 ≤ ns.length
  n0 : ns.getD 0 (0, 0, 0) = (vars, 0, 0)
  n1 : ns.getD 1 (0, 0, 0) = (vars, 1, 1)
  nd : ∀ f, 2 ≤ f → f < ns.length → L ns f ≠ H ns f ∧ L ns f < f ∧ H ns f < f ∧ T ns f < vars ∧ T ns f < T ns (L ns f) ∧ T ns f < T ns (H ns f)
  inj : ∀ f g, 2 ≤ f → 2 ≤ g → f < ns.length → g < ns.length → ns.getD f (0, 0, 0) = ns.getD g (0, 0, 0) → f = g
def ev (ns : List Nd) (env : Nat → Bool) : Nat → Nat → Bool
  | 0, f => f == 1
  | k + 1, f => if f ≤ 1 then f == 1 else if env (T ns f) then ev ns env k (H ns f) else ev ns env k (L ns f)
def den (ns : List Nd) (env : Nat → Bool) (f : Nat) : Bool := ev ns env f f
theorem ev_low (ns : List Nd) (env : Nat → Bool) (k f : Nat) (h : f ≤ 1) : ev ns env k f = (f == 1) := by
  cases k <;> simp [ev, h]
theorem ev_fuel {vars : Nat} {ns : List Nd} (W : WF vars ns) (env : Nat → Bool) : ∀ k f, f < ns.length → f ≤ k → ev ns env k f = ev ns env f f := by
  intro k
  induction k using Nat.strongRecOn with
  | _ k ih =>
    intro f hf hk
    by_cases h1 : f ≤ 1
    · rw [ev_low _ _ _ _ h1, ev_low _ _ _ _ h1]
    · obtain ⟨_, hl, hh, _⟩ := W.nd f (by omega) hf
      cases k with
      | zero => omega
      | succ k =>
        cases f with
        | zero => omega
        | succ f =>
          simp only [ev, h1, if_false]
          rw [ih k (by omega) _ (by omega) (by omega), ih k (by omega) _ (by omega) (by omega)]
          by_cases hkf : k = f
          · subst hkf
            rw [← ih k (by omega) (H ns (k+1)) (by omega) (by omega), ← ih k (by omega) (L ns (k+1)) (by omega) (by omega)]
          · rw [← ih f (by omega) (H ns (f+1)) (by omega) (by omega), ← ih f (by omega) (L ns (f+1)) (by omega) (by omega)]
theorem den_zero (ns : List Nd) (env : Nat → Bool) : den ns env 0 = false := by simp [den, ev]
theorem den_one (ns : List Nd) (env : Nat → Bool) : den ns env 1 = true := by simp [den, ev]
theorem den_step {vars : Nat} {ns : List Nd} (W : WF vars ns) (env : Nat → Bool) {f : Nat} (h2 : 2 ≤ f) (hf : f < ns.length) :
    den ns env f = if env (T ns f) then den ns env (H ns f) else den ns env (L ns f) := by
  obtain ⟨_, hl, hh, _⟩ := W.nd f h2 hf
  unfold den
  cases f with
  | zero => omega
  | succ f =>
    have h1 : ¬ (f + 1 ≤ 1) := by omega
    simp only [ev, h1, if_false]
    rw [ev_fuel W env f (H ns (f+1)) (by omega) (by omega), ev_fuel W env f (L ns (f+1)) (by omega) (by omega)]
def upd (env : Nat → Bool) (v : Nat) (b : Bool) : Nat → Bool := fun i => if i = v then b else env i
theorem upd_same (env : Nat → Bool) (v : Nat) : upd env v (env v) = env := by
  funext i; unfold upd; split <;> simp_all
theorem T_le {vars : Nat} {ns : List Nd} (W : WF vars ns) {f : Nat} (hf : f < ns.length) : T ns f ≤ vars := by
  by_cases h : 2 ≤ f
  · have := W.nd f h hf; omega
  · have : f = 0 ∨ f = 1 := by omega
    rcases this with rfl | rfl
    · simp [T, W.n0, -List.getD_eq_getElem?_getD]
    · simp [T, W.n1, -List.getD_eq_getElem?_getD]
theorem T_const {vars : Nat} {ns : List Nd} (W : WF vars ns) {f : Nat} (hf : f ≤ 1) : T ns f = vars := by
  have : f = 0 ∨ f = 1 := by omega
  rcases this with rfl | rfl
  · simp [T, W.n0, -List.getD_eq_getElem?_getD]
  · simp [T, W.n1, -List.getD_eq_getElem?_getD]
theorem L_const {vars : Nat} {ns : List Nd} (W : WF vars ns) {f : Nat} (hf : f ≤ 1) : L ns f = f ∧ H ns f = f := by
  have : f = 0 ∨ f = 1 := by omega
  rcases this with rfl | rfl
  · simp [L, H, W.n0, -List.getD_eq_getElem?_getD]
  · simp [L, H, W.n1, -List.getD_eq_getElem?_getD]
theorem indep {vars : Nat} {ns : List Nd} (W : WF vars ns) (env : Nat → Bool) (v : Nat) (b : Bool) : ∀ f, f < ns.length → v < T ns f → den ns (upd env v b) f = den ns env f := by
  intro f
  induction f using Nat.strongRecOn with
  | _ f ih =>
    intro hf hv
    by_cases h2 : 2 ≤ f
    · obtain ⟨_, hl, hh, _, htl, hth⟩ := W.nd f h2 hf
      rw [den_step W _ h2 hf, den_step W _ h2 hf, ih _ hl (by omega) (by omega), ih _ hh (by omega) (by omega)]
      have : upd env v b (T ns f) = env (T ns f) := by unfold upd; rw [if_neg (by omega)]
      rw [this]
    · unfold den; rw [ev_low _ _ _ _ (by omega), ev_low _ _ _ _ (by omega)]
theorem den_congr {vars : Nat} {ns : List Nd} (W : WF vars ns) {env env' : Nat → Bool} (h : ∀ i, i < vars → env i = env' i) : ∀ f, f < ns.length → den ns env f = den ns env' f := by
  intro f
  induction f using Nat.strongRecOn with
  | _ f ih =>
    intro hf
    by_cases h2 : 2 ≤ f
    · obtain ⟨_, hl, hh, ht, _⟩ := W.nd f h2 hf
      rw [den_step W _ h2 hf, den_step W _ h2 hf, ih _ hl (by omega), ih _ hh (by omega), h _ ht]
    · unfold den; rw [ev_low _ _ _ _ (by omega), ev_low _ _ _ _ (by omega)]
def half (ns : List Nd) (f t : Nat) (b : Bool) : Nat := if T ns f ≠ t then f else if b then H ns f else L ns f
theorem half_lt {vars : Nat} {ns : List Nd} (W : WF vars ns) {f t : Nat} {b : Bool} (hf : f < ns.length) : half ns f t b < ns.length := by
  unfold half
  split
  · exact hf
  · by_cases h2 : 2 ≤ f
    · have := W.nd f h2 hf; split <;> omega
    · have := L_const W (show f ≤ 1 by omega); split <;> omega
theorem half_den {vars : Nat} {ns : List Nd} (W : WF vars ns) (env : Nat → Bool) {f t : Nat} {b : Bool} (hf : f < ns.length) (ht : t ≤ T ns f) (htv : t < vars) :
    den ns env (half ns f t b) = den ns (upd env t b) f := by
  unfold half
  by_cases e : T ns f = t
  · have h2 : 2 ≤ f := by
      rcases Nat.lt_or_ge f 2 with h | h
      · have := T_const W (f := f) (by omega); omega
      · exact h
    obtain ⟨_, hl, hh, _, htl, hth⟩ := W.nd f h2 hf
    rw [if_neg (by simpa using e), den_step W _ h2 hf]
    have : upd env t b (T ns f) = b := by simp [upd, e]
    rw [this]
    cases b
    · simp only [if_false, Bool.false_eq_true]; rw [indep W _ _ _ _ (by omega) (by omega)]
    · simp only [if_true]; rw [indep W _ _ _ _ (by omega) (by omega)]
  · rw [if_pos e, indep W _ _ _ _ hf (by omega)]
theorem half_T {vars : Nat} {ns : List Nd} (W : WF vars ns) {f t : Nat} {b : Bool} (hf : f < ns.length) (ht : t ≤ T ns f) (htv : t < vars) : t < T ns (half ns f t b) := by
  unfold half
  by_cases e : T ns f = t
  · have h2 : 2 ≤ f := by
      rcases Nat.lt_or_ge f 2 with h | h
      · have := T_const W (f := f) (by omega); omega
      · exact h
    obtain ⟨_, hl, hh, _, htl, hth⟩ := W.nd f h2 hf
    rw [if_neg (by simpa using e)]; split <;> omega
  · rw [if_pos e]; omega
theorem getD_app {ns xs : List Nd} {f : Nat} (hf : f < ns.length) : (ns ++ xs).getD f (0, 0, 0) = ns.getD f (0, 0, 0) := by
  simp [List.getD, List.getElem?_append_left hf]
theorem T_app {ns xs : List Nd} {f : Nat} (hf : f < ns.length) : T (ns ++ xs) f = T ns f := by unfold T; rw [getD_app hf]
theorem L_app {ns xs : List Nd} {f : Nat} (hf : f < ns.length) : L (ns ++ xs) f = L ns f := by unfold L; rw [getD_app hf]
theorem H_app {ns xs : List Nd} {f : Nat} (hf : f < ns.length) : H (ns ++ xs) f = H ns f := by unfold H; rw [getD_app hf]
theorem half_app {ns xs : List Nd} {f t : Nat} {b : Bool} (hf : f < ns.length) : half (ns ++ xs) f t b = half ns f t b := by
  unfold half; rw [T_app hf, L_app hf, H_app hf]
theorem den_app {vars : Nat} {ns xs : List Nd} (W : WF vars ns) (W' : WF vars (ns ++ xs)) (env : Nat → Bool) : ∀ f, f < ns.length → den (ns ++ xs) env f = den ns env f := by
  intro f
  induction f using Nat.strongRecOn with
  | _ f ih =>
    intro hf
    by_cases h2 : 2 ≤ f
    · obtain ⟨_, hl, hh, _⟩ := W.nd f h2 hf
      rw [den_step W _ h2 hf, den_step W' _ h2 (by simp; omega), T_app hf, L_app hf, H_app hf, ih _ hl (by omega), ih _ hh (by omega)]
    · unfold den; rw [ev_low _ _ _ _ (by omega), ev_low _ _ _ _ (by omega)]
theorem WF_new (vars : Nat) : WF vars [(vars, 0, 0), (vars, 1, 1)] := by
  refine ⟨by simp, by simp, by simp, ?_, ?_⟩
  · intro f h2 hf; simp at hf; omega
  · intro f g h2 _ hf; simp at hf; omega
theorem WF_push {vars : Nat} {ns : List Nd} (W : WF vars ns) {t l h : Nat} (hl : l < ns.length) (hh : h < ns.length) (hne : l ≠ h) (ht : t < vars) (htl : t < T ns l) (hth : t < T ns h)
    (hno : ∀ f, 2 ≤ f → f < ns.length → ns.getD f (0, 0, 0) ≠ (t, l, h)) : WF vars (ns ++ [(t, l, h)]) := by
  have hlast : (ns ++ [(t, l, h)]).getD ns.length (0, 0, 0) = (t, l, h) := by simp [List.getD]
  have two := W.two
  refine ⟨by simp; omega, by rw [getD_app (by omega)]; exact W.n0, by rw [getD_app (by omega)]; exact W.n1, ?_, ?_⟩
  · intro f h2 hf
    simp at hf
    by_cases e : f = ns.length
    · subst e
      have e1 : T (ns ++ [(t, l, h)]) ns.length = t := by unfold T; rw [hlast]
      have e2 : L (ns ++ [(t, l, h)]) ns.length = l := by unfold L; rw [hlast]
      have e3 : H (ns ++ [(t, l, h)]) ns.length = h := by unfold H; rw [hlast]
      rw [e1, e2, e3, T_app hl, T_app hh]
      exact ⟨hne, hl, hh, ht, htl, hth⟩
    · have hf' : f < ns.length := by omega
      have := W.nd f h2 hf'
      rw [T_app hf', L_app hf', H_app hf', T_app (by omega), T_app (by omega)]
      exact this
  · intro f g h2 g2 hf hg e
    simp at hf hg
    by_cases ef : f = ns.length
    · by_cases eg : g = ns.length
      · omega
      · subst ef
        rw [hlast, getD_app (by omega)] at e
        exact absurd e.symm (hno g g2 (by omega))
    · by_cases eg : g = ns.length
      · subst eg
        rw [hlast, getD_app (by omega)] at e
        exact absurd e (hno f h2 (by omega))
      · rw [getD_app (by omega), getD_app (by omega)] at e
        exact W.inj f g h2 g2 (by omega) (by omega) e
end Dd
end Go.Proofs.YtjnpkdpljmkpiaaGreatDoor
namespace Go.Proofs.YtjnpkdpljmkpiaaGreatDoor
open Go.RowKit
structure Fr (S : Nat → Prop) (w w' : World) : Prop where
  os : w'.os = w.os
  tape : w'.tape = w.tape
  output : w'.output = w.output
  size : w.heap.size ≤ w'.heap.size
  block : ∀ k, k < w.heap.size → ¬ S k → w'.heap[k]? = w.heap[k]?
theorem Fr.refl (S : Nat → Prop) (w : World) : Fr S w w := ⟨rfl, rfl, rfl, Nat.le_refl _, fun _ _ _ => rfl⟩
theorem Fr.trans {S S' : Nat → Prop} {a b c : World} (h : Fr S a b) (k : Fr S' b c) (hs : ∀ i, i < a.heap.size → S' i → S i) : Fr S a c :=
  ⟨k.os.trans h.os, k.tape.trans h.tape, k.output.trans h.output, Nat.le_trans h.size k.size, fun i hi hn => (k.block i (Nat.lt_of_lt_of_le hi h.size) (fun q => hn (hs i hi q))).trans (h.block i hi hn)⟩
theorem Fr.mono {S S' : Nat → Prop} {a b : World} (h : Fr S a b) (hs : ∀ i, i < a.heap.size → S i → S' i) : Fr S' a b :=
  ⟨h.os, h.tape, h.output, h.size, fun i hi hn => h.block i hi fun q => hn (hs i hi q)⟩
theorem Fr.cell {S : Nat → Prop} {w w' : World} (h : Fr S w w') {p : Addr} (hp : p.block < w.heap.size) (hn : ¬ S p.block) : w'.cell? p = w.cell? p := World.cell?_of_block (w := w) (h.block p.block hp hn)
theorem Fr.below {S : Nat → Prop} {a w w' : World} {B : Nat} (h : Below B a w) (k : Fr S w w') (hB : B ≤ w.heap.size) (hs : ∀ i, S i → B ≤ i) : Below B a w' :=
  ⟨k.os.trans h.os, k.tape.trans h.tape, k.output.trans h.output, Nat.le_trans h.size k.size, fun i hi => (k.block i (by omega) (fun q => by have := hs i q; omega)).trans (h.block i hi)⟩
theorem Fr.of_below {w w' : World} (h : Below w.heap.size w w') (S : Nat → Prop) : Fr S w w' := ⟨h.os, h.tape, h.output, h.size, fun k hk _ => h.block k hk⟩
theorem Fr.ownsRow {S : Nat → Prop} {w w' : World} (h : Fr S w w') {base e size n : Nat} {v : Value} {xs : List Value} (ho : w.ownsRow base e size v n xs) (hn : ∀ k, v.ownBlock = some k → ¬ S k) : w'.ownsRow base e size v n xs := by
  have hlt := ho.lt
  obtain ⟨h1, h2⟩ := ho
  refine ⟨h1, ?_⟩
  rcases h2 with h2 | ⟨g, cap, cur, rfl, hg, hh, r⟩
  · exact Or.inl h2
  · exact Or.inr ⟨g, cap, cur, rfl, hg, by rw [h.block g (hlt g rfl).2 (hn g rfl)]; exact hh, r⟩
structure KeyLaw' (P : Program) (k : TypeId) {κ : Type} (code : κ → Value) : Prop where
  inj : ∀ a b, code a = code b → a = b
  check : ∀ (b : Bool) (x : κ) (w : World), (Instr.checkKey b 10000 k (code x)).run P w = .ok () w
  find : ∀ (x : κ) (es : List MapEntry) (l : List κ), es.map (·.key) = l.map code → ∀ w, ∃ r, (Instr.findKey k (code x) es).run P w = .ok r w ∧
    ((r = none ∧ x ∉ l) ∨ ∃ i e, r = some (i, e.val) ∧ es[i]? = some e ∧ l[i]? = some x ∧ ∀ j, j < i → l[j]? ≠ some x)
  stays : ∀ (x : κ) (w : World), (Instr.keyThatStays (code x) (code x)).run P w = .ok (code x) w
def MapIs {κ ν : Type} (kc : κ → Value) (vc : ν → Value) (w : World) (m : Nat) (l : List (κ × ν)) : Prop :=
  ∃ es clock, w.heap[m]? = some (.map es clock) ∧ es.toList.map (fun e => (e.key, e.val)) = l.map (fun p => (kc p.1, vc p.2))
theorem MapIs.lt {κ ν : Type} {kc : κ → Value} {vc : ν → Value} {w : World} {m : Nat} {l : List (κ × ν)} (h : MapIs kc vc w m l) : m < w.heap.size := by
  obtain ⟨es, clock, hb, _⟩ := h
  exact (Array.getElem?_eq_some_iff.1 hb).1
theorem MapIs.of_block {κ ν : Type} {kc : κ → Value} {vc : ν → Value} {w w' : World} {m : Nat} {l : List (κ × ν)} (h : MapIs kc vc w m l) (hb : w'.heap[m]? = w.heap[m]?) : MapIs kc vc w' m l := by
  obtain ⟨es, clock, h1, h2⟩ := h
  exact ⟨es, clock, hb.trans h1, h2⟩
theorem MapIs.made {κ ν : Type} (kc : κ → Value) (vc : ν → Value) (w : World) : MapIs kc vc (w.alloc (.map #[] 0)) w.heap.size [] :=
  ⟨#[], 0, (MapKept.heap_alloc w _).1, rfl⟩
def look {κ ν : Type} [DecidableEq κ] (x : κ) : List (κ × ν) → Option ν
  | [] => none
  | p :: r => if p.1 = x then some p.2 else look x r
theorem look_at {κ ν : Type} [DecidableEq κ] (x : κ) : ∀ (l : List (κ × ν)) (i : Nat) (v : ν), l[i]? = some (x, v) → (∀ j, j < i → (l[j]?).map (·.1) ≠ some x) → look x l = some v
  | [], i, v, h, _ => by simp at h
  | p :: r, 0, v, h, _ => by simp at h; subst h; simp [look]
  | p :: r, i + 1, v, h, hn => by
    have h0 := hn 0 (by omega)
    simp at h0 h
    rw [look, if_neg h0]
    exact look_at x r i v h fun j hj => by have := hn (j + 1) (by omega); simpa using this
theorem look_none {κ ν : Type} [DecidableEq κ] (x : κ) : ∀ (l : List (κ × ν)), (x ∉ l.map (·.1)) → look x l = none
  | [], _ => rfl
  | p :: r, h => by
    simp at h
    rw [look, if_neg (fun e => h.1 e.symm)]
    exact look_none x r (by simpa using h.2)
theorem look_mem {κ ν : Type} [DecidableEq κ] {x : κ} {v : ν} : ∀ {l : List (κ × ν)}, look x l = some v → (x, v) ∈ l
  | [], h => by simp [look] at h
  | p :: r, h => by
    rw [look] at h
    split at h
    · rename_i e; simp at h; subst e; subst h; simp
    · exact List.mem_cons_of_mem _ (look_mem h)
theorem MapIs.lookup {P : Program} {κ ν : Type} [DecidableEq κ] {kc : κ → Value} {vc : ν → Value} {w : World} {m : Nat} {l : List (κ × ν)} {t k e : TypeId} (h : MapIs kc vc w m l) (K : KeyLaw' P k kc) (ht : P.underlying t = some (.map k e))
    {z : Value} (hz : ∀ w, (zeroValue e).run P w = .ok z w) (x : κ) :
    (Instr.lookup t (.map (some m)) (kc x) true).run P w = .ok (.tuple #[((look x l).map vc).getD z, .bool (look x l).isSome]) w := by
  obtain ⟨es, clock, hb, hl⟩ := h
  have hk : es.toList.map (·.key) = (l.map (·.1)).map kc := by
    have := congrArg (List.map Prod.fst) hl
    simpa [Function.comp_def] using this
  obtain ⟨r, hr, hcase⟩ := K.find x es.toList (l.map (·.1)) hk w
  have hget : (getObj m).run P w = .ok (.map es clock) w := by simp [getObj, Sem.run, hb]
  rcases hcase with ⟨rfl, hno⟩ | ⟨i, en, rfl, hi, hli, hfirst⟩
  · have hn := look_none x l hno
    simp [Instr.lookup, run_underlying ht, hget, K.check, hr, hz, hn, go_sem]
  · obtain ⟨p, hp⟩ : ∃ p, l[i]? = some p ∧ p.1 = x := by
      rw [List.getElem?_map] at hli
      obtain ⟨p, h1, h2⟩ := Option.map_eq_some_iff.1 hli
      exact ⟨p, h1, h2⟩
    obtain ⟨hp1, rfl⟩ := hp
    have hv : en.val = vc p.2 := by
      have := congrArg (fun q => (q[i]?).map Prod.snd) hl
      simpa [hi, hp1] using this
    have hsome : look p.1 l = some p.2 := look_at _ l i p.2 (by rw [hp1]) fun j hj => by
      have := hfirst j hj
      rw [List.getElem?_map] at this
      exact this
    simp [Instr.lookup, run_underlying ht, hget, K.check, hr, hsome, hv, go_sem]
def putAt {κ ν : Type} [DecidableEq κ] (x : κ) (v : ν) : List (κ × ν) → List (κ × ν)
  | [] => [(x, v)]
  | p :: r => if p.1 = x then (x, v) :: r else p :: putAt x v r
theorem putAt_none {κ ν : Type} [DecidableEq κ] (x : κ) (v : ν) : ∀ (l : List (κ × ν)), x ∉ l.map (·.1) → putAt x v l = l ++ [(x, v)]
  | [], _ => rfl
  | p :: r, h => by
    simp at h
    rw [putAt, if_neg (fun e => h.1 e.symm), putAt_none x v r (by simpa using h.2)]; rfl
theorem putAt_at {κ ν : Type} [DecidableEq κ] (x : κ) (v : ν) : ∀ (l : List (κ × ν)) (i : Nat), (l[i]?).map (·.1) = some x → (∀ j, j < i → (l[j]?).map (·.1) ≠ some x) → putAt x v l = l.set i (x, v)
  | [], i, h, _ => by simp at h
  | p :: r, 0, h, _ => by simp at h; simp [putAt, h]
  | p :: r, i + 1, h, hn => by
    have h0 := hn 0 (by omega)
    simp at h0 h
    rw [putAt, if_neg h0, putAt_at x v r i (by simpa using h) fun j hj => by have := hn (j + 1) (by omega); simpa using this]
    rfl
theorem look_putAt {κ ν : Type} [DecidableEq κ] (x y : κ) (v : ν) : ∀ (l : List (κ × ν)), look y (putAt x v l) = if x = y then some v else look y l
  | [] => by simp [putAt, look]
  | p :: r => by
    rw [putAt]
    split
    · rename_i e; subst e; simp only [look]; split <;> simp_all
    · rename_i e
      simp only [look, look_putAt x y v r]
      split <;> split <;> simp_all
theorem mem_putAt {κ ν : Type} [DecidableEq κ] {x : κ} {v : ν} {q : κ × ν} : ∀ {l : List (κ × ν)}, q ∈ putAt x v l → q = (x, v) ∨ q ∈ l
  | [], h => by simp [putAt] at h; exact Or.inl h
  | p :: r, h => by
    rw [putAt] at h
    split at h
    · simp at h; rcases h with h | h
      · exact Or.inl h
      · exact Or.inr (by simp [h])
    · simp at h; rcases h with h | h
      · exact Or.inr (by simp [h])
      · rcases mem_putAt h with h | h
        · exact Or.inl h
        · exact Or.inr (by simp [h])
theorem MapIs.update {P : Program} {κ ν : Type} [DecidableEq κ] {kc : κ → Value} {vc : ν → Value} {w : World} {m : Nat} {l : List (κ × ν)} {t k e : TypeId} (h : MapIs kc vc w m l) (K : KeyLaw' P k kc) (ht : P.underlying t = some (.map k e)) (x : κ) (v : ν) :
    ∃ w', (Instr.mapUpdate t (.map (some m)) (kc x) (vc v)).run P w = .ok () w' ∧ MapIs kc vc w' m (putAt x v l) ∧ w.grownBy w' (some m) := by
  have hlt := h.lt
  obtain ⟨es, clock, hb, hl⟩ := h
  have hk : es.toList.map (·.key) = (l.map (·.1)).map kc := by
    have := congrArg (List.map Prod.fst) hl
    simpa [Function.comp_def] using this
  obtain ⟨r, hr, hcase⟩ := K.find x es.toList (l.map (·.1)) hk w
  have hget : (getObj m).run P w = .ok (.map es clock) w := by simp [getObj, Sem.run, hb]
  have hset : ∀ o, (setObj m o).run P w = .ok () { w with heap := w.heap.setIfInBounds m o } := fun o => by simp [setObj, Sem.run, hb]
  have hgrown : ∀ o, w.grownBy { w with heap := w.heap.setIfInBounds m o } (some m) := fun o =>
    ⟨rfl, rfl, rfl, by simp, fun i hi hne => by simp only [Array.getElem?_setIfInBounds]; rw [if_neg (fun e => hne (by rw [e]))]⟩
  rcases hcase with ⟨rfl, hno⟩ | ⟨i, en, rfl, hi, hli, hfirst⟩
  · refine ⟨{ w with heap := w.heap.setIfInBounds m (.map (es.push { key := kc x, val := vc v, born := clock }) (clock + 1)) }, ?_, ⟨_, _, by simp [hlt]; exact ⟨rfl, rfl⟩, ?_⟩, hgrown _⟩
    · simp [Instr.mapUpdate, run_underlying ht, hget, hset, K.check, hr, go_sem]
    · rw [putAt_none x v l hno]; simp [hl]
  · obtain ⟨p, hp1, hp2⟩ : ∃ p, l[i]? = some p ∧ p.1 = x := by
      rw [List.getElem?_map] at hli
      obtain ⟨p, h1, h2⟩ := Option.map_eq_some_iff.1 hli
      exact ⟨p, h1, h2⟩
    have hkey : en.key = kc x := by
      have := congrArg (fun q => (q[i]?).map Prod.fst) hl
      simp [hi, hp1, hp2] at this
      exact this
    have hi' : es[i]? = some en := by simpa using hi
    refine ⟨{ w with heap := w.heap.setIfInBounds m (.map (es.modify i fun e => { e with key := kc x, val := vc v }) clock) }, ?_, ⟨_, _, by simp [hlt]; exact ⟨rfl, rfl⟩, ?_⟩, hgrown _⟩
    · simp [Instr.mapUpdate, run_underlying ht, hget, hset, K.check, hr, hi', hkey, K.stays, go_sem]
    · rw [putAt_at x v l i (by rw [hp1]; simp [hp2]) (fun j hj => by have := hfirst j hj; rw [List.getElem?_map] at this; exact this)]
      apply List.ext_getElem?
      intro j
      have hj := congrArg (fun q => q[j]?) hl
      simp only [List.getElem?_map] at hj ⊢
      simp only [Array.getElem?_toList, Array.getElem?_modify, List.getElem?_set]
      simp only [Array.getElem?_toList] at hj
      by_cases e : i = j
      · subst e
        have hlen : i < l.length := (List.getElem?_eq_some_iff.1 hp1).1
        simp [hi', hlen]
      · simp [e, hj]
theorem wpList_update_is {P : Program} {κ ν : Type} [DecidableEq κ] {kc : κ → Value} {vc : ν → Value} {w : World} {ops : Array Oper} {rest : List Oper} {o : Oper} {a : Act} {Q : Exit → Act → World → Prop}
    (hg : o.guard = none) (m x v : Operand) (t : TypeId) (hop : o.op = Op.mapUpdate t m x v) {k e : TypeId} (K : KeyLaw' P k kc) (ht : P.underlying t = some (.map k e)) {mb : Nat} {l : List (κ × ν)} (hM : MapIs kc vc w mb l)
    (hm : a.eval m = .map (some mb)) (key : κ) (val : ν) (hx : a.eval x = kc key) (hv : a.eval v = vc val)
    (hK : ∀ w', MapIs kc vc w' mb (putAt key val l) → w.grownBy w' (some mb) → wpList P ops Q rest (a.put o.dst undef) w') : wpList P ops Q (o :: rest) a w := by
  refine wpList_plain hg fun K' hK' => ?_
  obtain ⟨w', hrun, r1, r2⟩ := hM.update K ht key val
  unfold Oper.wp
  simp [execOp, hop, hm, hx, hv, hrun, Result.andThen]
  exact hK' _ _ (hK w' r1 r2)
theorem wpList_insert_is {P : Program} {κ ν : Type} [DecidableEq κ] {kc : κ → Value} {vc : ν → Value} {w : World} {ops : Array Oper} {rest : List Oper} {o : Oper} {a : Act} {Q : Exit → Act → World → Prop}
    (hg : o.guard = none) (m x v : Operand) (t : TypeId) (hop : o.op = Op.insert t m x v) {k e : TypeId} (K : KeyLaw' P k kc) (ht : P.underlying t = some (.map k e)) {mb : Nat} {l : List (κ × ν)} (hM : MapIs kc vc w mb l)
    (hm : a.eval m = .map (some mb)) (key : κ) (val : ν) (hx : a.eval x = kc key) (hv : a.eval v = vc val)
    (hK : ∀ w', MapIs kc vc w' mb (putAt key val l) → w.grownBy w' (some mb) → wpList P ops Q rest (a.put o.dst undef) w') : wpList P ops Q (o :: rest) a w := by
  refine wpList_plain hg fun K' hK' => ?_
  obtain ⟨w', hrun, r1, r2⟩ := hM.update K ht key val
  unfold Oper.wp
  simp [execOp, hop, hm, hx, hv, hrun, Result.andThen]
  exact hK' _ _ (hK w' r1 r2)
theorem keyLaw_int {P : Program} {k : TypeId} (hk : P.underlying k = some (.int .i64)) : KeyLaw' P k (fun n : Int => Value.int .i64 n) where
  inj a b h := by simpa using h
  check b x w := by
    show (Instr.checkKey b (9999 + 1) k (.int .i64 x)).run P w = .ok () w
    rw [Instr.checkKey]
    simp [run_underlying hk, go_sem]
  find x es l hl w := by
    have key : ∀ (es : List MapEntry) (l : List Int) (i : Nat), es.map (·.key) = l.map (fun n : Int => Value.int .i64 n) →
        ∃ r, Instr.findNow (.int .i64) (.int .i64 x) es i = some r ∧ ((r = none ∧ x ∉ l) ∨ ∃ j e, r = some (i + j, e.val) ∧ es[j]? = some e ∧ l[j]? = some x ∧ ∀ j', j' < j → l[j']? ≠ some x) := by
      intro es
      induction es with
      | nil => intro l i h; cases l <;> simp at h; exact ⟨none, rfl, Or.inl ⟨rfl, by simp⟩⟩
      | cons e es ih =>
        intro l i h
        cases l with
        | nil => simp at h
        | cons y l =>
          simp at h
          obtain ⟨he, h⟩ := h
          simp only [Instr.findNow, he, Instr.sameNow, if_true]
          by_cases hxy : x = y
          · subst hxy
            simp only [beq_self_eq_true]
            exact ⟨_, rfl, Or.inr ⟨0, e, rfl, rfl, rfl, by simp⟩⟩
          · have : (x == y) = false := by simpa using hxy
            simp only [this]
            obtain ⟨r, h1, h2⟩ := ih l (i + 1) h
            refine ⟨r, h1, ?_⟩
            rcases h2 with ⟨rfl, hn⟩ | ⟨j, e', rfl, h3, h4, h5⟩
            · exact Or.inl ⟨rfl, by simp [hxy, hn]⟩
            · refine Or.inr ⟨j + 1, e', by simp; omega, by simpa using h3, by simpa using h4, ?_⟩
              intro j' hj'
              cases j' with
              | zero => simp; exact fun e => hxy e.symm
              | succ j' => simpa using h5 j' (by omega)
    obtain ⟨r, h1, h2⟩ := key es l 0 hl
    refine ⟨r, ?_, by simpa using h2⟩
    simp [Instr.findKey, run_underlying hk, h1, go_sem]
  stays x w := by
    have h : Instr.sameBits 10000 (.int .i64 x) (.int .i64 x) = true := by rw [Instr.sameBits]; simp
    simp [Instr.keyThatStays, h, go_sem]
def tri (x : Nat × Nat × Nat) : Value := .agg #[.int .i64 x.1, .int .i64 x.2.1, .int .i64 x.2.2]
theorem keyLaw_tri {P : Program} {k : TypeId} {fs : Array Field} {_i : TypeInfo}
    (hk : P.underlying k = some (.struct fs))
    (hcheck : ∀ (b : Bool) (x : Nat × Nat × Nat) (w : World), (Instr.checkKey b 10000 k (tri x)).run P w = .ok () w)
    (heq : ∀ (x y : Nat × Nat × Nat) (w : World), (Op.equal k (tri x) (tri y)).run P w = .ok (decide (x = y)) w) : KeyLaw' P k tri where
  inj a b h := by
    obtain ⟨a1, a2, a3⟩ := a
    obtain ⟨b1, b2, b3⟩ := b
    simp [tri] at h
    simp; omega
  check := hcheck
  find x es l hl w := by
    have key : ∀ (es : List MapEntry) (l : List (Nat × Nat × Nat)) (i : Nat), es.map (·.key) = l.map tri →
        ∃ r, (Instr.findAsking k (tri x) es i).run P w = .ok r w ∧ ((r = none ∧ x ∉ l) ∨ ∃ j e, r = some (i + j, e.val) ∧ es[j]? = some e ∧ l[j]? = some x ∧ ∀ j', j' < j → l[j']? ≠ some x) := by
      intro es
      induction es with
      | nil => intro l i h; cases l <;> simp at h; exact ⟨none, rfl, Or.inl ⟨rfl, by simp⟩⟩
      | cons e es ih =>
        intro l i h
        cases l with
        | nil => simp at h
        | cons y l =>
          simp at h
          obtain ⟨he, h⟩ := h
          by_cases hxy : x = y
          · subst hxy
            exact ⟨some (i, e.val), by simp [Instr.findAsking, he, heq, go_sem], Or.inr ⟨0, e, rfl, rfl, rfl, by simp⟩⟩
          · obtain ⟨r, h1, h2⟩ := ih l (i + 1) h
            refine ⟨r, by simp [Instr.findAsking, he, heq, hxy, h1, go_sem], ?_⟩
            rcases h2 with ⟨rfl, hn⟩ | ⟨j, e', rfl, h3, h4, h5⟩
            · exact Or.inl ⟨rfl, by simp [hxy, hn]⟩
            · refine Or.inr ⟨j + 1, e', by simp; omega, by simpa using h3, by simpa using h4, ?_⟩
              intro j' hj'
              cases j' with
              | zero => simp; exact fun e => hxy e.symm
              | succ j' => simpa using h5 j' (by omega)
    cases es with
    | nil =>
      cases l <;> simp at hl
      exact ⟨none, by simp [Instr.findKey, run_underlying hk, Instr.findNow, go_sem], Or.inl ⟨rfl, by simp⟩⟩
    | cons e es =>
      obtain ⟨r, h1, h2⟩ := key (e :: es) l 0 hl
      refine ⟨r, ?_, by simpa using h2⟩
      simp [Instr.findKey, run_underlying hk, Instr.findNow, Instr.sameNow, h1, go_sem]
  stays x w := by
    have h : Instr.sameBits (9999 + 1) (tri x) (tri x) = true := by
      unfold tri; rw [Instr.sameBits]; simp [Instr.sameBits]
    have h' : Instr.sameBits 10000 (tri x) (tri x) = true := h
    simp [Instr.keyThatStays, h', go_sem]
end Go.Proofs.YtjnpkdpljmkpiaaGreatDoor
namespace Go.Proofs.YtjnpkdpljmkpiaaGreatDoor
open Go.RowKit Go.Shelf Tx Px
abbrev Al (rb : Nat) (w w' : World) : Prop := Fr (fun k => k = rb) w w'
section
variable {W W' : World} {rb : Nat}
theorem set_size (W : World) (a : Addr) (y : Value) : (W.setCell a y).heap.size = W.heap.size := by simp [World.setCell]
theorem Al.set {w : World} (h : Al rb w W) (i : Nat) (y : Value) : Al rb w (W.setCell ⟨rb, i, none⟩ y) := by
  refine ⟨h.os, h.tape, h.output, ?_, fun k hk hn => ?_⟩
  · rw [set_size]; exact h.size
  · rw [Below.heap_setCell _ _ _ _ (by show k ≠ rb; exact hn)]; exact h.block k hk hn
theorem Al.next {w : World} (h : Al rb w W) (k : Al rb W W') : Al rb w W' := Fr.trans h k fun _ _ q => q
theorem Al.then {w : World} (h : Al rb w W) (k : Below W.heap.size W W') : Al rb w W' := h.next (Fr.of_below k _)
theorem Al.refl (rb : Nat) (w : World) : Al rb w w := Fr.refl _ w
theorem Al.drew {w : World} (h : Al rb w W) : Al rb w W.drew := ⟨h.os, h.tape, h.output, h.size, h.block⟩
theorem Al.drewN {w : World} (h : Al rb w W) (q : Nat) : Al rb w (W.drewN q) := ⟨h.os, h.tape, h.output, h.size, h.block⟩
theorem Al.of (h : Below W.heap.size W W') : Al rb W W' := Fr.of_below h _
theorem Al.ownE {base : Nat} {v : Value} {e : List Nd} (h : Al rb W W') (ho : OwnE base W v e) (hb : rb < base) : OwnE base W' v e := Fr.ownsRow h ho (fun k hk e => by have := (World.ownsRow.lt ho k hk).1; omega)
theorem Al.blk {b T : Nat} {cs : Array Value} (h : Al rb W W') (hk : Blk W b cs T) (hb : b ≠ rb) : Blk W' b cs T := (h.block b hk.lt hb).trans hk
theorem Al.keeps {w0 : World} {base : Nat} (h : Al rb W W') (hb : Below base w0 W) (hlt : base ≤ W.heap.size) (hr : base ≤ rb) : Below base w0 W' := Fr.below hb h hlt (fun i hi => by omega)
end
def TokAt (w0 : World) (rb : Nat) (a : Option Addr) (L : List Tok) : Prop := ∀ W, Al rb w0 W → ∀ i x, L[i]? = some x → ∃ b o, a = some ⟨b, o, none⟩ ∧ W.cell? ⟨b, o + i * 3, none⟩ = some (.int .i64 x.k) ∧ W.cell? ⟨b, o + i * 3 + 1, none⟩ = some (.string x.t) ∧ W.cell? ⟨b, o + i * 3 + 2, none⟩ = some (.int .i64 x.p)
structure EnvOk (w0 : World) (rb : Nat) (a : Option Addr) (cc : Nat) (L : List Tok) : Prop where
  len : L.length ≤ 100000
  cap : L.length ≤ cc
  tok : TokAt w0 rb a L
  ok : ∀ t ∈ L, TokOk t
theorem atP_lt {L : List Tok} {i : Nat} {x : Tok} (h : L[i]? = some x) : atP L i = x.p := by unfold atP; rw [h]
theorem atP_ge {L : List Tok} {i : Nat} (h : L.length ≤ i) : atP L i = -1 := by unfold atP; rw [List.getElem?_eq_none h]
theorem isT_ge {L : List Tok} {i : Nat} (h : L.length ≤ i) (s : ByteArray) : isT L i s = false := by
  unfold isT hereT; rw [List.getElem?_eq_none h]; rfl
theorem isT_kind {L : List Tok} {i : Nat} {x : Tok} (h : L[i]? = some x) (hk : x.k ≠ 3 ∧ x.k ≠ 4) (s : ByteArray) : isT L i s = false := by
  unfold isT hereT; rw [h]; simp [hk.1, hk.2]
theorem isT_text {L : List Tok} {i : Nat} {x : Tok} (h : L[i]? = some x) (hk : x.k = 3 ∨ x.k = 4) (s : ByteArray) : isT L i s = decide (x.t = s) := by
  unfold isT hereT; rw [h]; simp [hk]
theorem bytes_eq (s t : ByteArray) : (s.toList == t.toList) = decide (s = t) := by
  rw [Bool.eq_iff_iff, beq_iff_eq, decide_eq_true_eq, Lib.toList_data, Lib.toList_data]
  exact ⟨fun h => bytes_ext h, fun h => by rw [h]⟩
theorem sg_parts {W : World} {g : Nat} {us : List Value} {Fs : List Fo} {T : TypeId} (h : Blk W g us.toArray T) (hl : us.length = Fs.length) (hx : ∀ (i : Nat) u F, us[i]? = some u → Fs[i]? = some F → IsE W u (F.flat 0)) : Sg 1 IsF W (.slice (some ⟨g, 0, none⟩) Fs.length Fs.length) Fs := by
  refine ⟨us.map oneC, Or.inr ⟨g, 0, Fs.length, by simp [hl], by simp [hl], h.lt, fun i x hi j u hu => ?_⟩, by simp [hl], fun i c F hc hF => ?_⟩
  · rw [List.getElem?_map] at hi
    obtain ⟨y, hy, rfl⟩ := Option.map_eq_some_iff.1 hi
    have hj : j = 0 ∧ u = y := by
      cases j with
      | zero => simp [oneC] at hu; exact ⟨rfl, hu.symm⟩
      | succ j => simp [oneC] at hu
    obtain ⟨rfl, rfl⟩ := hj
    unfold Blk at h
    simp [World.cell?, h, hy]
  · rw [List.getElem?_map] at hc
    obtain ⟨u, hu, rfl⟩ := Option.map_eq_some_iff.1 hc
    exact ⟨u, rfl, hx i u F hu hF⟩
theorem sg_two {W : World} {g : Nat} {u v : Value} {A B : Fo} {T : TypeId} (h : Blk W g #[u, v] T) (hu : IsE W u (A.flat 0)) (hv : IsE W v (B.flat 0)) : Sg 1 IsF W (.slice (some ⟨g, 0, none⟩) 2 2) [A, B] :=
  sg_parts (us := [u, v]) (Fs := [A, B]) h rfl fun i x F hx hF => by
    match i with
    | 0 => simp at hx hF; subst hx hF; exact hu
    | 1 => simp at hx hF; subst hx hF; exact hv
    | i + 2 => simp at hx
theorem sg_one {W : World} {g : Nat} {u : Value} {A : Fo} {T : TypeId} (h : Blk W g #[u] T) (hu : IsE W u (A.flat 0)) : Sg 1 IsF W (.slice (some ⟨g, 0, none⟩) 1 1) [A] :=
  sg_parts (us := [u]) (Fs := [A]) h rfl fun i x F hx hF => by
    match i with
    | 0 => simp at hx hF; subst hx hF; exact hu
    | i + 1 => simp at hx
theorem sg_three {W : World} {g : Nat} {u v z : Value} {A B C : Fo} {T : TypeId} (h : Blk W g #[u, v, z] T) (hu : IsE W u (A.flat 0)) (hv : IsE W v (B.flat 0)) (hz : IsE W z (C.flat 0)) : Sg 1 IsF W (.slice (some ⟨g, 0, none⟩) 3 3) [A, B, C] :=
  sg_parts (us := [u, v, z]) (Fs := [A, B, C]) h rfl fun i x F hx hF => by
    match i with
    | 0 => simp at hx hF; subst hx hF; exact hu
    | 1 => simp at hx hF; subst hx hF; exact hv
    | 2 => simp at hx hF; subst hx hF; exact hz
    | i + 3 => simp at hx
theorem join_two (op n : Int) (A B : Fo) (h : op ≠ 27) : joinF op n noS [A, B] = node op n noS (A.app B) := by
  unfold joinF node; rw [if_neg h]; simp [cat, Fo.app_no]
theorem join_one (op n : Int) (A : Fo) (h : op ≠ 27) : joinF op n noS [A] = node op n noS A := by
  unfold joinF node; rw [if_neg h]; simp [cat, Fo.app_no]
theorem join_three (op n : Int) (A B C : Fo) (h : op ≠ 27) : joinF op n noS [A, B, C] = node op n noS (A.app (B.app C)) := by
  unfold joinF node; rw [if_neg h]; simp [cat, Fo.app_no]
theorem join_nil (op n : Int) (s : ByteArray) (h : op ≠ 27) : joinF op n s [] = node op n s .no := by
  unfold joinF node; rw [if_neg h]; simp [cat]
def RPost (St : World → Int → Int → Int → Int → Prop) (rb : Nat) (o : Int) (w : World) (r : Res) (e : Ending) (w' : World) : Prop :=
  Al rb w w' ∧ match r with
  | .error (c, p) => ∃ (a : Option Addr) (n k i : Nat), e = .returned (.slice a n k) ∧ c ≠ 0 ∧ i ≤ 200000 ∧ St w' (i : Nat) o c p
  | .ok (l, i) => ∃ F v, l = [F] ∧ e = .returned v ∧ OwnE w.heap.size w' v (F.flat 0) ∧ St w' (i : Nat) o 0 0
theorem rpost_err {St : World → Int → Int → Int → Int → Prop} {rb : Nat} {o : Int} {w w' : World} {c p : Int} {a : Option Addr} {n k i : Nat} (h : Al rb w w') (hc : c ≠ 0) (hi : i ≤ 200000) (hs : St w' (i : Nat) o c p) : RPost St rb o w (.error (c, p)) (.returned (.slice a n k)) w' := ⟨h, a, n, k, i, rfl, hc, hi, hs⟩
theorem rpost_ok {St : World → Int → Int → Int → Int → Prop} {rb : Nat} {o : Int} {w w' : World} {i : Nat} {F : Fo} {v : Value} (h : Al rb w w') (hv : OwnE w.heap.size w' v (F.flat 0)) (hs : St w' (i : Nat) o 0 0) : RPost St rb o w (.ok ([F], i)) (.returned v) w' := ⟨h, F, v, rfl, rfl, hv, hs⟩
end Go.Proofs.YtjnpkdpljmkpiaaGreatDoor
namespace Go.Proofs.YtjnpkdpljmkpiaaGreatDoor
open Go.RowKit Go.Shelf Tx Px
def Rd (rb : Nat) (tv : Value) (w : World) (I o c p : Int) : Prop := Blk w rb #[tv, .int .i64 I, .int .i64 o, .int .i64 c, .int .i64 p] 163
section
variable {W W' : World} {rb : Nat} {tv : Value} {I o c p : Int}
theorem Rd.cells (h : Rd rb tv W I o c p) : W.cell? ⟨rb, 0, none⟩ = some tv ∧ W.cell? ⟨rb, 1, none⟩ = some (.int .i64 I) ∧ W.cell? ⟨rb, 2, none⟩ = some (.int .i64 o) ∧ W.cell? ⟨rb, 3, none⟩ = some (.int .i64 c) ∧ W.cell? ⟨rb, 4, none⟩ = some (.int .i64 p) := by
  unfold Rd Blk at h
  refine ⟨?_, ?_, ?_, ?_, ?_⟩ <;> simp [World.cell?, h]
theorem Rd.free (h : Rd rb tv W I o c p) : W.frozen? ⟨rb, 0, none⟩ = false ∧ W.frozen? ⟨rb, 1, none⟩ = false ∧ W.frozen? ⟨rb, 2, none⟩ = false ∧ W.frozen? ⟨rb, 3, none⟩ = false ∧ W.frozen? ⟨rb, 4, none⟩ = false := by
  unfold Rd Blk at h
  refine ⟨?_, ?_, ?_, ?_, ?_⟩ <;> simp [World.frozen?, h]
theorem Rd.lt (h : Rd rb tv W I o c p) : rb < W.heap.size := Blk.lt h
theorem Rd.setI (h : Rd rb tv W I o c p) (y : Int) : Rd rb tv (W.setCell ⟨rb, 1, none⟩ (.int .i64 y)) y o c p := by
  have := Blk.setAt h 1 (.int .i64 y); unfold Rd; simpa using this
theorem Rd.setO (h : Rd rb tv W I o c p) (y : Int) : Rd rb tv (W.setCell ⟨rb, 2, none⟩ (.int .i64 y)) I y c p := by
  have := Blk.setAt h 2 (.int .i64 y); unfold Rd; simpa using this
theorem Rd.setC (h : Rd rb tv W I o c p) (y : Int) : Rd rb tv (W.setCell ⟨rb, 3, none⟩ (.int .i64 y)) I o y p := by
  have := Blk.setAt h 3 (.int .i64 y); unfold Rd; simpa using this
theorem Rd.setP (h : Rd rb tv W I o c p) (y : Int) : Rd rb tv (W.setCell ⟨rb, 4, none⟩ (.int .i64 y)) I o c y := by
  have := Blk.setAt h 4 (.int .i64 y); unfold Rd; simpa using this
theorem Rd.below (h : Rd rb tv W I o c p) (hb : Below W.heap.size W W') : Rd rb tv W' I o c p := Blk.below h hb
end
section
variable {L : List Tok} {a : Option Addr} {cc rb : Nat} {w0 : World}
set_option maxHeartbeats 1000000 in
theorem r4At_any (EV : Hid (EnvOk w0 rb a cc L)) (i : Nat) (hi : i ≤ 200000) (w : World) (hB : Al rb w0 w) :
    Calls Tryz.prog 105 #[.slice a L.length cc, .int .i64 i] w fun e w' => e = .returned (.int .i64 (atP L i)) ∧ w' = w := by
  have hi0 : ¬ ((i : Int) < 0) := by omega
  have hcap := EV.out.cap
  by_cases h : i < L.length
  · obtain ⟨x, hx⟩ : ∃ x, L[i]? = some x := ⟨_, List.getElem?_eq_getElem h⟩
    have e := atP_lt hx
    rw [e]
    obtain ⟨b, q, rfl, -, -, c2⟩ := EV.out.tok w hB i x hx
    have h2 : (i : Int) < (L.length : Int) := by omega
    clear hB hx e EV
    go_enter Tryz.func105, Tryz.ntmps105
    go_wp2_with fail
    go_ret
    exact ⟨rfl, rfl⟩
  · rw [atP_ge (by omega)]
    have h2 : (L.length : Int) ≤ (i : Int) := by omega
    clear hB EV
    go_enter Tryz.func105, Tryz.ntmps105
    go_wp2_with fail
    go_ret
    exact ⟨rfl, rfl⟩
set_option maxRecDepth 100000 in
set_option maxHeartbeats 1000000 in
theorem r4fail_yes (EV : Hid (EnvOk w0 rb a cc L)) (I : Nat) (hI : I ≤ 200000) (o p k : Int) (w : World) (hB : Al rb w0 w) (hR : Rd rb (.slice a L.length cc) w I o 0 p) :
    Calls Tryz.prog 158 #[.pointer (some ⟨rb, 0, none⟩), .int .i64 k] w fun e w' => e = .returned (.slice none 0 0) ∧ Rd rb (.slice a L.length cc) w' I o k (atP L I) ∧ Al rb w w' := by
  obtain ⟨c0, c1, c2, c3, c4⟩ := hR.cells
  obtain ⟨f0, f1, f2, f3, f4⟩ := hR.free
  have hlt := hR.lt
  have hat := r4At_any EV I hI w.drew hB.drew
  have HR : Hid (Rd rb (.slice a L.length cc) w.drew I o 0 p) := hR
  clear hR hB EV
  go_enter Tryz.func158, Tryz.ntmps158
  go_wp2_with fail
  go_still_tail 12, (by kernel_rfl)
  still_call hat
  repeat still_step
  try refine wpStill_nil ?_
  clear hat
  change wpList _ _ _ _ _ w.drew
  have hb2 : Al rb w w.drew := (Al.refl _ _).drew
  have f3' : w.drew.frozen? ⟨rb, 3, none⟩ = false := f3
  have f4' : w.drew.frozen? ⟨rb, 4, none⟩ = false := f4
  have c3' : w.drew.cell? ⟨rb, 3, none⟩ = some (.int .i64 0) := c3
  have c4' : w.drew.cell? ⟨rb, 4, none⟩ = some (.int .i64 p) := c4
  clear c0 c1 c2 c3 c4 f0 f1 f2 f3 f4
  generalize w.drew = W at *
  go_wp2_with fail
  go_ret
  exact ⟨rfl, ((HR.out.setC k).setP _), (hb2.set _ _).set _ _⟩
set_option maxHeartbeats 1000000 in
theorem r4fail_no (I : Nat) (o c p k : Int) (hc : c ≠ 0) (tv : Value) (w : World) (hR : Rd rb tv w I o c p) :
    Calls Tryz.prog 158 #[.pointer (some ⟨rb, 0, none⟩), .int .i64 k] w fun e w' => e = .returned (.slice none 0 0) ∧ w' = w := by
  obtain ⟨c0, c1, c2, c3, c4⟩ := hR.cells
  have e0 : (c == 0) = false := by simp [hc]
  clear hR
  go_enter Tryz.func158, Tryz.ntmps158
  go_wp2_with fail
  go_ret
  exact ⟨rfl, rfl⟩
def isB (c : Int) (L : List Tok) (I : Nat) (s : ByteArray) : Bool := decide (c = 0) && isT L I s
set_option maxRecDepth 100000 in
set_option maxHeartbeats 2000000 in
theorem r4is_any (EV : Hid (EnvOk w0 rb a cc L)) (I : Nat) (hI : I ≤ 200000) (o c p : Int) (s : ByteArray) (w : World) (hB : Al rb w0 w) (hR : Rd rb (.slice a L.length cc) w I o c p) :
    Calls Tryz.prog 134 #[.pointer (some ⟨rb, 0, none⟩), .string s] w fun e w' => e = .returned (.bool (isB c L I s)) ∧ Below w.heap.size w w' := by
  obtain ⟨c0, c1, c2, c3, c4⟩ := hR.cells
  have hcap := EV.out.cap
  have hi1 : (0 : Int) ≤ (I : Int) := by omega
  by_cases hc : c = 0
  · subst hc
    by_cases h : I < L.length
    · obtain ⟨x, hx⟩ : ∃ x, L[I]? = some x := ⟨_, List.getElem?_eq_getElem h⟩
      obtain ⟨b, q, rfl, d0, d1, d2⟩ := EV.out.tok w hB I x hx
      have h2 : (I : Int) < (L.length : Int) := by omega
      obtain ⟨se, hse⟩ : ∃ se, (x.t.toList == s.toList) = se := ⟨_, rfl⟩
      have HF : Hid (isB 0 L I s = ((((x.k : Int) == 4) || ((x.k : Int) == 3)) && se)) := by
        show _ = _
        rw [← hse, bytes_eq]
        unfold isB
        by_cases hk : x.k = 3 ∨ x.k = 4
        · rw [isT_text hx hk]
          have e : (((x.k : Int) == 4) || ((x.k : Int) == 3)) = true := by simp; omega
          rw [e]; rfl
        · rw [isT_kind hx (by omega)]
          have e : (((x.k : Int) == 4) || ((x.k : Int) == 3)) = false := by simp; omega
          rw [e]; rfl
      obtain ⟨k4, hk4⟩ : ∃ k4, ((x.k : Int) == 4) = k4 := ⟨_, rfl⟩
      obtain ⟨k3, hk3⟩ : ∃ k3, ((x.k : Int) == 3) = k3 := ⟨_, rfl⟩
      rw [hk4, hk3] at HF
      clear hB hx EV hR
      go_enter Tryz.func134, Tryz.ntmps134
      go_wp2_with fail
      go_quiet (fail)
      go_wp2_with fail
      generalize hW : w.drewN nq = W
      have c0' : W.cell? ⟨rb, 0, none⟩ = some (.slice (some ⟨b, q, none⟩) L.length cc) := by rw [← hW]; exact c0
      have c1' : W.cell? ⟨rb, 1, none⟩ = some (.int .i64 I) := by rw [← hW]; exact c1
      have d0' : W.cell? ⟨b, q + I * 3, none⟩ = some (.int .i64 x.k) := by rw [← hW]; exact d0
      have d1' : W.cell? ⟨b, q + I * 3 + 1, none⟩ = some (.string x.t) := by rw [← hW]; exact d1
      have d2' : W.cell? ⟨b, q + I * 3 + 2, none⟩ = some (.int .i64 x.p) := by rw [← hW]; exact d2
      have HB : Hid (Below w.heap.size w W) := by show Below _ _ _; rw [← hW]; exact below_drawn (Below.refl _ _) _
      clear c0 c1 c2 c3 c4 d0 d1 d2 hW
      have e1 : rb ≠ W.heap.size := (World.new_ne W ⟨rb, 0, none⟩ c0').symm
      have e2 : b ≠ W.heap.size := (World.new_ne W ⟨b, q + I * 3, none⟩ d0').symm
      have hbn : Below W.heap.size W (W.alloc (.cells #[.int .i64 0, .string ⟨#[]⟩, .int .i64 0] 140)) := (Below.refl _ _).alloc (Nat.le_refl _) _
      have l1 := World.block_lt_of_cell? W _ c0'
      have l2 := World.block_lt_of_cell? W _ d0'
      have n0 := (hbn.cell (p := ⟨rb, 0, none⟩) l1).trans c0'
      have n1 := (hbn.cell (p := ⟨rb, 1, none⟩) l1).trans c1'
      have n2 := (hbn.cell (p := ⟨b, q + I * 3, none⟩) l2).trans d0'
      have n3 := (hbn.cell (p := ⟨b, q + I * 3 + 1, none⟩) l2).trans d1'
      have n4 := (hbn.cell (p := ⟨b, q + I * 3 + 2, none⟩) l2).trans d2'
      clear hbn
      go_region
      all_goals
        go_wp2_with fail
        all_goals
          go_ret
          exact ⟨ret_bool (by rw [HF.out]; simp_all), (HB.out.alloc HB.out.size _).drew⟩
    · have HF : Hid (isB 0 L I s = false) := by
        show _ = _
        unfold isB; rw [isT_ge (by omega)]; rfl
      have h2 : (L.length : Int) ≤ (I : Int) := by omega
      clear hB EV hR h
      go_enter Tryz.func134, Tryz.ntmps134
      go_wp2_with fail
      go_quiet (fail)
      go_wp2_with fail
      go_ret
      exact ⟨ret_bool HF.out.symm, below_drawn (Below.refl _ _) _⟩
  · have HF : Hid (isB c L I s = false) := by
      show _ = _
      unfold isB; rw [decide_eq_false hc]; rfl
    have e0 : (c == 0) = false := by simp [hc]
    have e1 : (c != 0) = true := by simp [hc]
    clear hB EV hR hc
    go_enter Tryz.func134, Tryz.ntmps134
    go_wp2_with fail
    go_quiet (fail)
    go_wp2_with fail
    go_ret
    exact ⟨ret_bool HF.out.symm, below_drawn (Below.refl _ _) _⟩
end
end Go.Proofs.YtjnpkdpljmkpiaaGreatDoor
namespace Go.Proofs.YtjnpkdpljmkpiaaGreatDoor
open Go.RowKit Go.Shelf Tx Px
theorem bin_cases {L : List Tok} {f n I o : Nat} {r : Res} (hn : n < 8) (h : P L f (.bin n) I o = some r) :
    ∃ g, f = g + 1 ∧ ((∃ e, P L g (.bin (n + 1)) I o = some (.error e) ∧ r = .error e) ∨ ∃ a i, P L g (.bin (n + 1)) I o = some (.ok ([a], i)) ∧ P L g (.loop n a) i o = some r) := by
  cases f with
  | zero => cases h
  | succ g =>
    refine ⟨g, rfl, ?_⟩
    simp only [P, stepP, if_pos hn] at h
    rcases thenE_some h with ⟨e, h1, h2⟩ | ⟨a, i, h1, h2⟩
    · exact Or.inl ⟨e, h1, h2⟩
    · exact Or.inr ⟨a, i, h1, h2⟩
theorem top_cases {L : List Tok} {f I o : Nat} {r : Res} (h : P L f (.bin 8) I o = some r) : ∃ g, f = g + 1 ∧ operandS (P L g) L I o = some r := by
  cases f with
  | zero => cases h
  | succ g => exact ⟨g, rfl, by simpa [P, stepP] using h⟩
def both (op : Int) (sw : Bool) (a b : Fo) : Fo := node op 0 noS (if sw then b.app a else a.app b)
theorem loop_cases {L : List Tok} {f n i o : Nat} {a : Fo} {r : Res} (h : P L f (.loop n a) i o = some r) :
    ((hereT L i).bind (Px.opAt n) = none ∧ r = .ok ([a], i)) ∨ ∃ g s op sw, f = g + 1 ∧ hereT L i = some s ∧ Px.opAt n s = some (op, sw) ∧
      ((∃ e, P L g (.bin (if n ≤ 1 then n else n + 1)) (i + 1) o = some (.error e) ∧ r = .error e) ∨ ∃ b j, P L g (.bin (if n ≤ 1 then n else n + 1)) (i + 1) o = some (.ok ([b], j)) ∧
        (((n ≤ 1 ∨ n = 5) ∧ r = .ok ([both op sw a b], j)) ∨ (¬ (n ≤ 1 ∨ n = 5) ∧ P L g (.loop n (both op sw a b)) j o = some r))) := by
  cases f with
  | zero => cases h
  | succ g =>
    simp only [P, stepP] at h
    cases hq : (hereT L i).bind (Px.opAt n) with
    | none => rw [hq] at h; exact Or.inl ⟨rfl, (Option.some.inj h).symm⟩
    | some x =>
      obtain ⟨op, sw⟩ := x
      rw [hq] at h
      right
      obtain ⟨s, hs, hs2⟩ := Option.bind_eq_some_iff.1 hq
      refine ⟨g, s, op, sw, rfl, hs, hs2, ?_⟩
      rcases thenE_some h with ⟨e, h1, h2⟩ | ⟨b, j, h1, h2⟩
      · exact Or.inl ⟨e, h1, h2⟩
      · refine Or.inr ⟨b, j, h1, ?_⟩
        split at h2
        · rename_i h3; exact Or.inl ⟨h3, (Option.some.inj h2).symm⟩
        · rename_i h3; exact Or.inr ⟨h3, h2⟩
theorem isT_some {L : List Tok} {i : Nat} {s t : ByteArray} (h : hereT L i = some s) : isT L i t = decide (s = t) := by unfold isT; rw [h]; simp
theorem isT_none {L : List Tok} {i n : Nat} {t : ByteArray} (h : (hereT L i).bind (Px.opAt n) = none) (ht : Px.opAt n t ≠ none) : isT L i t = false := by
  unfold isT
  simp only [decide_eq_false_iff_not]
  intro e
  rw [e] at h
  exact ht h
def cI (w : World) (a : Addr) : Int := match w.cell? a with
  | some (.int _ i) => i
  | _ => 0
theorem cI_at {w : World} {a : Addr} {k : IntKind} {i : Int} (h : w.cell? a = some (.int k i)) : cI w a = i := by unfold cI; rw [h]
theorem both_good {op : Int} {sw : Bool} {a b : Fo} (ho : 6 ≤ op ∧ op ≤ 20) (ha : Px.Good a) (hb : Px.Good b) : Px.Good (both op sw a b) := by
  unfold both
  cases sw
  · exact good_two ho ha hb
  · exact good_two ho hb ha
theorem both_size (op : Int) (sw : Bool) (a b : Fo) : (both op sw a b).size = a.size + b.size + 1 := by
  unfold both node
  cases sw <;> simp [Fo.size, Fo.size_app]; omega
def mR (rb ia ic N : Nat) (w : World) : Nat := if cI w ⟨rb, ic, none⟩ = 0 then N + 1 - (cI w ⟨rb, ia, none⟩).toNat else 0
theorem mR_ok {rb ia ic N : Nat} {w : World} {k1 k2 : IntKind} {i : Nat} (h1 : w.cell? ⟨rb, ia, none⟩ = some (.int k1 i)) (h2 : w.cell? ⟨rb, ic, none⟩ = some (.int k2 0)) : mR rb ia ic N w = N + 1 - i := by
  unfold mR; rw [cI_at h1, cI_at h2]; simp
theorem mR_err {rb ia ic N : Nat} {w : World} {k2 : IntKind} {c : Int} (h2 : w.cell? ⟨rb, ic, none⟩ = some (.int k2 c)) (hc : c ≠ 0) : mR rb ia ic N w = 0 := by
  unfold mR; rw [cI_at h2, if_neg hc]
def LpR (St : World → Int → Int → Int → Int → Prop) (L : List Tok) (rb base : Nat) (o : Nat) (w : World) (n fu : Nat) (r : Res) (av : Value) (wr : World) : Prop :=
  Al rb w wr ∧ ((∃ F i g, g < fu ∧ OwnE base wr av (F.flat 0) ∧ Px.Good F ∧ F.size + 1 ≤ 3 * i ∧ i ≤ L.length ∧ St wr (i : Nat) o 0 0 ∧ P L g (.loop n F) i o = some r) ∨
    ∃ (c p : Int) (a : Option Addr) (m k i : Nat), r = .error (c, p) ∧ c ≠ 0 ∧ i ≤ 200000 ∧ St wr (i : Nat) o c p ∧ av = .slice a m k)
end Go.Proofs.YtjnpkdpljmkpiaaGreatDoor
namespace Go.Proofs.YtjnpkdpljmkpiaaGreatDoor
open Go.RowKit Go.Shelf Tx
theorem rowE : RowTy Tryz.prog 22 30 1 24 := RowTy.mk' (z := .slice none 0 0) Tryz.underlying22 (by kernel_rfl) rfl (by omega)
theorem row_kept {w w' : World} {base e size n : Nat} {v : Value} {xs : List Value} (h : w.ownsRow base e size v n xs) (hk : ∀ g, base ≤ g → v.ownBlock = some g → g < w.heap.size → w'.heap[g]? = w.heap[g]?) : w'.ownsRow base e size v n xs := by
  refine ⟨h.1, ?_⟩
  rcases h.2 with h0 | ⟨g, cap, cur, rfl, hb, hg, rest⟩
  · exact Or.inl h0
  · exact Or.inr ⟨g, cap, cur, rfl, hb, (hk g hb rfl (Array.getElem?_eq_some_iff.1 hg).1).trans hg, rest⟩
theorem row_apart {w : World} {base base' e e' size size' n n' : Nat} {v v' : Value} {xs xs' : List Value} (h : w.ownsRow base e size v n xs) (h' : w.ownsRow base' e' size' v' n' xs') (he : e ≠ e') : v.ownBlock = none ∨ v.ownBlock ≠ v'.ownBlock := by
  rcases h.2 with ⟨rfl, _⟩ | ⟨g, cap, cur, rfl, hb, hg, rest⟩
  · exact Or.inl rfl
  · right
    rcases h'.2 with ⟨rfl, _⟩ | ⟨g', cap', cur', rfl, hb', hg', rest'⟩
    · simp [Value.ownBlock]
    · simp only [Value.ownBlock, ne_eq, Option.some.injEq]
      rintro rfl
      rw [hg] at hg'; simp at hg'; exact he hg'.2
def RwE (base : Nat) (W : World) (v : Value) (L : List (List Nd)) : Prop :=
  ∃ vs : List Value, W.ownsRow base 30 1 v L.length vs ∧ ∀ (i : Nat) (u : Value) (e : List Nd), vs[i]? = some u → L[i]? = some e → OwnE base W u e
section
variable {base : Nat} {W W' : World} {v : Value} {L : List (List Nd)}
theorem RwE.nil_ (base : Nat) (W : World) : RwE base W (.slice none 0 0) [] := ⟨[], World.ownsRow_nil _ _ _ _, fun i u e hu _ => by simp at hu⟩
theorem RwE.kept (h : RwE base W v L) (hk : ∀ g, base ≤ g → g < W.heap.size → W'.heap[g]? = W.heap[g]?) : RwE base W' v L := by
  obtain ⟨vs, h1, h2⟩ := h
  exact ⟨vs, row_kept h1 (fun g hg _ hl => hk g hg hl), fun i u e hu he => row_kept (h2 i u e hu he) (fun g hg _ hl => hk g hg hl)⟩
theorem RwE.below (h : RwE base W v L) (hb : Below W.heap.size W W') : RwE base W' v L := h.kept fun g _ hl => hb.block g hl
theorem RwE.fr {S : Nat → Prop} (h : RwE base W v L) (hf : Fr S W W') (hs : ∀ g, base ≤ g → ¬ S g) : RwE base W' v L := h.kept fun g hg hl => hf.block g hl (hs g hg)
theorem RwE.mono {b2 : Nat} (h : RwE base W v L) (hb : b2 ≤ base) : RwE b2 W v L := by
  obtain ⟨vs, h1, h2⟩ := h
  exact ⟨vs, World.ownsRow.mono h1 hb, fun i u e hu he => (h2 i u e hu he).mono hb⟩
theorem RwE.len (h : RwE base W v L) : ∃ a c, v = .slice a L.length c ∧ L.length ≤ c := by
  obtain ⟨vs, h1, _⟩ := h
  rcases h1.2 with ⟨rfl, h0⟩ | ⟨g, cap, cur, rfl, _, _, hc, _⟩
  · exact ⟨none, 0, by rw [h0], by omega⟩
  · exact ⟨_, _, rfl, hc⟩
theorem RwE.low (h : RwE base W v L) : ∀ g, v.ownBlock = some g → base ≤ g ∧ g < W.heap.size := by
  obtain ⟨vs, h1, _⟩ := h
  exact fun g hg => World.ownsRow.lt h1 g hg
theorem RwE.row (h : RwE base W v L) : ∃ vs : List Value, W.ownsRow base 30 1 v L.length vs ∧ (∀ (i : Nat) (u : Value) (e : List Nd), vs[i]? = some u → L[i]? = some e → OwnE base W u e) := h
theorem RwE.push {x : Value} {e : List Nd} {g cap k : Nat} {vs : List Value} (hk : L.length = k) (h1 : W.ownsRow base 30 1 v k vs)
    (h2 : ∀ (i : Nat) (u : Value) (e : List Nd), vs[i]? = some u → L[i]? = some e → OwnE base W u e) (hx : OwnE base W x e)
    (hown : W'.ownsRow base 30 1 (.slice (some ⟨g, 0, none⟩) (k + 1) cap) (k + 1) (vs ++ [x])) (hgrow : (W.alloc (.cells #[x] 30)).grownBy W' v.ownBlock) : RwE base W' (.slice (some ⟨g, 0, none⟩) (k + 1) cap) (L ++ [e]) := by
  have hlv : vs.length = k := by have := h1.1; omega
  refine ⟨vs ++ [x], by rw [show (L ++ [e]).length = k + 1 by simp [hk]]; exact hown, fun i u r' hu hr' => ?_⟩
  have up : ∀ {u : Value} {r' : List Nd}, OwnE base W u r' → OwnE base W' u r' := fun {u r'} h =>
    (World.ownsRow.alloc h _).kept hgrow (row_apart (World.ownsRow.alloc h (.cells #[x] 30)) (h1.alloc _) (by decide))
  by_cases hi : i < k
  · rw [List.getElem?_append_left (by omega)] at hu hr'
    exact up (h2 i u r' hu hr')
  · have hik : i = k := by
      have := (List.getElem?_eq_some_iff.1 hu).1
      simp at this; omega
    subst hik
    rw [List.getElem?_append_right (by omega)] at hu hr'
    simp [hlv] at hu; simp [hk] at hr'
    subst hu hr'
    exact up hx
theorem RwE.sg {β : Type} {P : World → List Value → β → Prop} {M : List β} {q : β → List Nd} (h : RwE base W v (M.map q)) (hP : ∀ u x, OwnE base W u (q x) → P W [u] x) : Sg 1 P W v M := by
  obtain ⟨vs, h1, h2⟩ := h
  have hl : vs.length = M.length := by have := h1.1; rw [List.length_map] at this; omega
  refine ⟨vs.map oneC, ?_, by simp [hl], fun i c x hc hx => ?_⟩
  · have h3 : Sl oneC 1 W v vs := Sl.own oneC_len (by rw [flat_one]; exact h1) (by rw [hl, List.length_map])
    rcases h3 with ⟨h4, a', c', h5⟩ | ⟨b, o, c', h4, h5, h6, h7⟩
    · exact Or.inl ⟨by rw [h4]; rfl, a', c', h5⟩
    · refine Or.inr ⟨b, o, c', by rw [List.length_map]; exact h4, by rw [List.length_map]; exact h5, h6, fun i x hi j u hu => ?_⟩
      rw [List.getElem?_map] at hi
      obtain ⟨y, hy, rfl⟩ := Option.map_eq_some_iff.1 hi
      exact h7 i y hy j u hu
  · rw [List.getElem?_map] at hc
    obtain ⟨u, hu, rfl⟩ := Option.map_eq_some_iff.1 hc
    exact hP u x (h2 i u (q x) hu (by rw [List.getElem?_map, hx]; rfl))
end
theorem Gr.fr {S : Nat → Prop} {w w1 w2 : World} {v v' : Value} (h : Fr S w w1) (hg : Gr w1 v w2 v') (hv : ∀ g, v.ownBlock = some g → w.heap.size ≤ g) : Fr S w w2 :=
  Fr.trans (S' := fun k => w.heap.size ≤ k) h ⟨hg.os, hg.tape, hg.output, hg.size, fun k hk hn => hg.block k hk (fun e => hn (hv k e))⟩ (fun i hi hs => by omega)
end Go.Proofs.YtjnpkdpljmkpiaaGreatDoor
namespace Go.Proofs.YtjnpkdpljmkpiaaGreatDoor
open Go.RowKit
theorem fieldsOf_eq {P : Program} {t : TypeId} {fs : Array Field} (h : P.underlying t = some (.struct fs)) : P.fieldsOf t = fs := by unfold Program.fieldsOf; rw [h]
theorem chkNode (b : Bool) (x : Nat × Nat × Nat) (w : World) : (Instr.checkKey b 10000 108 (tri x)).run Tryz.prog w = .ok () w := by kernel_rfl
theorem chkTriple (b : Bool) (x : Nat × Nat × Nat) (w : World) : (Instr.checkKey b 10000 172 (tri x)).run Tryz.prog w = .ok () w := by kernel_rfl
theorem stoodNode : Tryz.prog.stoodInHeld 108 = false := by kernel_rfl
theorem stoodTriple : Tryz.prog.stoodInHeld 172 = false := by kernel_rfl
theorem part0 (z u v : Value) (w : World) : (part 3 #[z, u, v] 0).run Tryz.prog w = .ok z w := by kernel_rfl
theorem part1 (z u v : Value) (w : World) : (part 3 #[z, u, v] 1).run Tryz.prog w = .ok u w := by kernel_rfl
theorem part2 (z u v : Value) (w : World) : (part 3 #[z, u, v] 2).run Tryz.prog w = .ok v w := by kernel_rfl
theorem eqNode (x y : Nat × Nat × Nat) (w : World) : (Op.equal 108 (tri x) (tri y)).run Tryz.prog w = .ok (decide (x = y)) w := by
  obtain ⟨a, b, c⟩ := x
  obtain ⟨a', b', c'⟩ := y
  have hu := Tryz.underlying108
  have hf := fieldsOf_eq Tryz.underlying108
  have hi : ∀ (d : Nat) (p q : Int), (Op.equalIn (d + 1) 3 (.int .i64 p) (.int .i64 q)).run Tryz.prog w = .ok (p == q) w := fun d p q => run_equalIn_int w d _ _ _ p q Tryz.underlying3
  unfold Op.equal Op.maxDepth tri
  rw [run_equalIn_agg w 9999 _ _ _ (by rw [hf]; exact hu) stoodNode, hf]
  simp only [Op.eqFields]
  by_cases h1 : a = a' <;> by_cases h2 : b = b' <;> by_cases h3 : c = c' <;> simp [hi, part0, part1, part2, h1, h2, h3, Result.andThen] <;> (intros; omega)
theorem eqTriple (x y : Nat × Nat × Nat) (w : World) : (Op.equal 172 (tri x) (tri y)).run Tryz.prog w = .ok (decide (x = y)) w := by
  obtain ⟨a, b, c⟩ := x
  obtain ⟨a', b', c'⟩ := y
  have hu := Tryz.underlying172
  have hf := fieldsOf_eq Tryz.underlying172
  have hi : ∀ (d : Nat) (p q : Int), (Op.equalIn (d + 1) 3 (.int .i64 p) (.int .i64 q)).run Tryz.prog w = .ok (p == q) w := fun d p q => run_equalIn_int w d _ _ _ p q Tryz.underlying3
  unfold Op.equal Op.maxDepth tri
  rw [run_equalIn_agg w 9999 _ _ _ (by rw [hf]; exact hu) stoodTriple, hf]
  simp only [Op.eqFields]
  by_cases h1 : a = a' <;> by_cases h2 : b = b' <;> by_cases h3 : c = c' <;> simp [hi, part0, part1, part2, h1, h2, h3, Result.andThen] <;> (intros; omega)
theorem keyNode : KeyLaw' Tryz.prog 108 tri := keyLaw_tri Tryz.underlying108 (_i := default) chkNode eqNode
theorem keyTriple : KeyLaw' Tryz.prog 172 tri := keyLaw_tri Tryz.underlying172 (_i := default) chkTriple eqTriple
theorem keyInt : KeyLaw' Tryz.prog 3 (fun n : Int => Value.int .i64 n) := keyLaw_int Tryz.underlying3
theorem zeroInt (w : World) : (zeroValue 3).run Tryz.prog w = .ok (.int .i64 0) w := by kernel_rfl
structure St where
  sb : Nat
  nb : Nat
  mb : Nat
  ib : Nat
  vars : Nat
  budget : Nat
  cap : Nat
  ns : List Dd.Nd
  ites : List (Dd.Nd × Nat)
def vInt (n : Nat) : Value := .int .i64 n
def flat : List Dd.Nd → List Value
  | [] => []
  | x :: r => .int .i64 x.1 :: .int .i64 x.2.1 :: .int .i64 x.2.2 :: flat r
theorem flat_append : ∀ l r : List Dd.Nd, flat (l ++ r) = flat l ++ flat r
  | [], _ => rfl
  | x :: l, r => by simp [flat, flat_append l r]
theorem flat_get : ∀ (l : List Dd.Nd) (f : Nat), f < l.length → (flat l)[3 * f]? = some (.int .i64 (l.getD f (0, 0, 0)).1) ∧ (flat l)[3 * f + 1]? = some (.int .i64 (l.getD f (0, 0, 0)).2.1) ∧ (flat l)[3 * f + 2]? = some (.int .i64 (l.getD f (0, 0, 0)).2.2)
  | [], f, h => by simp at h
  | x :: r, 0, _ => by simp [flat]
  | x :: r, f + 1, h => by
    have := flat_get r f (by simpa using h)
    have e : 3 * (f + 1) = 3 * f + 1 + 1 + 1 := by omega
    rw [e]
    simpa [flat] using this
def numbering (ns : List Dd.Nd) : List (Dd.Nd × Nat) := (ns.drop 2).zipIdx 2
def St.bl (s : St) (k : Nat) : Prop := k = s.sb ∨ k = s.nb ∨ k = s.mb ∨ k = s.ib
structure StoreAt (w : World) (s : St) : Prop where
  cells : w.heap[s.sb]? = some (.cells #[.int .i64 s.vars, .int .i64 s.budget, .slice (some ⟨s.nb, 0, none⟩) s.ns.length s.cap, .map (some s.mb), .map (some s.ib)] 113 (0, 0))
  own : w.ownsRow 0 108 3 (.slice (some ⟨s.nb, 0, none⟩) s.ns.length s.cap) s.ns.length (flat s.ns)
  numbers : MapIs tri vInt w s.mb (numbering s.ns)
  ites : MapIs tri vInt w s.ib s.ites
  apart : s.sb ≠ s.nb ∧ s.sb ≠ s.mb ∧ s.sb ≠ s.ib ∧ s.nb ≠ s.mb ∧ s.nb ≠ s.ib ∧ s.mb ≠ s.ib
  wf : Dd.WF s.vars s.ns
  small : s.vars ≤ 30
  room : s.ns.length ≤ s.budget
  most : s.budget ≤ 10000
  memo : ∀ x n, (x, n) ∈ s.ites → x.1 < s.ns.length ∧ x.2.1 < s.ns.length ∧ x.2.2 < s.ns.length ∧ n < s.ns.length ∧ min (Dd.T s.ns x.1) (min (Dd.T s.ns x.2.1) (Dd.T s.ns x.2.2)) ≤ Dd.T s.ns n ∧
    ∀ env, Dd.den s.ns env n = if Dd.den s.ns env x.1 then Dd.den s.ns env x.2.1 else Dd.den s.ns env x.2.2
section
variable {w : World} {s : St} (h : StoreAt w s)
include h
theorem StoreAt.c0 : w.cell? ⟨s.sb, 0, none⟩ = some (.int .i64 s.vars) := by simp [World.cell?, h.cells]
theorem StoreAt.c1 : w.cell? ⟨s.sb, 1, none⟩ = some (.int .i64 s.budget) := by simp [World.cell?, h.cells]
theorem StoreAt.c2 : w.cell? ⟨s.sb, 2, none⟩ = some (.slice (some ⟨s.nb, 0, none⟩) s.ns.length s.cap) := by simp [World.cell?, h.cells]
theorem StoreAt.c3 : w.cell? ⟨s.sb, 3, none⟩ = some (.map (some s.mb)) := by simp [World.cell?, h.cells]
theorem StoreAt.c4 : w.cell? ⟨s.sb, 4, none⟩ = some (.map (some s.ib)) := by simp [World.cell?, h.cells]
theorem StoreAt.f2 : w.frozen? ⟨s.sb, 2, none⟩ = false := by simp [World.frozen?, h.cells]
theorem StoreAt.n0 {f : Nat} (hf : f < s.ns.length) : w.cell? ⟨s.nb, f * 3, none⟩ = some (.int .i64 (Dd.T s.ns f)) := by
  rw [World.ownsRow.cellAt h.own _ (by omega), Nat.mul_comm]; exact (flat_get _ _ hf).1
theorem StoreAt.n1 {f : Nat} (hf : f < s.ns.length) : w.cell? ⟨s.nb, f * 3 + 1, none⟩ = some (.int .i64 (Dd.L s.ns f)) := by
  rw [World.ownsRow.cellAt h.own _ (by omega), Nat.mul_comm]; exact (flat_get _ _ hf).2.1
theorem StoreAt.n2 {f : Nat} (hf : f < s.ns.length) : w.cell? ⟨s.nb, f * 3 + 2, none⟩ = some (.int .i64 (Dd.H s.ns f)) := by
  rw [World.ownsRow.cellAt h.own _ (by omega), Nat.mul_comm]; exact (flat_get _ _ hf).2.2
theorem StoreAt.lt {k : Nat} (hk : s.bl k) : k < w.heap.size := by
  rcases hk with rfl | rfl | rfl | rfl
  · exact (Array.getElem?_eq_some_iff.1 h.cells).1
  · exact (h.own.lt _ rfl).2
  · exact h.numbers.lt
  · exact h.ites.lt
theorem StoreAt.len : s.ns.length ≤ 10000 := Nat.le_trans h.room h.most
theorem StoreAt.kept {w' : World} (hk : ∀ k, s.bl k → w'.heap[k]? = w.heap[k]?) : StoreAt w' s := by
  refine ⟨(hk _ (Or.inl rfl)).trans h.cells, ?_, h.numbers.of_block (hk _ (Or.inr (Or.inr (Or.inl rfl)))), h.ites.of_block (hk _ (Or.inr (Or.inr (Or.inr rfl)))), h.apart, h.wf, h.small, h.room, h.most, h.memo⟩
  obtain ⟨h1, h2⟩ := h.own
  refine ⟨h1, ?_⟩
  rcases h2 with h2 | ⟨g, cap, cur, hv, hg, hh, r⟩
  · exact Or.inl h2
  · refine Or.inr ⟨g, cap, cur, hv, hg, ?_, r⟩
    have e : g = s.nb := by simp at hv; exact hv.1.symm
    rw [e] at hh ⊢
    rw [hk _ (Or.inr (Or.inl rfl))]; exact hh
theorem StoreAt.below {w' : World} (hb : Below w.heap.size w w') : StoreAt w' s := h.kept fun k hk => hb.block k (h.lt hk)
theorem StoreAt.fr {S : Nat → Prop} {w' : World} (hb : Fr S w w') (hn : ∀ k, s.bl k → ¬ S k) : StoreAt w' s := h.kept fun k hk => hb.block k (h.lt hk) (hn k hk)
end
theorem look_zipIdx (x : Dd.Nd) : ∀ (l : List Dd.Nd) (k f : Nat), look x (l.zipIdx k) = some f → k ≤ f ∧ l[f - k]? = some x
  | [], k, f, h => by simp [look] at h
  | y :: r, k, f, h => by
    rw [List.zipIdx_cons, look] at h
    split at h
    · rename_i e; simp at h e; subst e; subst h; simp
    · have := look_zipIdx x r (k + 1) f h
      refine ⟨by omega, ?_⟩
      have e : f - k = (f - (k + 1)) + 1 := by omega
      rw [e]; simpa using this.2
theorem look_zipIdx_none (x : Dd.Nd) : ∀ (l : List Dd.Nd) (k : Nat), look x (l.zipIdx k) = none → x ∉ l
  | [], k, h => by simp
  | y :: r, k, h => by
    rw [List.zipIdx_cons, look] at h
    split at h
    · cases h
    · rename_i e
      have := look_zipIdx_none x r (k + 1) h
      simp at e
      simp; exact ⟨fun q => e q.symm, this⟩
theorem numbering_some {ns : List Dd.Nd} {x : Dd.Nd} {f : Nat} (h : look x (numbering ns) = some f) : 2 ≤ f ∧ f < ns.length ∧ ns.getD f (0, 0, 0) = x := by
  obtain ⟨h1, h2⟩ := look_zipIdx x _ _ _ h
  rw [List.getElem?_drop] at h2
  have e : 2 + (f - 2) = f := by omega
  rw [e] at h2
  exact ⟨h1, (List.getElem?_eq_some_iff.1 h2).1, by simp [List.getD, h2]⟩
theorem numbering_none {ns : List Dd.Nd} {x : Dd.Nd} (h : look x (numbering ns) = none) : ∀ f, 2 ≤ f → f < ns.length → ns.getD f (0, 0, 0) ≠ x := by
  intro f h2 hf e
  have := look_zipIdx_none x _ _ h
  apply this
  rw [List.mem_iff_getElem?]
  refine ⟨f - 2, ?_⟩
  rw [List.getElem?_drop]
  have e2 : 2 + (f - 2) = f := by omega
  rw [e2, List.getElem?_eq_getElem hf]
  simp [List.getD, hf] at e
  rw [e]
theorem numbering_push {ns : List Dd.Nd} (h : 2 ≤ ns.length) (x : Dd.Nd) (hn : look x (numbering ns) = none) : putAt x ns.length (numbering ns) = numbering (ns ++ [x]) := by
  have hno : x ∉ (numbering ns).map (·.1) := by
    intro hm
    rw [List.mem_map] at hm
    obtain ⟨p, hp, rfl⟩ := hm
    have := look_zipIdx_none p.1 _ _ hn
    exact this ((List.mem_zipIdx hp).2.2 ▸ List.getElem_mem _)
  rw [putAt_none _ _ _ hno]
  unfold numbering
  rw [List.drop_append_of_le_length h, List.zipIdx_append]
  simp; omega
structure More (w : World) (s s' : St) : Prop where
  sb : s'.sb = s.sb
  mb : s'.mb = s.mb
  ib : s'.ib = s.ib
  nb : s'.nb = s.nb ∨ w.heap.size ≤ s'.nb
  vars : s'.vars = s.vars
  budget : s'.budget = s.budget
  ns : ∃ xs, s'.ns = s.ns ++ xs
theorem More.refl (w : World) (s : St) : More w s s := ⟨rfl, rfl, rfl, Or.inl rfl, rfl, rfl, [], by simp⟩
theorem More.trans {w w' : World} {s s' s'' : St} (h : More w s s') (k : More w' s' s'') (hw : w.heap.size ≤ w'.heap.size) : More w s s'' := by
  refine ⟨k.sb.trans h.sb, k.mb.trans h.mb, k.ib.trans h.ib, ?_, k.vars.trans h.vars, k.budget.trans h.budget, ?_⟩
  · rcases k.nb with e | e
    · rw [e]; exact h.nb
    · exact Or.inr (by omega)
  · obtain ⟨xs, hx⟩ := h.ns
    obtain ⟨ys, hy⟩ := k.ns
    exact ⟨xs ++ ys, by rw [hy, hx, List.append_assoc]⟩
theorem More.bl {w : World} {s s' : St} (h : More w s s') : ∀ k, k < w.heap.size → s'.bl k → s.bl k := by
  intro k hk hb
  rcases hb with rfl | rfl | rfl | rfl
  · rw [h.sb]; exact Or.inl rfl
  · rcases h.nb with e | e
    · rw [e]; exact Or.inr (Or.inl rfl)
    · omega
  · rw [h.mb]; exact Or.inr (Or.inr (Or.inl rfl))
  · rw [h.ib]; exact Or.inr (Or.inr (Or.inr rfl))
theorem More.len {w : World} {s s' : St} (h : More w s s') : s.ns.length ≤ s'.ns.length := by
  obtain ⟨xs, hx⟩ := h.ns; rw [hx]; simp
theorem More.T {w : World} {s s' : St} (h : More w s s') {f : Nat} (hf : f < s.ns.length) : Dd.T s'.ns f = Dd.T s.ns f := by
  obtain ⟨xs, hx⟩ := h.ns; rw [hx]; exact Dd.T_app hf
theorem More.half {w : World} {s s' : St} (h : More w s s') {f t : Nat} {b : Bool} (hf : f < s.ns.length) : Dd.half s'.ns f t b = Dd.half s.ns f t b := by
  obtain ⟨xs, hx⟩ := h.ns; rw [hx]; exact Dd.half_app hf
theorem More.den {w w1 w2 : World} {s s' : St} (h : More w s s') (h1 : StoreAt w1 s) (h2 : StoreAt w2 s') (env : Nat → Bool) {f : Nat} (hf : f < s.ns.length) : Dd.den s'.ns env f = Dd.den s.ns env f := by
  obtain ⟨xs, hx⟩ := h.ns
  have := h2.wf
  rw [hx, h.vars] at this
  rw [hx]; exact Dd.den_app h1.wf this env f hf
end Go.Proofs.YtjnpkdpljmkpiaaGreatDoor
namespace Go.Proofs.YtjnpkdpljmkpiaaGreatDoor
open Go.RowKit
set_option maxRecDepth 20000
set_option maxHeartbeats 400000 in
theorem half_any (w : World) (s : St) (h : StoreAt w s) (f t : Nat) (b : Bool) (hf : f < s.ns.length) :
    Calls Tryz.prog 65 #[.pointer (some ⟨s.sb, 0, none⟩), .int .i64 f, .int .i64 t, .bool b] w fun e w' => e = .returned (.int .i64 (Dd.half s.ns f t b)) ∧ Below w.heap.size w w' := by
  have hlen := h.len
  have c2 := h.c2
  have n0 := h.n0 hf
  have n1 := h.n1 hf
  have n2 := h.n2 hf
  by_cases e : Dd.T s.ns f = t
  · cases b
    · go_enter Tryz.func65, Tryz.ntmps65
      go_wp2
      go_ret
      exact ⟨by simp [Dd.half, e], (Below.refl _ _).alloc (Nat.le_refl _) _⟩
    · go_enter Tryz.func65, Tryz.ntmps65
      go_wp2
      go_ret
      exact ⟨by simp [Dd.half, e], (Below.refl _ _).alloc (Nat.le_refl _) _⟩
  · have e' : ((Dd.T s.ns f : Int) == (t : Int)) = false := by simp; omega
    go_enter Tryz.func65, Tryz.ntmps65
    go_wp2
    go_ret
    exact ⟨by simp [Dd.half, e], (Below.refl _ _).alloc (Nat.le_refl _) _⟩
def SlInts (w : World) (v : Value) (l : List Int) : Prop :=
  (v = .slice none 0 0 ∧ l = []) ∨ ∃ b o c, v = .slice (some ⟨b, o, none⟩) l.length c ∧ l.length ≤ 1000 ∧ ∀ i, i < l.length → w.cell? ⟨b, o + i, none⟩ = some (.int .i64 (l.getD i 0))
def okIn (n : Nat) (l : List Int) : Bool := l.all fun f => decide (0 ≤ f ∧ f < n)
theorem okIn_take (n : Nat) (l : List Int) (k : Nat) (hk : k < l.length) (h : okIn n (l.take k) = true) : okIn n (l.take (k + 1)) = decide (0 ≤ l.getD k 0 ∧ l.getD k 0 < n) := by
  unfold okIn at *
  rw [List.take_succ_eq_append_getElem hk, List.all_append, h]
  simp [List.getD, hk]
theorem okIn_no (n : Nat) (l : List Int) (k : Nat) (h : okIn n (l.take k) = false) : okIn n l = false := by
  unfold okIn at *
  rw [List.all_eq_false] at *
  obtain ⟨x, hx, hn⟩ := h
  exact ⟨x, List.mem_of_mem_take hx, hn⟩
set_option maxHeartbeats 400000 in
theorem are_any (w : World) (s : St) (h : StoreAt w s) (v : Value) (l : List Int) (hl : SlInts w v l) :
    Calls Tryz.prog 64 #[.pointer (some ⟨s.sb, 0, none⟩), v] w fun e w' => e = .returned (.bool (okIn s.ns.length l)) ∧ w' = w := by
  have hlen := h.len
  have c2 := h.c2
  rcases hl with ⟨rfl, rfl⟩ | ⟨b, o, c, rfl, hm, hc⟩
  · go_enter Tryz.func64, Tryz.ntmps64
    go_wp2
    go_loop [6, 9] (fun _ i => i = .int .i64 0) (fun _ i => 0)
    case atStart => rfl
    case round =>
      subst hrel
      go_wp2
      go_ret
      exact ⟨rfl, rfl⟩
  · go_enter Tryz.func64, Tryz.ntmps64
    go_wp2
    go_loop [6, 9] (fun _ i => ∃ k : Nat, k ≤ l.length ∧ i = .int .i64 k ∧ okIn s.ns.length (l.take k) = true) (fun _ i => l.length - (intOf i).toNat)
    case atStart => exact ⟨0, Nat.zero_le _, rfl, rfl⟩
    case round =>
      obtain ⟨k, hk, rfl, hok⟩ := hrel
      by_cases hlt : k < l.length
      · have hck := hc k hlt
        have hnx := okIn_take _ l k hlt hok
        have HN := okIn_no s.ns.length l (k + 1)
        obtain ⟨x, hx⟩ : ∃ x, x = l.getD k 0 := ⟨_, rfl⟩
        rw [← hx] at hck hnx
        have HX : Hid (okIn s.ns.length (l.take (k + 1)) = decide (0 ≤ x ∧ x < s.ns.length)) := hnx
        have HNN : Hid (okIn s.ns.length (l.take (k + 1)) = false → okIn s.ns.length l = false) := HN
        clear hx hnx HN hc hok
        by_cases h0 : x < 0
        · go_wp2
          go_ret
          exact ⟨by rw [HNN.out (by rw [HX.out]; simp; omega)]; rfl, rfl⟩
        · by_cases h1 : x < s.ns.length
          · go_wp2
            go_round
            case rel => exact ⟨k + 1, by omega, by go_num, by rw [HX.out]; simp; omega⟩
            case measure => simp [intOf]; omega
          · go_wp2
            go_ret
            exact ⟨by rw [HNN.out (by rw [HX.out]; simp; omega)]; rfl, rfl⟩
      · have : k = l.length := by omega
        subst this
        rw [List.take_length] at hok
        have HX : Hid (okIn s.ns.length l = true) := hok
        clear hok
        go_wp2
        go_ret
        exact ⟨by rw [HX.out]; rfl, rfl⟩
end Go.Proofs.YtjnpkdpljmkpiaaGreatDoor
namespace Go.Proofs.YtjnpkdpljmkpiaaGreatDoor
namespace Dd
def rowEnv (vars k : Nat) : Nat → Bool := fun i => k.testBit (vars - 1 - i)
def rowList (vars k : Nat) : List Bool := (List.range vars).map (rowEnv vars k)
theorem den_from {vars : Nat} {ns : List Nd} (W : WF vars ns) {env env' : Nat → Bool} : ∀ f, f < ns.length → (∀ i, T ns f ≤ i → i < vars → env i = env' i) → den ns env f = den ns env' f := by
  intro f
  induction f using Nat.strongRecOn with
  | _ f ih =>
    intro hf h
    by_cases h2 : 2 ≤ f
    · obtain ⟨_, hl, hh, ht, htl, hth⟩ := W.nd f h2 hf
      rw [den_step W _ h2 hf, den_step W _ h2 hf, ih _ hl (by omega) (fun i hi hv => h i (by omega) hv), ih _ hh (by omega) (fun i hi hv => h i (by omega) hv), h _ (Nat.le_refl _) ht]
    · unfold den; rw [ev_low _ _ _ _ (by omega), ev_low _ _ _ _ (by omega)]
def cnt (vars : Nat) (ns : List Nd) (t f : Nat) : Nat := (List.range (2 ^ (vars - t))).countP fun j => den ns (rowEnv vars j) f
theorem row_low {vars m j : Nat} (hj : j < 2 ^ m) {i : Nat} (hi : m ≤ vars - 1 - i) : rowEnv vars j i = false :=
  Nat.testBit_lt_two_pow (Nat.lt_of_lt_of_le hj (Nat.pow_le_pow_right (by omega) hi))
theorem row_add_other {vars m j i : Nat} (hi : vars - 1 - i < m) : rowEnv vars (2 ^ m + j) i = rowEnv vars j i := by
  unfold rowEnv; exact Nat.testBit_two_pow_add_gt hi j
theorem row_add_same {vars m j i : Nat} (hj : j < 2 ^ m) (hi : vars - 1 - i = m) : rowEnv vars (2 ^ m + j) i = true := by
  unfold rowEnv; rw [hi, Nat.testBit_two_pow_add_eq, Nat.testBit_lt_two_pow hj]; rfl
theorem den_upper {vars : Nat} {ns : List Nd} (W : WF vars ns) {t f j : Nat} (hf : f < ns.length) (ht : t < T ns f) (htv : t < vars) : den ns (rowEnv vars (2 ^ (vars - 1 - t) + j)) f = den ns (rowEnv vars j) f :=
  den_from W f hf fun i hi hv => row_add_other (by omega)
theorem cnt_half {vars : Nat} {ns : List Nd} {t f : Nat} (htv : t < vars) (P Q : Nat → Bool)
    (hP : ∀ j, j < 2 ^ (vars - (t + 1)) → den ns (rowEnv vars j) f = P j) (hQ : ∀ j, j < 2 ^ (vars - (t + 1)) → den ns (rowEnv vars (2 ^ (vars - 1 - t) + j)) f = Q j) :
    cnt vars ns t f = (List.range (2 ^ (vars - (t + 1)))).countP P + (List.range (2 ^ (vars - (t + 1)))).countP Q := by
  unfold cnt
  have e : 2 ^ (vars - t) = 2 ^ (vars - (t + 1)) + 2 ^ (vars - (t + 1)) := by
    have : vars - t = (vars - (t + 1)) + 1 := by omega
    rw [this, Nat.pow_succ]; omega
  have e2 : vars - (t + 1) = vars - 1 - t := by omega
  rw [e, List.range_add, List.countP_append, List.countP_map]
  congr 1
  · refine List.countP_congr fun j hj => ?_
    rw [hP j (by simpa using hj)]
  · refine List.countP_congr fun j hj => ?_
    show (den ns (rowEnv vars (2 ^ (vars - (t + 1)) + j)) f = true) ↔ _
    rw [e2, hQ j (by simpa using hj)]
theorem cnt_skip {vars : Nat} {ns : List Nd} (W : WF vars ns) {t f : Nat} (hf : f < ns.length) (ht : t < T ns f) : cnt vars ns t f = 2 * cnt vars ns (t + 1) f := by
  have htv : t < vars := Nat.lt_of_lt_of_le ht (T_le W hf)
  rw [cnt_half htv (fun j => den ns (rowEnv vars j) f) (fun j => den ns (rowEnv vars j) f) (fun _ _ => rfl) (fun j _ => den_upper W hf ht htv)]
  unfold cnt; omega
theorem cnt_down {vars : Nat} {ns : List Nd} (W : WF vars ns) {f : Nat} (hf : f < ns.length) : ∀ d t, t + d = T ns f → cnt vars ns t f = 2 ^ d * cnt vars ns (T ns f) f := by
  intro d
  induction d with
  | zero => intro t h; simp at h; rw [h]; simp
  | succ d ih =>
    intro t h
    rw [cnt_skip W hf (by omega), ih (t + 1) (by omega), Nat.pow_succ]
    rw [← Nat.mul_assoc, Nat.mul_comm 2]
theorem cnt_node {vars : Nat} {ns : List Nd} (W : WF vars ns) {f : Nat} (h2 : 2 ≤ f) (hf : f < ns.length) :
    cnt vars ns (T ns f) f = 2 ^ (T ns (L ns f) - T ns f - 1) * cnt vars ns (T ns (L ns f)) (L ns f) + 2 ^ (T ns (H ns f) - T ns f - 1) * cnt vars ns (T ns (H ns f)) (H ns f) := by
  obtain ⟨_, hl, hh, ht, htl, hth⟩ := W.nd f h2 hf
  rw [← cnt_down W (f := L ns f) (by omega) (T ns (L ns f) - T ns f - 1) (T ns f + 1) (by omega), ← cnt_down W (f := H ns f) (by omega) (T ns (H ns f) - T ns f - 1) (T ns f + 1) (by omega)]
  rw [cnt_half ht (fun j => den ns (rowEnv vars j) (L ns f)) (fun j => den ns (rowEnv vars j) (H ns f))]
  · rfl
  · intro j hj
    rw [den_step W _ h2 hf, row_low hj (by omega)]; simp
  · intro j hj
    have e2 : vars - (T ns f + 1) = vars - 1 - T ns f := by omega
    rw [e2] at hj
    rw [den_step W _ h2 hf, row_add_same hj rfl, if_pos rfl, den_upper W (by omega) hth ht]
theorem cnt_zero (vars : Nat) (ns : List Nd) (t : Nat) : cnt vars ns t 0 = 0 := by
  unfold cnt
  rw [List.countP_eq_zero]
  intro j _; rw [den_zero]; simp
theorem cnt_one {vars : Nat} {ns : List Nd} (W : WF vars ns) : cnt vars ns (T ns 1) 1 = 1 := by
  rw [T_const W (Nat.le_refl _)]
  unfold cnt
  simp [den_one]
theorem cnt_le (vars : Nat) (ns : List Nd) (t f : Nat) : cnt vars ns t f ≤ 2 ^ (vars - t) := by
  unfold cnt
  have := List.countP_le_length (p := fun j => den ns (rowEnv vars j) f) (l := List.range (2 ^ (vars - t)))
  simpa using this
structure Wit (vars : Nat) (ns : List Nd) (f k f' : Nat) : Prop where
  lt : f' < ns.length
  pos : f' ≠ 0
  div : ∃ a, k = 2 ^ (vars - T ns f') * a
  small : k < 2 ^ vars
  none : ∀ j, j < k → den ns (rowEnv vars j) f = false
  rest : ∀ j, j < 2 ^ (vars - T ns f') → den ns (rowEnv vars (k + j)) f = den ns (rowEnv vars j) f'
theorem Wit.start {vars : Nat} {ns : List Nd} (_W : WF vars ns) {f : Nat} (hf : f < ns.length) (h0 : f ≠ 0) : Wit vars ns f 0 f :=
  ⟨hf, h0, ⟨0, by simp⟩, Nat.pow_pos (by omega), by intro j hj; omega, by intro j _; simp⟩
theorem pow_sub {vars a b : Nat} (h : a ≤ b) (hb : b ≤ vars) : 2 ^ (vars - a) = 2 ^ (vars - b) * 2 ^ (b - a) := by
  rw [← Nat.pow_add]; congr 1; omega
theorem Wit.low {vars : Nat} {ns : List Nd} (W : WF vars ns) {f k f' : Nat} (h : Wit vars ns f k f') (h2 : 2 ≤ f') (hl : L ns f' ≠ 0) : Wit vars ns f k (L ns f') := by
  obtain ⟨_, hlt, hht, ht, htl, hth⟩ := W.nd f' h2 h.lt
  have hle := T_le W (f := L ns f') (by have := h.lt; omega)
  have hp := pow_sub (Nat.le_of_lt htl) hle
  refine ⟨by have := h.lt; omega, hl, ?_, h.small, h.none, ?_⟩
  · obtain ⟨a, ha⟩ := h.div
    exact ⟨2 ^ (T ns (L ns f') - T ns f') * a, by rw [ha, hp, Nat.mul_assoc]⟩
  · intro j hj
    have hj' : j < 2 ^ (vars - T ns f') := Nat.lt_of_lt_of_le hj (Nat.pow_le_pow_right (by omega) (by omega))
    rw [h.rest j hj', den_step W _ h2 h.lt, row_low hj (by omega)]; simp
theorem Wit.bit {vars : Nat} {ns : List Nd} (W : WF vars ns) {f k f' : Nat} (h : Wit vars ns f k f') (h2 : 2 ≤ f') : (k + 2 ^ (vars - 1 - T ns f') < 2 ^ vars) ∧ ∀ i, i < vars → rowEnv vars (k + 2 ^ (vars - 1 - T ns f')) i = if i = T ns f' then true else rowEnv vars k i := by
  obtain ⟨_, hlt, hht, ht, htl, hth⟩ := W.nd f' h2 h.lt
  obtain ⟨a, ha⟩ := h.div
  have hlt2 : 2 ^ (vars - 1 - T ns f') < 2 ^ (vars - T ns f') := Nat.pow_lt_pow_right (by omega) (by omega)
  have e : k + 2 ^ (vars - 1 - T ns f') = 2 ^ (vars - T ns f') * a + 2 ^ (vars - 1 - T ns f') := by rw [ha]
  constructor
  · have hs := h.small
    rw [ha] at hs
    have hd : 2 ^ vars = 2 ^ (vars - T ns f') * 2 ^ (T ns f') := by rw [← Nat.pow_add]; congr 1; omega
    rw [hd] at hs ⊢
    have : a < 2 ^ T ns f' := Nat.lt_of_mul_lt_mul_left hs
    rw [ha]
    have h3 : 2 ^ (vars - T ns f') * (a + 1) ≤ 2 ^ (vars - T ns f') * 2 ^ T ns f' := Nat.mul_le_mul_left _ this
    rw [Nat.mul_add, Nat.mul_one] at h3
    omega
  · intro i hi
    unfold rowEnv
    rw [e, Nat.testBit_two_pow_mul_add _ hlt2, ha]
    by_cases ei : i = T ns f'
    · subst ei
      rw [if_pos (by omega), if_pos rfl, Nat.testBit_two_pow_self]
    · rw [if_neg ei]
      by_cases hlt3 : vars - 1 - i < vars - T ns f'
      · rw [if_pos hlt3, Nat.testBit_two_pow_of_ne (by omega)]
        have := Nat.testBit_two_pow_mul_add a (b := 0) (i := vars - T ns f') (Nat.pow_pos (by omega)) (vars - 1 - i)
        rw [if_pos hlt3] at this
        simpa using this.symm
      · rw [if_neg hlt3]
        have := Nat.testBit_two_pow_mul_add a (b := 0) (i := vars - T ns f') (Nat.pow_pos (by omega)) (vars - 1 - i)
        rw [if_neg hlt3] at this
        simpa using this.symm
end Dd
end Go.Proofs.YtjnpkdpljmkpiaaGreatDoor
