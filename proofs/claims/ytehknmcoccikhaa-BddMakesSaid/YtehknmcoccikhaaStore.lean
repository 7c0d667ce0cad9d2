/- The store of diagrams in memory. -/
import Derived.Test.YtehknmcoccikhaaProg
import Derived.Test.YtehknmcoccikhaaBase
namespace Go.Proofs.Ytehknmcoccikhaa
open Go.RowKit

theorem fieldsOf_eq {P : Program} {t : TypeId} {fs : Array Field} (h : P.underlying t = some (.struct fs)) : P.fieldsOf t = fs := by unfold Program.fieldsOf; rw [h]

theorem chkNode (b : Bool) (x : Nat × Nat × Nat) (w : World) : (Instr.checkKey b 10000 59 (tri x)).run Try.prog w = .ok () w := by kernel_rfl
theorem chkTriple (b : Bool) (x : Nat × Nat × Nat) (w : World) : (Instr.checkKey b 10000 81 (tri x)).run Try.prog w = .ok () w := by kernel_rfl
theorem stoodNode : Try.prog.stoodInHeld 59 = false := by kernel_rfl
theorem stoodTriple : Try.prog.stoodInHeld 81 = false := by kernel_rfl

theorem part0 (z u v : Value) (w : World) : (part 3 #[z, u, v] 0).run Try.prog w = .ok z w := by kernel_rfl
theorem part1 (z u v : Value) (w : World) : (part 3 #[z, u, v] 1).run Try.prog w = .ok u w := by kernel_rfl
theorem part2 (z u v : Value) (w : World) : (part 3 #[z, u, v] 2).run Try.prog w = .ok v w := by kernel_rfl

theorem eqNode (x y : Nat × Nat × Nat) (w : World) : (Op.equal 59 (tri x) (tri y)).run Try.prog w = .ok (decide (x = y)) w := by
  obtain ⟨a, b, c⟩ := x
  obtain ⟨a', b', c'⟩ := y
  have hu := Try.underlying59
  have hf := fieldsOf_eq Try.underlying59
  have hi : ∀ (d : Nat) (p q : Int), (Op.equalIn (d + 1) 3 (.int .i64 p) (.int .i64 q)).run Try.prog w = .ok (p == q) w := fun d p q => run_equalIn_int w d _ _ _ p q Try.underlying3
  unfold Op.equal Op.maxDepth tri
  rw [run_equalIn_agg w 9999 _ _ _ (by rw [hf]; exact hu) stoodNode, hf]
  simp only [Op.eqFields]
  by_cases h1 : a = a' <;> by_cases h2 : b = b' <;> by_cases h3 : c = c' <;> simp [hi, part0, part1, part2, h1, h2, h3, Result.andThen] <;> (intros; omega)

theorem eqTriple (x y : Nat × Nat × Nat) (w : World) : (Op.equal 81 (tri x) (tri y)).run Try.prog w = .ok (decide (x = y)) w := by
  obtain ⟨a, b, c⟩ := x
  obtain ⟨a', b', c'⟩ := y
  have hu := Try.underlying81
  have hf := fieldsOf_eq Try.underlying81
  have hi : ∀ (d : Nat) (p q : Int), (Op.equalIn (d + 1) 3 (.int .i64 p) (.int .i64 q)).run Try.prog w = .ok (p == q) w := fun d p q => run_equalIn_int w d _ _ _ p q Try.underlying3
  unfold Op.equal Op.maxDepth tri
  rw [run_equalIn_agg w 9999 _ _ _ (by rw [hf]; exact hu) stoodTriple, hf]
  simp only [Op.eqFields]
  by_cases h1 : a = a' <;> by_cases h2 : b = b' <;> by_cases h3 : c = c' <;> simp [hi, part0, part1, part2, h1, h2, h3, Result.andThen] <;> (intros; omega)

theorem keyNode : KeyLaw' Try.prog 59 tri := keyLaw_tri Try.underlying59 (i := default) chkNode eqNode
theorem keyTriple : KeyLaw' Try.prog 81 tri := keyLaw_tri Try.underlying81 (i := default) chkTriple eqTriple
theorem keyInt : KeyLaw' Try.prog 3 (fun n : Int => Value.int .i64 n) := keyLaw_int Try.underlying3
theorem zeroInt (w : World) : (zeroValue 3).run Try.prog w = .ok (.int .i64 0) w := by kernel_rfl

/-- What a store holds. -/
structure St where
  sb : Nat
  nb : Nat
  mb : Nat
  ib : Nat
  vars : Nat
  budget : Nat
  cap : Nat
  ns : List Dd.Nd
  ites : List (Dd.Nd × Nat)

def vInt (n : Nat) : Value := .int .i64 n

/-- The cells of a list of nodes. -/
def flat : List Dd.Nd → List Value
  | [] => []
  | x :: r => .int .i64 x.1 :: .int .i64 x.2.1 :: .int .i64 x.2.2 :: flat r
theorem flat_length : ∀ l : List Dd.Nd, (flat l).length = l.length * 3
  | [] => rfl
  | x :: r => by simp [flat, flat_length r]; omega
theorem flat_append : ∀ l r : List Dd.Nd, flat (l ++ r) = flat l ++ flat r
  | [], _ => rfl
  | x :: l, r => by simp [flat, flat_append l r]
theorem flat_get : ∀ (l : List Dd.Nd) (f : Nat), f < l.length → (flat l)[3 * f]? = some (.int .i64 (l.getD f (0, 0, 0)).1) ∧ (flat l)[3 * f + 1]? = some (.int .i64 (l.getD f (0, 0, 0)).2.1) ∧ (flat l)[3 * f + 2]? = some (.int .i64 (l.getD f (0, 0, 0)).2.2)
  | [], f, h => by simp at h
  | x :: r, 0, _ => by simp [flat]
  | x :: r, f + 1, h => by
    have := flat_get r f (by simpa using h)
    have e : 3 * (f + 1) = 3 * f + 1 + 1 + 1 := by omega
    rw [e]
    simpa [flat] using this

/-- The numbers of the nodes behind the two constants. -/
def numbering (ns : List Dd.Nd) : List (Dd.Nd × Nat) := (ns.drop 2).zipIdx 2

/-- The blocks of a store. -/
def St.bl (s : St) (k : Nat) : Prop := k = s.sb ∨ k = s.nb ∨ k = s.mb ∨ k = s.ib

structure StoreAt (w : World) (s : St) : Prop where
  cells : w.heap[s.sb]? = some (.cells #[.int .i64 s.vars, .int .i64 s.budget, .slice (some ⟨s.nb, 0, none⟩) s.ns.length s.cap, .map (some s.mb), .map (some s.ib)] 64 (0, 0))
  own : w.ownsRow 0 59 3 (.slice (some ⟨s.nb, 0, none⟩) s.ns.length s.cap) s.ns.length (flat s.ns)
  numbers : MapIs tri vInt w s.mb (numbering s.ns)
  ites : MapIs tri vInt w s.ib s.ites
  apart : s.sb ≠ s.nb ∧ s.sb ≠ s.mb ∧ s.sb ≠ s.ib ∧ s.nb ≠ s.mb ∧ s.nb ≠ s.ib ∧ s.mb ≠ s.ib
  wf : Dd.WF s.vars s.ns
  small : s.vars ≤ 30
  room : s.ns.length ≤ s.budget
  most : s.budget ≤ 10000
  memo : ∀ x n, (x, n) ∈ s.ites → x.1 < s.ns.length ∧ x.2.1 < s.ns.length ∧ x.2.2 < s.ns.length ∧ n < s.ns.length ∧ min (Dd.T s.ns x.1) (min (Dd.T s.ns x.2.1) (Dd.T s.ns x.2.2)) ≤ Dd.T s.ns n ∧
    ∀ env, Dd.den s.ns env n = if Dd.den s.ns env x.1 then Dd.den s.ns env x.2.1 else Dd.den s.ns env x.2.2

section
variable {w : World} {s : St} (h : StoreAt w s)
include h
theorem StoreAt.c0 : w.cell? ⟨s.sb, 0, none⟩ = some (.int .i64 s.vars) := by simp [World.cell?, h.cells]
theorem StoreAt.c1 : w.cell? ⟨s.sb, 1, none⟩ = some (.int .i64 s.budget) := by simp [World.cell?, h.cells]
theorem StoreAt.c2 : w.cell? ⟨s.sb, 2, none⟩ = some (.slice (some ⟨s.nb, 0, none⟩) s.ns.length s.cap) := by simp [World.cell?, h.cells]
theorem StoreAt.c3 : w.cell? ⟨s.sb, 3, none⟩ = some (.map (some s.mb)) := by simp [World.cell?, h.cells]
theorem StoreAt.c4 : w.cell? ⟨s.sb, 4, none⟩ = some (.map (some s.ib)) := by simp [World.cell?, h.cells]
theorem StoreAt.f2 : w.frozen? ⟨s.sb, 2, none⟩ = false := by simp [World.frozen?, h.cells]
theorem StoreAt.n0 {f : Nat} (hf : f < s.ns.length) : w.cell? ⟨s.nb, f * 3, none⟩ = some (.int .i64 (Dd.T s.ns f)) := by
  rw [World.ownsRow.cellAt h.own _ (by omega), Nat.mul_comm]; exact (flat_get _ _ hf).1
theorem StoreAt.n1 {f : Nat} (hf : f < s.ns.length) : w.cell? ⟨s.nb, f * 3 + 1, none⟩ = some (.int .i64 (Dd.L s.ns f)) := by
  rw [World.ownsRow.cellAt h.own _ (by omega), Nat.mul_comm]; exact (flat_get _ _ hf).2.1
theorem StoreAt.n2 {f : Nat} (hf : f < s.ns.length) : w.cell? ⟨s.nb, f * 3 + 2, none⟩ = some (.int .i64 (Dd.H s.ns f)) := by
  rw [World.ownsRow.cellAt h.own _ (by omega), Nat.mul_comm]; exact (flat_get _ _ hf).2.2
theorem StoreAt.lt {k : Nat} (hk : s.bl k) : k < w.heap.size := by
  rcases hk with rfl | rfl | rfl | rfl
  · exact (Array.getElem?_eq_some_iff.1 h.cells).1
  · exact (h.own.lt _ rfl).2
  · exact h.numbers.lt
  · exact h.ites.lt
theorem StoreAt.len : s.ns.length ≤ 10000 := Nat.le_trans h.room h.most
/-- A world in which the store's blocks are as they were holds the same store. -/
theorem StoreAt.kept {w' : World} (hk : ∀ k, s.bl k → w'.heap[k]? = w.heap[k]?) : StoreAt w' s := by
  refine ⟨(hk _ (Or.inl rfl)).trans h.cells, ?_, h.numbers.of_block (hk _ (Or.inr (Or.inr (Or.inl rfl)))), h.ites.of_block (hk _ (Or.inr (Or.inr (Or.inr rfl)))), h.apart, h.wf, h.small, h.room, h.most, h.memo⟩
  obtain ⟨h1, h2⟩ := h.own
  refine ⟨h1, ?_⟩
  rcases h2 with h2 | ⟨g, cap, cur, hv, hg, hh, r⟩
  · exact Or.inl h2
  · refine Or.inr ⟨g, cap, cur, hv, hg, ?_, r⟩
    have e : g = s.nb := by simp at hv; exact hv.1.symm
    rw [e] at hh ⊢
    rw [hk _ (Or.inr (Or.inl rfl))]; exact hh
theorem StoreAt.below {w' : World} (hb : Below w.heap.size w w') : StoreAt w' s := h.kept fun k hk => hb.block k (h.lt hk)
theorem StoreAt.fr {S : Nat → Prop} {w' : World} (hb : Fr S w w') (hn : ∀ k, s.bl k → ¬ S k) : StoreAt w' s := h.kept fun k hk => hb.block k (h.lt hk) (hn k hk)
end

/-! ### the numbers of nodes -/
theorem look_zipIdx (x : Dd.Nd) : ∀ (l : List Dd.Nd) (k f : Nat), look x (l.zipIdx k) = some f → k ≤ f ∧ l[f - k]? = some x
  | [], k, f, h => by simp [look] at h
  | y :: r, k, f, h => by
    rw [List.zipIdx_cons, look] at h
    split at h
    · rename_i e; simp at h e; subst e; subst h; simp
    · have := look_zipIdx x r (k + 1) f h
      refine ⟨by omega, ?_⟩
      have e : f - k = (f - (k + 1)) + 1 := by omega
      rw [e]; simpa using this.2
theorem look_zipIdx_none (x : Dd.Nd) : ∀ (l : List Dd.Nd) (k : Nat), look x (l.zipIdx k) = none → x ∉ l
  | [], k, h => by simp
  | y :: r, k, h => by
    rw [List.zipIdx_cons, look] at h
    split at h
    · cases h
    · rename_i e
      have := look_zipIdx_none x r (k + 1) h
      simp at e
      simp; exact ⟨fun q => e q.symm, this⟩
theorem numbering_some {ns : List Dd.Nd} {x : Dd.Nd} {f : Nat} (h : look x (numbering ns) = some f) : 2 ≤ f ∧ f < ns.length ∧ ns.getD f (0, 0, 0) = x := by
  obtain ⟨h1, h2⟩ := look_zipIdx x _ _ _ h
  rw [List.getElem?_drop] at h2
  have e : 2 + (f - 2) = f := by omega
  rw [e] at h2
  exact ⟨h1, (List.getElem?_eq_some_iff.1 h2).1, by simp [List.getD, h2]⟩
theorem numbering_none {ns : List Dd.Nd} {x : Dd.Nd} (h : look x (numbering ns) = none) : ∀ f, 2 ≤ f → f < ns.length → ns.getD f (0, 0, 0) ≠ x := by
  intro f h2 hf e
  have := look_zipIdx_none x _ _ h
  apply this
  rw [List.mem_iff_getElem?]
  refine ⟨f - 2, ?_⟩
  rw [List.getElem?_drop]
  have e2 : 2 + (f - 2) = f := by omega
  rw [e2, List.getElem?_eq_getElem hf]
  simp [List.getD, hf] at e
  rw [e]
theorem numbering_push {ns : List Dd.Nd} (h : 2 ≤ ns.length) (x : Dd.Nd) (hn : look x (numbering ns) = none) : putAt x ns.length (numbering ns) = numbering (ns ++ [x]) := by
  have hno : x ∉ (numbering ns).map (·.1) := by
    intro hm
    rw [List.mem_map] at hm
    obtain ⟨p, hp, rfl⟩ := hm
    have := look_zipIdx_none p.1 _ _ hn
    exact this ((List.mem_zipIdx hp).2.2 ▸ List.getElem_mem _)
  rw [putAt_none _ _ _ hno]
  unfold numbering
  rw [List.drop_append_of_le_length h, List.zipIdx_append]
  simp; omega

/-- What a call leaves of a store: the same one, with more nodes. -/
structure More (w : World) (s s' : St) : Prop where
  sb : s'.sb = s.sb
  mb : s'.mb = s.mb
  ib : s'.ib = s.ib
  nb : s'.nb = s.nb ∨ w.heap.size ≤ s'.nb
  vars : s'.vars = s.vars
  budget : s'.budget = s.budget
  ns : ∃ xs, s'.ns = s.ns ++ xs

theorem More.refl (w : World) (s : St) : More w s s := ⟨rfl, rfl, rfl, Or.inl rfl, rfl, rfl, [], by simp⟩
theorem More.trans {w w' : World} {s s' s'' : St} (h : More w s s') (k : More w' s' s'') (hw : w.heap.size ≤ w'.heap.size) : More w s s'' := by
  refine ⟨k.sb.trans h.sb, k.mb.trans h.mb, k.ib.trans h.ib, ?_, k.vars.trans h.vars, k.budget.trans h.budget, ?_⟩
  · rcases k.nb with e | e
    · rw [e]; exact h.nb
    · exact Or.inr (by omega)
  · obtain ⟨xs, hx⟩ := h.ns
    obtain ⟨ys, hy⟩ := k.ns
    exact ⟨xs ++ ys, by rw [hy, hx, List.append_assoc]⟩
theorem More.bl {w : World} {s s' : St} (h : More w s s') : ∀ k, k < w.heap.size → s'.bl k → s.bl k := by
  intro k hk hb
  rcases hb with rfl | rfl | rfl | rfl
  · rw [h.sb]; exact Or.inl rfl
  · rcases h.nb with e | e
    · rw [e]; exact Or.inr (Or.inl rfl)
    · omega
  · rw [h.mb]; exact Or.inr (Or.inr (Or.inl rfl))
  · rw [h.ib]; exact Or.inr (Or.inr (Or.inr rfl))
theorem More.len {w : World} {s s' : St} (h : More w s s') : s.ns.length ≤ s'.ns.length := by
  obtain ⟨xs, hx⟩ := h.ns; rw [hx]; simp
theorem More.T {w : World} {s s' : St} (h : More w s s') {f : Nat} (hf : f < s.ns.length) : Dd.T s'.ns f = Dd.T s.ns f := by
  obtain ⟨xs, hx⟩ := h.ns; rw [hx]; exact Dd.T_app hf
theorem More.half {w : World} {s s' : St} (h : More w s s') {f t : Nat} {b : Bool} (hf : f < s.ns.length) : Dd.half s'.ns f t b = Dd.half s.ns f t b := by
  obtain ⟨xs, hx⟩ := h.ns; rw [hx]; exact Dd.half_app hf
theorem More.den {w w1 w2 : World} {s s' : St} (h : More w s s') (h1 : StoreAt w1 s) (h2 : StoreAt w2 s') (env : Nat → Bool) {f : Nat} (hf : f < s.ns.length) : Dd.den s'.ns env f = Dd.den s.ns env f := by
  obtain ⟨xs, hx⟩ := h.ns
  have := h2.wf
  rw [hx, h.vars] at this
  rw [hx]; exact Dd.den_app h1.wf this env f hf
end Go.Proofs.Ytehknmcoccikhaa
