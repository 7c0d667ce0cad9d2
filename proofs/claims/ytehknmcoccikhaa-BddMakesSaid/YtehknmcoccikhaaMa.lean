/- The laws' call: what is made, of a store and of the document. -/
import Derived.Test.YtehknmcoccikhaaLa
namespace Go.Proofs.Ytehknmcoccikhaa
open Go.RowKit

/-- The table of a function. -/
def tab (vars : Nat) (φ : (Nat → Bool) → Bool) : List Bool := (List.range (2 ^ vars)).map fun k => φ (Dd.rowEnv vars k)
theorem tab_length (vars : Nat) (φ : (Nat → Bool) → Bool) : (tab vars φ).length = 2 ^ vars := by simp [tab]
theorem tab_get (vars : Nat) (φ : (Nat → Bool) → Bool) (k : Nat) (hk : k < 2 ^ vars) : (tab vars φ).getD k false = φ (Dd.rowEnv vars k) := by simp [tab, List.getD, hk]
theorem tab_const (vars : Nat) (b : Bool) : tab vars (fun _ => b) = List.replicate (2 ^ vars) b := by
  apply List.ext_getElem?
  intro j
  by_cases hj : j < 2 ^ vars <;> simp [tab, hj]
theorem tab_ite (vars : Nat) (φ ψ χ : (Nat → Bool) → Bool) :
    ((List.range (2 ^ vars)).map fun k => if (tab vars φ).getD k false then (tab vars ψ).getD k false else (tab vars χ).getD k false) = tab vars (fun env => if φ env then ψ env else χ env) := by
  refine List.map_congr_left fun k hk => ?_
  have hk : k < 2 ^ vars := by simpa using hk
  rw [tab_get _ _ _ hk, tab_get _ _ _ hk, tab_get _ _ _ hk]
theorem tab_restrict (vars i : Nat) (b : Bool) (φ : (Nat → Bool) → Bool) (hi : i < vars) (hφ : ∀ env env', (∀ j, j < vars → env j = env' j) → φ env = φ env') :
    ((List.range (2 ^ vars)).map fun k => (tab vars φ).getD (rowTo vars i b k) false) = tab vars (fun env => φ (Dd.upd env i b)) := by
  refine List.map_congr_left fun k hk => ?_
  have hk : k < 2 ^ vars := by simpa using hk
  obtain ⟨h1, _, h3⟩ := rowTo_lt (b := b) hi hk
  rw [tab_get _ _ _ h1]
  exact hφ _ _ h3

theorem Fun.congr {w : World} {s : St} {n : Nat} {φ : (Nat → Bool) → Bool} (hS : StoreAt w s) (h : Fun s n φ) : ∀ env env', (∀ j, j < s.vars → env j = env' j) → φ env = φ env' :=
  fun env env' he => by rw [← h.den, ← h.den]; exact Dd.den_congr hS.wf he _ h.lt

/-- What was made: a node, the document's table, and the function that they are. -/
structure Mk where
  n : Nat
  tb : Nat
  tof : Nat
  tl : Nat
  tc : Nat
  φ : (Nat → Bool) → Bool

/-- The table's slice. -/
def Mk.t (x : Mk) : Value := .slice (some ⟨x.tb, x.tof, none⟩) x.tl x.tc

def flatM : List Mk → List Value
  | [] => []
  | x :: r => .int .i64 x.n :: x.t :: flatM r
theorem flatM_length : ∀ L : List Mk, (flatM L).length = L.length * 2
  | [] => rfl
  | x :: r => by simp [flatM, flatM_length r]; omega
theorem flatM_append : ∀ L R : List Mk, flatM (L ++ R) = flatM L ++ flatM R
  | [], _ => rfl
  | x :: L, R => by simp [flatM, flatM_append L R]
theorem flatM_get : ∀ (L : List Mk) (k : Nat) (x : Mk), L[k]? = some x → (flatM L)[k * 2]? = some (.int .i64 x.n) ∧ (flatM L)[k * 2 + 1]? = some x.t
  | [], k, x, h => by simp at h
  | y :: r, 0, x, h => by simp at h; subst h; simp [flatM]
  | y :: r, k + 1, x, h => by
    have := flatM_get r k x (by simpa using h)
    have e : (k + 1) * 2 = k * 2 + 1 + 1 := by omega
    rw [e]; simpa [flatM] using this

structure MadeAt (w : World) (s : St) (base : Nat) (lv : Value) (L : List Mk) : Prop where
  own : w.ownsRow base 32 2 lv L.length (flatM L)
  ap : Apart s lv
  all : ∀ x ∈ L, Fun s x.n x.φ ∧ SlBools w x.t (tab s.vars x.φ) ∧ Apart s x.t
  ne : ∀ x ∈ L, ∀ k, lv.ownBlock = some k → x.tb ≠ k

theorem Apart.step {w : World} {s s' : St} {v : Value} (h : Apart s v) (hM : More w s s') (hlt : ∀ k, v.ownBlock = some k → k < w.heap.size) : Apart s' v := fun k hk q => h k hk (hM.bl k (hlt k hk) q)

theorem MadeAt.step {w w' : World} {s s' : St} {base : Nat} {lv : Value} {L : List Mk} (h : MadeAt w s base lv L) (h1 : StoreAt w s) (h2 : StoreAt w' s') (hM : More w s s') (hF : Fr s.bl w w') : MadeAt w' s' base lv L := by
  refine ⟨hF.ownsRow h.own h.ap, h.ap.step hM fun k hk => (h.own.lt k hk).2, fun x hx => ?_, h.ne⟩
  obtain ⟨a, b, c⟩ := h.all x hx
  have := b.step c hM hF
  rw [hM.vars]
  exact ⟨a.more h1 h2 hM, this.1, this.2⟩
theorem MadeAt.below {w w' : World} {s : St} {base : Nat} {lv : Value} {L : List Mk} (h : MadeAt w s base lv L) (h1 : StoreAt w s) (hb : Below w.heap.size w w') : MadeAt w' s base lv L :=
  h.step h1 (h1.below hb) (More.refl _ _) (Fr.of_below hb _)

/-- How the row of what was made is spelt, and its cells. -/
theorem MadeAt.form {w : World} {s : St} {base : Nat} {lv : Value} {L : List Mk} (h : MadeAt w s base lv L) (hL : 0 < L.length) : ∃ g c, lv = .slice (some ⟨g, 0, none⟩) L.length c ∧ g < w.heap.size ∧ ¬ s.bl g ∧
    ∀ k x, L[k]? = some x → w.cell? ⟨g, k * 2, none⟩ = some (.int .i64 x.n) ∧ w.cell? ⟨g, k * 2 + 1, none⟩ = some x.t := by
  obtain ⟨g, c, hv, _, hg⟩ := World.ownsRow.form h.own hL
  subst hv
  refine ⟨g, c, rfl, hg, h.ap g rfl, fun k x hx => ?_⟩
  have hk : k < L.length := (List.getElem?_eq_some_iff.1 hx).1
  obtain ⟨h1, h2⟩ := flatM_get L k x hx
  rw [h.own.cellAt _ (by omega), h.own.cellAt _ (by omega)]
  exact ⟨h1, h2⟩

/-- A call's answer. -/
def CallPost (w0 w : World) (s : St) (p : Nat) (e : Ending) (w' : World) : Prop :=
  ∃ (r er : Nat) (tv : Value) (φ : (Nat → Bool) → Bool) (s' : St), e = .returned (.tuple #[.int .i64 r, .int .i64 er, tv]) ∧ Run w0 w' s' p ∧ More w s s' ∧ Fr s.bl w w' ∧ SlBools w' tv (tab s.vars φ) ∧ Apart s' tv ∧ (∀ k, tv.ownBlock = some k → w.heap.size ≤ k) ∧
    s'.ns.length ≤ s.ns.length + 3 * 2 ^ s.vars ∧ r < s'.ns.length ∧ ((er = 0 ∧ Fun s' r φ) ∨ (er = 18 ∧ r = 0 ∧ s'.ns.length = s.budget))

theorem getD_some {L : List Mk} {k : Nat} (h : k < L.length) : ∃ x, L[k]? = some x ∧ x ∈ L := ⟨L[k], List.getElem?_eq_getElem h, List.getElem_mem h⟩

theorem Held.below {w w' : World} {s : St} {k : Nat} {o : Obj} (h : Held w s k o) (hb : Below w.heap.size w w') : Held w' s k o :=
  ⟨(hb.block k h.lt).trans h.here, h.ap⟩

theorem MadeAt.cells {w : World} {s : St} {base g c : Nat} {L : List Mk} (h : MadeAt w s base (.slice (some ⟨g, 0, none⟩) L.length c) L) {k : Nat} {x : Mk} (hx : L[k]? = some x) :
    w.cell? ⟨g, k * 2, none⟩ = some (.int .i64 x.n) ∧ w.cell? ⟨g, k * 2 + 1, none⟩ = some (.slice (some ⟨x.tb, x.tof, none⟩) x.tl x.tc) := by
  have hk : k < L.length := (List.getElem?_eq_some_iff.1 hx).1
  obtain ⟨h1, h2⟩ := flatM_get L k x hx
  rw [h.own.cellAt _ (by omega), h.own.cellAt _ (by omega)]
  exact ⟨h1, h2⟩

theorem CallPost.of {w0 w W w1 w2 : World} {s s' : St} {p r er cnt : Nat} {tv : Value} {φ ψ : (Nat → Bool) → Bool} (R : Run w0 W s p) (hBW : Below w.heap.size w W)
    (hS : StoreAt w1 s') (hM : More W s s') (hF : Fr s.bl W w1) (hr : r < s'.ns.length) (hc : s'.ns.length ≤ s.ns.length + cnt) (hcnt : cnt ≤ 3 * 2 ^ s.vars)
    (hor : (er = 0 ∧ ∀ env, Dd.den s'.ns env r = ψ env) ∨ (er = 18 ∧ r = 0 ∧ s'.ns.length = s.budget)) (hφ : ∀ env, ψ env = φ env)
    (hb2 : Below w1.heap.size w1 w2) (hT : SlBools w2 tv (tab s.vars φ)) (hnew : ∀ k, tv.ownBlock = some k → w1.heap.size ≤ k) :
    CallPost w0 w s p (.returned (.tuple #[.int .i64 r, .int .i64 er, tv])) w2 := by
  refine ⟨r, er, tv, φ, s', rfl, (R.step hS hM hF).pure hb2, (More.refl w s).trans hM hBW.size, ?_, hT, fun k hk => bl_new hS (hnew k hk), fun k hk => Nat.le_trans (Nat.le_trans hBW.size hF.size) (hnew k hk), by omega, hr, ?_⟩
  · exact ((Fr.of_below hBW s.bl).trans hF (fun _ _ q => q)).trans (Fr.of_below hb2 s.bl) (fun _ _ q => q)
  · rcases hor with ⟨h1, h2⟩ | h1
    · exact Or.inl ⟨h1, hr, fun env => (h2 env).trans (hφ env)⟩
    · exact Or.inr h1


/-- One more that was made. -/
theorem MadeAt.push {w w' : World} {s : St} {base g cap : Nat} {lv : Value} {L : List Mk} {x : Mk} (h : MadeAt w s base lv L) (hS : StoreAt w s) (hF : Fun s x.n x.φ) (hT : SlBools w x.t (tab s.vars x.φ)) (hA : Apart s x.t) (hne : ∀ k, lv.ownBlock = some k → x.tb ≠ k) (htl : x.tb < w.heap.size)
    (hlt : ∀ y ∈ L, y.tb < w.heap.size)
    (hown : w'.ownsRow base 32 2 (.slice (some ⟨g, 0, none⟩) (L.length + 1) cap) (L.length + 1) (flatM L ++ [.int .i64 x.n, x.t]))
    (hgrow : (w.alloc (.cells #[.int .i64 x.n, x.t] 32)).grownBy w' lv.ownBlock) (hat : lv.ownBlock = some g ∨ g = w.heap.size + 1) :
    MadeAt w' s base (.slice (some ⟨g, 0, none⟩) (L ++ [x]).length cap) (L ++ [x]) ∧ StoreAt w' s ∧ (∀ k, k < w.heap.size → lv.ownBlock ≠ some k → w'.heap[k]? = w.heap[k]?) := by
  have hk : ∀ k, k < w.heap.size → lv.ownBlock ≠ some k → w'.heap[k]? = w.heap[k]? := fun k hk hn => by
    rw [hgrow.block k (by show k < (w.heap.push _).size; simp; omega) (fun e => hn e.symm)]
    exact Below.heap_alloc _ _ _ hk
  have hS' : StoreAt w' s := hS.kept fun k hb => hk k (hS.lt hb) (fun e => h.ap k e hb)
  have keep : ∀ y : Mk, y.tb < w.heap.size → (∀ k, lv.ownBlock = some k → y.tb ≠ k) → SlBools w y.t (tab s.vars y.φ) → SlBools w' y.t (tab s.vars y.φ) := by
    intro y h1 h2 h3
    rcases h3 with ⟨h4, _⟩ | ⟨b, o, c, h4, h5, h6⟩
    · simp [Mk.t] at h4
    · have e : y.tb = b := by simp [Mk.t] at h4; exact h4.1.1
      have hb : w'.heap[b]? = w.heap[b]? := hk b h5 (fun q => h2 b q e)
      have hsz := hgrow.size
      refine Or.inr ⟨b, o, c, h4, ?_, fun i hi => (World.cell?_of_block (w := w) (a := ⟨b, o + i, none⟩) hb).trans (h6 i hi)⟩
      have : (w.alloc (.cells #[.int .i64 x.n, x.t] 32)).heap.size = w.heap.size + 1 := by show (w.heap.push _).size = _; simp
      omega
  refine ⟨⟨?_, ?_, ?_, ?_⟩, hS', hk⟩
  · rw [flatM_append]
    simpa [flatM] using hown
  · intro k hk2 hb
    simp [Value.ownBlock] at hk2
    subst hk2
    rcases hat with q | q
    · exact h.ap g q hb
    · have := hS.lt hb; omega
  · intro y hy
    rcases List.mem_append.1 hy with hy | hy
    · obtain ⟨a, b, c⟩ := h.all y hy
      exact ⟨a, keep y (hlt y hy) (h.ne y hy) b, c⟩
    · simp at hy; subst hy
      exact ⟨hF, keep _ htl hne hT, hA⟩
  · intro y hy k hk2
    simp [Value.ownBlock] at hk2
    subst hk2
    have hy' : y.tb < w.heap.size ∧ ∀ k, lv.ownBlock = some k → y.tb ≠ k := by
      rcases List.mem_append.1 hy with hy | hy
      · exact ⟨hlt y hy, h.ne y hy⟩
      · simp at hy; subst hy; exact ⟨htl, hne⟩
    rcases hat with q | q
    · exact hy'.2 g q
    · omega

theorem MadeAt.tlt {w : World} {s : St} {base : Nat} {lv : Value} {L : List Mk} (h : MadeAt w s base lv L) : ∀ y ∈ L, y.tb < w.heap.size := by
  intro y hy
  obtain ⟨_, h3, _⟩ := h.all y hy
  rcases h3 with ⟨h4, _⟩ | ⟨b, o, c, h4, h5, h6⟩
  · simp [Mk.t] at h4
  · simp [Mk.t] at h4; rw [h4.1.1]; exact h5

/-- A table's slice, spelt. -/
theorem mk_of {w : World} {v : Value} {vars : Nat} {φ : (Nat → Bool) → Bool} (n : Nat) (h : SlBools w v (tab vars φ)) : ∃ x : Mk, x.n = n ∧ x.t = v ∧ x.φ = φ ∧ x.tb < w.heap.size ∧ v.ownBlock = some x.tb := by
  obtain ⟨b, o, c, rfl, hb, _⟩ := h.some (by rw [tab_length]; exact Nat.pow_pos (by omega))
  exact ⟨⟨n, b, o, _, c, φ⟩, rfl, rfl, rfl, hb, rfl⟩

end Go.Proofs.Ytehknmcoccikhaa
