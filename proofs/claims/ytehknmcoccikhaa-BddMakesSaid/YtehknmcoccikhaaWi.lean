/- Walks: Restrict. -/
import Derived.Test.YtehknmcoccikhaaWh
namespace Go.Proofs.Ytehknmcoccikhaa
open Go.RowKit

/-- A block that lies apart from the store. -/
structure Held (w : World) (s : St) (k : Nat) (o : Obj) : Prop where
  here : w.heap[k]? = some o
  ap : ¬ s.bl k

theorem Held.lt {w : World} {s : St} {k : Nat} {o : Obj} (h : Held w s k o) : k < w.heap.size := (Array.getElem?_eq_some_iff.1 h.here).1
theorem Held.step {w w' : World} {s s' : St} {k : Nat} {o : Obj} {S : Nat → Prop} (h : Held w s k o) (hM : More w s s') (hF : Fr S w w') (hn : ¬ S k) : Held w' s' k o :=
  ⟨(hF.block k h.lt hn).trans h.here, fun q => h.ap (hM.bl k h.lt q)⟩

/-- What Restrict's closure captured. -/
structure CloR (w : World) (s : St) (c1 c2 c3 c4 c5 db : Nat) (l : List (Int × Int)) (i : Nat) (b : Bool) : Prop where
  store : StoreAt w s
  p : Held w s c1 (.cells #[.pointer (some ⟨s.sb, 0, none⟩)] 24 (0, 0))
  d : Held w s c2 (.cells #[.map (some db)] 76 (0, 0))
  ii : Held w s c3 (.cells #[.int .i64 i] 3 (0, 0))
  bb : Held w s c4 (.cells #[.bool b] 4 (0, 0))
  fn : Held w s c5 (.cells #[.func (.func 36) #[] #[.pointer (some ⟨c1, 0, none⟩), .pointer (some ⟨c2, 0, none⟩), .pointer (some ⟨c3, 0, none⟩), .pointer (some ⟨c4, 0, none⟩), .pointer (some ⟨c5, 0, none⟩)]] 46 (0, 0))
  map : MapIs kI kI w db l
  dap : ¬ s.bl db
  iv : i < s.vars
  good : ∀ x n, look x l = some n → ∃ f r : Nat, x = f ∧ n = r ∧ f < s.ns.length ∧ r < s.ns.length ∧ Dd.T s.ns f ≤ Dd.T s.ns r ∧ ∀ env, Dd.den s.ns env r = Dd.den s.ns (Dd.upd env i b) f

theorem More.good {w w1 w2 : World} {s s' : St} (hM : More w s s') (h1 : StoreAt w1 s) (h2 : StoreAt w2 s') {l : List (Int × Int)} {i : Nat} {b : Bool}
    (h : ∀ x n, look x l = some n → ∃ f r : Nat, x = f ∧ n = r ∧ f < s.ns.length ∧ r < s.ns.length ∧ Dd.T s.ns f ≤ Dd.T s.ns r ∧ ∀ env, Dd.den s.ns env r = Dd.den s.ns (Dd.upd env i b) f) :
    ∀ x n, look x l = some n → ∃ f r : Nat, x = f ∧ n = r ∧ f < s'.ns.length ∧ r < s'.ns.length ∧ Dd.T s'.ns f ≤ Dd.T s'.ns r ∧ ∀ env, Dd.den s'.ns env r = Dd.den s'.ns (Dd.upd env i b) f := by
  intro x n hx
  obtain ⟨f, r, e1, e2, hf, hr, hT, hd⟩ := h x n hx
  have hl := hM.len
  refine ⟨f, r, e1, e2, by omega, by omega, by rw [hM.T hf, hM.T hr]; exact hT, fun env => ?_⟩
  rw [hM.den h1 h2 env hr, hM.den h1 h2 _ hf]; exact hd env

theorem CloR.step {w w' : World} {s s' : St} {c1 c2 c3 c4 c5 db : Nat} {l : List (Int × Int)} {i : Nat} {b : Bool} (h : CloR w s c1 c2 c3 c4 c5 db l i b) (hS : StoreAt w' s') (hM : More w s s') (hF : Fr s.bl w w') : CloR w' s' c1 c2 c3 c4 c5 db l i b := by
  refine ⟨hS, ?_, h.d.step hM hF h.d.ap, h.ii.step hM hF h.ii.ap, h.bb.step hM hF h.bb.ap, h.fn.step hM hF h.fn.ap, h.map.of_block (hF.block _ h.map.lt h.dap), fun q => h.dap (hM.bl _ h.map.lt q), by rw [hM.vars]; exact h.iv, hM.good h.store hS h.good⟩
  have := h.p.step hM hF h.p.ap
  rw [hM.sb]; exact this
theorem CloR.below {w w' : World} {s : St} {c1 c2 c3 c4 c5 db : Nat} {l : List (Int × Int)} {i : Nat} {b : Bool} (h : CloR w s c1 c2 c3 c4 c5 db l i b) (hb : Below w.heap.size w w') : CloR w' s c1 c2 c3 c4 c5 db l i b :=
  h.step (h.store.below hb) (More.refl _ _) (Fr.of_below hb _)

/-- What going down leaves. -/
def DownPost (w : World) (s : St) (c1 c2 c3 c4 c5 db i : Nat) (b : Bool) (f : Nat) (e : Ending) (w' : World) : Prop :=
  ∃ (r er : Nat) (s' : St), e = .returned (.tuple #[.int .i64 r, .int .i64 er]) ∧ StoreAt w' s' ∧ More w s s' ∧ Fr (fun k => s.bl k ∨ k = db) w w' ∧ r < s'.ns.length ∧ s'.ns.length + 1 ≤ s.ns.length + 2 ^ (s.vars - Dd.T s.ns f) ∧
    ((er = 0 ∧ (∃ l', CloR w' s' c1 c2 c3 c4 c5 db l' i b) ∧ Dd.T s.ns f ≤ Dd.T s'.ns r ∧ ∀ env, Dd.den s'.ns env r = Dd.den s.ns (Dd.upd env i b) f) ∨ (er = 18 ∧ r = 0 ∧ s'.ns.length = s.budget))

theorem downMap {w : World} {db : Nat} {l : List (Int × Int)} (h : MapIs kI kI w db l) (f : Nat) (o : Obj) :
    (Instr.lookup 76 (.map (some db)) (.int .i64 f) true).run Try.prog (w.alloc o) = .ok (.tuple #[((look (f : Int) l).map kI).getD (.int .i64 0), .bool (look (f : Int) l).isSome]) (w.alloc o) :=
  (h.of_block (Below.heap_alloc _ _ _ h.lt)).lookup keyInt Try.underlying76 zeroInt (f : Int)

section
variable (w : World) (s : St) (c1 c2 c3 c4 c5 db : Nat) (l : List (Int × Int)) (i : Nat) (b : Bool) (h : CloR w s c1 c2 c3 c4 c5 db l i b) (f : Nat) (hf : f < s.ns.length)
include h hf

set_option maxHeartbeats 400000 in
theorem down_above (ht : i < Dd.T s.ns f) :
    Calls Try.prog 36 #[.int .i64 f, .pointer (some ⟨c1, 0, none⟩), .pointer (some ⟨c2, 0, none⟩), .pointer (some ⟨c3, 0, none⟩), .pointer (some ⟨c4, 0, none⟩), .pointer (some ⟨c5, 0, none⟩)] w fun e w' =>
      e = .returned (.tuple #[.int .i64 f, .int .i64 0]) ∧ Below w.heap.size w w' := by
  have hlk := downMap h.map f (.cells #[.int .i64 (Dd.T s.ns f), .int .i64 (Dd.L s.ns f), .int .i64 (Dd.H s.ns f)] 59)
  have hlen := h.store.len
  have c2' := h.store.c2
  have p1 := cell_of_one h.p.here
  have d1 := cell_of_one h.d.here
  have i1 := cell_of_one h.ii.here
  have n0 := h.store.n0 hf
  have n1 := h.store.n1 hf
  have n2 := h.store.n2 hf
  have l1 := h.p.lt
  have l2 := h.d.lt
  have l3 := h.ii.lt
  go_enter Try.func36, Try.ntmps36
  go_wp2_with fail
  go_ret2
  exact ⟨rfl, (Below.refl _ _).alloc (Nat.le_refl _) _⟩

set_option maxHeartbeats 400000 in
theorem down_at (ht : Dd.T s.ns f = i) :
    Calls Try.prog 36 #[.int .i64 f, .pointer (some ⟨c1, 0, none⟩), .pointer (some ⟨c2, 0, none⟩), .pointer (some ⟨c3, 0, none⟩), .pointer (some ⟨c4, 0, none⟩), .pointer (some ⟨c5, 0, none⟩)] w fun e w' =>
      e = .returned (.tuple #[.int .i64 (Dd.half s.ns f i b), .int .i64 0]) ∧ Below w.heap.size w w' := by
  have hlk := downMap h.map f (.cells #[.int .i64 (Dd.T s.ns f), .int .i64 (Dd.L s.ns f), .int .i64 (Dd.H s.ns f)] 59)
  have hlen := h.store.len
  have c2' := h.store.c2
  have p1 := cell_of_one h.p.here
  have d1 := cell_of_one h.d.here
  have i1 := cell_of_one h.ii.here
  have b1 := cell_of_one h.bb.here
  have n0 := h.store.n0 hf
  have n1 := h.store.n1 hf
  have n2 := h.store.n2 hf
  have l1 := h.p.lt
  have l2 := h.d.lt
  have l3 := h.ii.lt
  have l4 := h.bb.lt
  have hBa : Below w.heap.size w (w.alloc (.cells #[.int .i64 (Dd.T s.ns f), .int .i64 (Dd.L s.ns f), .int .i64 (Dd.H s.ns f)] 59)) := (Below.refl _ _).alloc (Nat.le_refl _) _
  have e1 : ¬ ((i : Int) < (Dd.T s.ns f : Int)) := by omega
  have e2 : ((Dd.T s.ns f : Int) == (i : Int)) = true := by simp; omega
  have HT : Hid (Dd.T s.ns f = i) := ht
  clear ht
  go_enter Try.func36, Try.ntmps36
  go_wp2_with fail
  refine (half_any _ s (h.store.below hBa) f i b hf).mono ?_
  rintro e w2 ⟨rfl, hb2⟩
  have hB2 := hBa.trans (hb2.mono hBa.size)
  clear hb2 hBa
  go_wp2_with fail
  go_ret2
  exact ⟨rfl, hB2⟩

set_option maxHeartbeats 400000 in
theorem down_hit (ht : Dd.T s.ns f < i) (n : Int) (hq : look (f : Int) l = some n) :
    Calls Try.prog 36 #[.int .i64 f, .pointer (some ⟨c1, 0, none⟩), .pointer (some ⟨c2, 0, none⟩), .pointer (some ⟨c3, 0, none⟩), .pointer (some ⟨c4, 0, none⟩), .pointer (some ⟨c5, 0, none⟩)] w fun e w' =>
      e = .returned (.tuple #[.int .i64 n, .int .i64 0]) ∧ Below w.heap.size w w' := by
  have hlk := downMap h.map f (.cells #[.int .i64 (Dd.T s.ns f), .int .i64 (Dd.L s.ns f), .int .i64 (Dd.H s.ns f)] 59)
  rw [hq] at hlk
  simp only [Option.map_some, Option.getD_some, Option.isSome_some, kI] at hlk
  have hlen := h.store.len
  have c2' := h.store.c2
  have p1 := cell_of_one h.p.here
  have d1 := cell_of_one h.d.here
  have i1 := cell_of_one h.ii.here
  have n0 := h.store.n0 hf
  have n1 := h.store.n1 hf
  have n2 := h.store.n2 hf
  have l1 := h.p.lt
  have l2 := h.d.lt
  have l3 := h.ii.lt
  have e2 : ((Dd.T s.ns f : Int) == (i : Int)) = false := by simp; omega
  clear hq
  go_enter Try.func36, Try.ntmps36
  go_wp2_with fail
  go_ret2
  exact ⟨rfl, (Below.refl _ _).alloc (Nat.le_refl _) _⟩

end
end Go.Proofs.Ytehknmcoccikhaa
