/- Walk: the laws' call: its head. -/
import Derived.Test.YtehknmcoccikhaaMa
namespace Go.Proofs.Ytehknmcoccikhaa
open Go.RowKit

/-- A made function, in a block of its own. -/
def mkObj (x : Mk) : Obj := .cells #[.int .i64 x.n, .slice (some ⟨x.tb, x.tof, none⟩) x.tl x.tc] 32 (0, 0)

/-- What the call holds as it comes to its switch. -/
structure Got (w0 W : World) (s : St) (vars p ob fb gb hb : Nat) (x y z : Mk) (vn vy : Value) (d i f g h : Int) (b : Bool) : Prop where
  run : Run w0 W s p
  hv : s.vars = vars
  o : Held W s ob (.cells #[.int .i64 d, .int .i64 i, .int .i64 f, .int .i64 g, .int .i64 h, .bool b] 37 (0, 0))
  f : Held W s fb (mkObj x)
  g : Held W s gb (mkObj y)
  h : Held W s hb (mkObj z)
  fx : Fun s x.n x.φ
  fy : Fun s y.n y.φ
  fz : Fun s z.n z.φ
  tx : SlBools W x.t (tab vars x.φ) ∧ Apart s x.t
  ty : SlBools W y.t (tab vars y.φ) ∧ Apart s y.t
  tz : SlBools W z.t (tab vars z.φ) ∧ Apart s z.t
  no : SlBools W vn (tab vars fun _ => false) ∧ Apart s vn
  yes : SlBools W vy (tab vars fun _ => true) ∧ Apart s vy

section
variable {w0 W : World} {s : St} {vars p ob fb gb hb : Nat} {x y z : Mk} {vn vy : Value} {d i f g h : Int} {b : Bool}
theorem Got.step (G : Got w0 W s vars p ob fb gb hb x y z vn vy d i f g h b) {W' : World} {s' : St} (hS : StoreAt W' s') (hM : More W s s') (hF : Fr s.bl W W') : Got w0 W' s' vars p ob fb gb hb x y z vn vy d i f g h b :=
  ⟨G.run.step hS hM hF, hM.vars.trans G.hv, G.o.step hM hF G.o.ap, G.f.step hM hF G.f.ap, G.g.step hM hF G.g.ap, G.h.step hM hF G.h.ap,
    G.fx.more G.run.store hS hM, G.fy.more G.run.store hS hM, G.fz.more G.run.store hS hM,
    G.tx.1.step G.tx.2 hM hF, G.ty.1.step G.ty.2 hM hF, G.tz.1.step G.tz.2 hM hF, G.no.1.step G.no.2 hM hF, G.yes.1.step G.yes.2 hM hF⟩
theorem Got.pure (G : Got w0 W s vars p ob fb gb hb x y z vn vy d i f g h b) {W' : World} (hb' : Below W.heap.size W W') : Got w0 W' s vars p ob fb gb hb x y z vn vy d i f g h b :=
  G.step (G.run.store.below hb') (More.refl _ _) (Fr.of_below hb' _)
theorem Got.o0 (G : Got w0 W s vars p ob fb gb hb x y z vn vy d i f g h b) : W.cell? ⟨ob, 0, none⟩ = some (.int .i64 d) := by simp [World.cell?, G.o.here]
theorem Got.o1 (G : Got w0 W s vars p ob fb gb hb x y z vn vy d i f g h b) : W.cell? ⟨ob, 1, none⟩ = some (.int .i64 i) := by simp [World.cell?, G.o.here]
theorem Got.o5 (G : Got w0 W s vars p ob fb gb hb x y z vn vy d i f g h b) : W.cell? ⟨ob, 5, none⟩ = some (.bool b) := by simp [World.cell?, G.o.here]
theorem mk0 {k : Nat} {x : Mk} (h : Held W s k (mkObj x)) : W.cell? ⟨k, 0, none⟩ = some (.int .i64 x.n) := by simp [World.cell?, h.here, mkObj]
theorem mk1 {k : Nat} {x : Mk} (h : Held W s k (mkObj x)) : W.cell? ⟨k, 1, none⟩ = some (.slice (some ⟨x.tb, x.tof, none⟩) x.tl x.tc) := by simp [World.cell?, h.here, mkObj]
theorem Got.callIte (G : Got w0 W s vars p ob fb gb hb x y z vn vy d i f g h b) :
    Calls Try.prog 16 #[.pointer (some ⟨p, 0, none⟩), .int .i64 x.n, .int .i64 y.n, .int .i64 z.n] W (FnPost (2 ^ s.vars) (fun env => if Dd.den s.ns env x.n then Dd.den s.ns env y.n else Dd.den s.ns env z.n) W s) := by
  have h := Ite_any W s G.run.store x.n y.n z.n G.fx.lt G.fy.lt G.fz.lt
  rw [G.run.sb] at h
  exact h
theorem Got.callNot (G : Got w0 W s vars p ob fb gb hb x y z vn vy d i f g h b) :
    Calls Try.prog 17 #[.pointer (some ⟨p, 0, none⟩), .int .i64 x.n] W (FnPost (2 ^ s.vars) (fun env => !Dd.den s.ns env x.n) W s) := by
  have h := Not_any W s G.run.store x.n G.fx.lt
  rw [G.run.sb] at h
  exact h
theorem Got.callVar (G : Got w0 W s vars p ob fb gb hb x y z vn vy d i f g h b) (k : Nat) (hk : k < vars) :
    Calls Try.prog 15 #[.pointer (some ⟨p, 0, none⟩), .int .i64 k] W (FnPost 1 (fun env => env k) W s) := by
  have h := var_any W s G.run.store k (by rw [G.hv]; exact hk)
  rw [G.run.sb] at h
  exact h
theorem Got.callRestrict (G : Got w0 W s vars p ob fb gb hb x y z vn vy d i f g h b) (k : Nat) (hk : k < vars) :
    Calls Try.prog 20 #[.pointer (some ⟨p, 0, none⟩), .int .i64 x.n, .int .i64 k, .bool b] W (FnPost (2 ^ s.vars) (fun env => Dd.den s.ns (Dd.upd env k b) x.n) W s) := by
  have h := Restrict_any W s G.run.store x.n k b G.fx.lt (by rw [G.hv]; exact hk)
  rw [G.run.sb] at h
  exact h
theorem Got.callAnd (G : Got w0 W s vars p ob fb gb hb x y z vn vy d i f g h b) :
    Calls Try.prog 18 #[.pointer (some ⟨p, 0, none⟩), .slice (some ⟨W.heap.size, 0, none⟩) 3 3] (W.alloc (.cells #[.int .i64 x.n, .int .i64 y.n, .int .i64 z.n] 3)) (FnPost (3 * 2 ^ s.vars) (fun env => [x.n, y.n, z.n].all (Dd.den s.ns env)) W s) := by
  have hB : Below W.heap.size W (W.alloc (.cells #[.int .i64 x.n, .int .i64 y.n, .int .i64 z.n] 3)) := (Below.refl _ _).alloc (Nat.le_refl _) _
  have h := And_any _ s (G.run.store.below hB) _ [x.n, y.n, z.n] (SlFns.lit (c := 3) (l := [x.n, y.n, z.n]) (heap_alloc_new W _) (by simp) (bl_new G.run.store (Nat.le_refl _))) (by simp; exact ⟨G.fx.lt, G.fy.lt, G.fz.lt⟩)
  rw [G.run.sb] at h
  exact h.mono fun _ _ q => FnPost.from hB q
theorem Got.callOr (G : Got w0 W s vars p ob fb gb hb x y z vn vy d i f g h b) :
    Calls Try.prog 19 #[.pointer (some ⟨p, 0, none⟩), .slice (some ⟨W.heap.size, 0, none⟩) 3 3] (W.alloc (.cells #[.int .i64 x.n, .int .i64 y.n, .int .i64 z.n] 3)) (FnPost (3 * 2 ^ s.vars) (fun env => [x.n, y.n, z.n].any (Dd.den s.ns env)) W s) := by
  have hB : Below W.heap.size W (W.alloc (.cells #[.int .i64 x.n, .int .i64 y.n, .int .i64 z.n] 3)) := (Below.refl _ _).alloc (Nat.le_refl _) _
  have h := Or_any _ s (G.run.store.below hB) _ [x.n, y.n, z.n] (SlFns.lit (c := 3) (l := [x.n, y.n, z.n]) (heap_alloc_new W _) (by simp) (bl_new G.run.store (Nat.le_refl _))) (by simp; exact ⟨G.fx.lt, G.fy.lt, G.fz.lt⟩)
  rw [G.run.sb] at h
  exact h.mono fun _ _ q => FnPost.from hB q
/-- The document's choice of three functions. -/
theorem tIte (w : World) (u v t : Value) (φ ψ χ : (Nat → Bool) → Bool) (hv5 : vars ≤ 5) (h1 : SlBools w u (tab vars φ)) (h2 : SlBools w v (tab vars ψ)) (h3 : SlBools w t (tab vars χ)) :
    Calls Try.prog 27 #[u, v, t] w fun e w' => ∃ r, e = .returned r ∧ SlBools w' r (tab vars fun env => if φ env then ψ env else χ env) ∧ Below w.heap.size w w' ∧ (∀ k, r.ownBlock = some k → w.heap.size ≤ k) := by
  have hp := pow30 (show vars ≤ 30 by omega)
  refine (rIte_any w u v t _ _ _ (2 ^ vars) (Nat.pow_pos (by omega)) hp h1 h2 h3 (tab_length _ _) (tab_length _ _) (tab_length _ _)).mono ?_
  rintro e w' ⟨r, he, hS, hb, hn⟩
  rw [tab_ite] at hS
  exact ⟨r, he, hS, hb, hn⟩
theorem tConst (w : World) (c : Bool) (hv5 : vars ≤ 5) :
    Calls Try.prog 10 #[.int .i64 vars, .bool c] w fun e w' => ∃ r, e = .returned r ∧ SlBools w' r (tab vars fun _ => c) ∧ Below w.heap.size w w' ∧ (∀ k, r.ownBlock = some k → w.heap.size ≤ k) := by
  refine (rConst_any w vars c (by omega)).mono ?_
  rintro e w' ⟨r, he, hS, hb, hn⟩
  rw [← tab_const] at hS
  exact ⟨r, he, hS, hb, hn⟩
theorem tRestrict (w : World) (u : Value) (φ : (Nat → Bool) → Bool) (k : Nat) (c : Bool) (hv5 : vars ≤ 5) (hk : k < vars) (hφ : ∀ env env', (∀ j, j < vars → env j = env' j) → φ env = φ env') (h1 : SlBools w u (tab vars φ)) :
    Calls Try.prog 28 #[u, .int .i64 vars, .int .i64 k, .bool c] w fun e w' => ∃ r, e = .returned r ∧ SlBools w' r (tab vars fun env => φ (Dd.upd env k c)) ∧ Below w.heap.size w w' ∧ (∀ k, r.ownBlock = some k → w.heap.size ≤ k) := by
  refine (rRestrict_any w u _ vars k c (by omega) hk h1 (tab_length _ _)).mono ?_
  rintro e w' ⟨r, he, hS, hb, hn⟩
  rw [tab_restrict _ _ _ _ hk hφ] at hS
  exact ⟨r, he, hS, hb, hn⟩
end
end Go.Proofs.Ytehknmcoccikhaa
