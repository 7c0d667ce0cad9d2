/- The laws' frame: a store that the call made; functions by their meaning; live. -/
import Derived.Test.YtehknmcoccikhaaWk
import Derived.Test.YtehknmcoccikhaaRb
namespace Go.Proofs.Ytehknmcoccikhaa
open Go.RowKit

/-- A store of the call's own, at its address p. -/
structure Run (w0 w : World) (s : St) (p : Nat) : Prop where
  store : StoreAt w s
  below : Below w0.heap.size w0 w
  up : ∀ k, s.bl k → w0.heap.size ≤ k
  sb : s.sb = p

theorem Run.step {w0 w w' : World} {s s' : St} {p : Nat} (h : Run w0 w s p) (hS : StoreAt w' s') (hM : More w s s') (hF : Fr s.bl w w') : Run w0 w' s' p := by
  refine ⟨hS, hF.below h.below h.below.size h.up, fun k hk => ?_, hM.sb.trans h.sb⟩
  rcases Nat.lt_or_ge k w.heap.size with hlt | hge
  · exact h.up k (hM.bl k hlt hk)
  · exact Nat.le_trans h.below.size hge
theorem Run.pure {w0 w w' : World} {s : St} {p : Nat} (h : Run w0 w s p) (hb : Below w.heap.size w w') : Run w0 w' s p :=
  h.step (h.store.below hb) (More.refl _ _) (Fr.of_below hb _)

/-- A slice that lies apart from the store. -/
def Apart (s : St) (v : Value) : Prop := ∀ k, v.ownBlock = some k → ¬ s.bl k
theorem SlBools.step {w w' : World} {s s' : St} {v : Value} {l : List Bool} (h : SlBools w v l) (ha : Apart s v) (hM : More w s s') (hF : Fr s.bl w w') : SlBools w' v l ∧ Apart s' v := by
  rcases h with ⟨rfl, rfl⟩ | ⟨b, o, c, rfl, hb, hc⟩
  · exact ⟨Or.inl ⟨rfl, rfl⟩, fun k hk => by simp [Value.ownBlock] at hk⟩
  · have hn := ha b rfl
    exact ⟨Or.inr ⟨b, o, c, rfl, Nat.lt_of_lt_of_le hb hF.size, fun i hi => (hF.cell (p := ⟨b, o + i, none⟩) hb hn).trans (hc i hi)⟩, fun k hk q => by
      simp [Value.ownBlock] at hk; subst hk; exact hn (hM.bl _ hb q)⟩
theorem Apart.new {w w' : World} {s : St} {v : Value} {e size n : Nat} {xs : List Value} (h : StoreAt w s) (ho : w'.ownsRow w.heap.size e size v n xs) : Apart s v := fun k hk => bl_new h (ho.lt k hk).1

/-- n is the node of this function. -/
structure Fun (s : St) (n : Nat) (φ : (Nat → Bool) → Bool) : Prop where
  lt : n < s.ns.length
  den : ∀ env, Dd.den s.ns env n = φ env

theorem Fun.more {w w1 w2 : World} {s s' : St} {n : Nat} {φ : (Nat → Bool) → Bool} (h : Fun s n φ) (h1 : StoreAt w1 s) (h2 : StoreAt w2 s') (hM : More w s s') : Fun s' n φ :=
  ⟨Nat.lt_of_lt_of_le h.lt hM.len, fun env => by rw [hM.den h1 h2 env h.lt]; exact h.den env⟩
theorem Fun.eq {w : World} {s : St} {n m : Nat} {φ ψ : (Nat → Bool) → Bool} (hS : StoreAt w s) (h : Fun s n φ) (k : Fun s m ψ) (e : ∀ env, φ env = ψ env) : n = m :=
  Dd.canon' hS.wf h.lt k.lt fun env => by rw [h.den, k.den, e]
theorem Fun.ne {s : St} {n m : Nat} {φ ψ : (Nat → Bool) → Bool} (h : Fun s n φ) (k : Fun s m ψ) (env : Nat → Bool) (e : φ env ≠ ψ env) : n ≠ m := by
  rintro rfl; exact e (by rw [← h.den, k.den])
theorem Fun.no {w : World} {s : St} (hS : StoreAt w s) : Fun s 0 (fun _ => false) := ⟨by have := hS.wf.two; omega, fun env => Dd.den_zero _ _⟩
theorem Fun.yes {w : World} {s : St} (hS : StoreAt w s) : Fun s 1 (fun _ => true) := ⟨by have := hS.wf.two; omega, fun env => Dd.den_one _ _⟩

/-- A function was made. -/
def OkPost (w0 w : World) (s : St) (p cnt : Nat) (φ : (Nat → Bool) → Bool) (e : Ending) (w' : World) : Prop :=
  ∃ (r : Nat) (s' : St), e = .returned (.tuple #[.int .i64 r, .int .i64 0]) ∧ Run w0 w' s' p ∧ More w s s' ∧ Fr s.bl w w' ∧ s'.ns.length ≤ s.ns.length + cnt ∧ Fun s' r φ

theorem OkPost.of {w0 w : World} {s : St} {p cnt : Nat} {φ : (Nat → Bool) → Bool} {e : Ending} {w' : World} (R : Run w0 w s p) (hb : s.ns.length + cnt < s.budget) (h : FnPost cnt φ w s e w') : OkPost w0 w s p cnt φ e w' := by
  obtain ⟨r, er, s', he, hS, hM, hF, hr, hc, hor⟩ := h
  rcases hor with ⟨rfl, hd⟩ | ⟨_, _, hfull⟩
  · exact ⟨r, s', he, R.step hS hM hF, hM, hF, hc, hr, hd⟩
  · omega

section
variable {w0 w : World} {s : St} {p : Nat} (R : Run w0 w s p)
include R

theorem var_run (i : Nat) (hi : i < s.vars) (hb : s.ns.length + 1 < s.budget) :
    Calls Try.prog 15 #[.pointer (some ⟨p, 0, none⟩), .int .i64 i] w (OkPost w0 w s p 1 (fun env => env i)) := by
  have h := var_any w s R.store i hi
  rw [R.sb] at h
  exact h.mono fun _ _ q => OkPost.of R hb q
theorem ite_run (f g k : Nat) (φ ψ χ : (Nat → Bool) → Bool) (hf : Fun s f φ) (hg : Fun s g ψ) (hk : Fun s k χ) (hb : s.ns.length + 2 ^ s.vars < s.budget) :
    Calls Try.prog 16 #[.pointer (some ⟨p, 0, none⟩), .int .i64 f, .int .i64 g, .int .i64 k] w (OkPost w0 w s p (2 ^ s.vars) (fun env => if φ env then ψ env else χ env)) := by
  have h := Ite_any w s R.store f g k hf.lt hg.lt hk.lt
  rw [R.sb] at h
  refine h.mono fun _ _ q => OkPost.of R hb ?_
  simp only [hf.den, hg.den, hk.den] at q
  exact q
theorem not_run (f : Nat) (φ : (Nat → Bool) → Bool) (hf : Fun s f φ) (hb : s.ns.length + 2 ^ s.vars < s.budget) :
    Calls Try.prog 17 #[.pointer (some ⟨p, 0, none⟩), .int .i64 f] w (OkPost w0 w s p (2 ^ s.vars) (fun env => !φ env)) := by
  have h := Not_any w s R.store f hf.lt
  rw [R.sb] at h
  refine h.mono fun _ _ q => OkPost.of R hb ?_
  simp only [hf.den] at q
  exact q
theorem restrict_run (f i : Nat) (b : Bool) (φ : (Nat → Bool) → Bool) (hf : Fun s f φ) (hi : i < s.vars) (hb : s.ns.length + 2 ^ s.vars < s.budget) :
    Calls Try.prog 20 #[.pointer (some ⟨p, 0, none⟩), .int .i64 f, .int .i64 i, .bool b] w (OkPost w0 w s p (2 ^ s.vars) (fun env => φ (Dd.upd env i b))) := by
  have h := Restrict_any w s R.store f i b hf.lt hi
  rw [R.sb] at h
  refine h.mono fun _ _ q => OkPost.of R hb ?_
  simp only [hf.den] at q
  exact q
theorem and_run (v : Value) (l : List Nat) (hl : SlFns w s v l) (φ : (Nat → Bool) → Bool) (hok : ∀ f ∈ l, f < s.ns.length) (hφ : ∀ env, l.all (Dd.den s.ns env) = φ env) (hb : s.ns.length + l.length * 2 ^ s.vars < s.budget) :
    Calls Try.prog 18 #[.pointer (some ⟨p, 0, none⟩), v] w (OkPost w0 w s p (l.length * 2 ^ s.vars) φ) := by
  have h := And_any w s R.store v l hl hok
  rw [R.sb] at h
  refine h.mono fun _ _ q => OkPost.of R hb ?_
  simp only [hφ] at q
  exact q
theorem or_run (v : Value) (l : List Nat) (hl : SlFns w s v l) (φ : (Nat → Bool) → Bool) (hok : ∀ f ∈ l, f < s.ns.length) (hφ : ∀ env, l.any (Dd.den s.ns env) = φ env) (hb : s.ns.length + l.length * 2 ^ s.vars < s.budget) :
    Calls Try.prog 19 #[.pointer (some ⟨p, 0, none⟩), v] w (OkPost w0 w s p (l.length * 2 ^ s.vars) φ) := by
  have h := Or_any w s R.store v l hl hok
  rw [R.sb] at h
  refine h.mono fun _ _ q => OkPost.of R hb ?_
  simp only [hφ] at q
  exact q
theorem count_run (f : Nat) (φ : (Nat → Bool) → Bool) (hf : Fun s f φ) :
    Calls Try.prog 22 #[.pointer (some ⟨p, 0, none⟩), .int .i64 f] w fun e w' => e = .returned (.tuple #[.int .i64 ((List.range (2 ^ s.vars)).countP (fun j => φ (Dd.rowEnv s.vars j)) : Nat), .int .i64 0]) ∧ Run w0 w' s p ∧ Below w.heap.size w w' := by
  have h := Count_any w s R.store f hf.lt
  rw [R.sb] at h
  refine h.mono fun e w' ⟨he, hb⟩ => ⟨?_, R.pure hb, hb⟩
  rw [he]; unfold Dd.cnt; simp only [hf.den, Nat.sub_zero]
theorem value_run (f : Nat) (φ : (Nat → Bool) → Bool) (hf : Fun s f φ) (v : Value) (l : List Bool) (hl : SlBools w v l) (hlen : l.length = s.vars) :
    Calls Try.prog 14 #[.pointer (some ⟨p, 0, none⟩), .int .i64 f, v] w fun e w' => e = .returned (.tuple #[.bool (φ (envOf l)), .int .i64 0]) ∧ Run w0 w' s p ∧ Below w.heap.size w w' := by
  have h := Value_any w s R.store f hf.lt v l hl hlen
  rw [R.sb] at h
  refine h.mono fun e w' ⟨he, hb⟩ => ⟨?_, R.pure hb, hb⟩
  rw [he, hf.den]
theorem size_run : Calls Try.prog 12 #[.pointer (some ⟨p, 0, none⟩)] w fun e w' => e = .returned (.int .i64 s.ns.length) ∧ w' = w := by
  have h := Size_any w s R.store
  rw [R.sb] at h
  exact h
/-- The first row, or none. -/
theorem witness_run (f : Nat) (φ : (Nat → Bool) → Bool) (hf : Fun s f φ) :
    Calls Try.prog 21 #[.pointer (some ⟨p, 0, none⟩), .int .i64 f] w fun e w' => ∃ v b, e = .returned (.tuple #[v, .bool b]) ∧ Run w0 w' s p ∧ Below w.heap.size w w' ∧
      ((b = false ∧ f = 0 ∧ SlBools w' v []) ∨ (b = true ∧ f ≠ 0 ∧ Apart s v ∧ ∃ k, k < 2 ^ s.vars ∧ φ (Dd.rowEnv s.vars k) = true ∧ (∀ j, j < k → φ (Dd.rowEnv s.vars j) = false) ∧ SlBools w' v (Dd.rowList s.vars k))) := by
  by_cases h0 : f = 0
  · have h := Witness_none w s R.store (f : Int) (Or.inr (by omega))
    rw [R.sb] at h
    refine h.mono fun e w' ⟨he, hb⟩ => ⟨_, _, he, R.pure hb, hb, Or.inl ⟨rfl, h0, Or.inl ⟨rfl, rfl⟩⟩⟩
  · have h := Witness_any w s R.store f hf.lt h0
    rw [R.sb] at h
    refine h.mono fun e w' ⟨g, k, he, ho, hW, hb⟩ => ⟨_, _, he, R.pure hb, hb, Or.inr ⟨rfl, h0, Apart.new R.store ho, k, hW.small, ?_, ?_, SlBools.own' ho (by simp [Dd.rowList])⟩⟩
    · rw [← hf.den]; exact hW.fin R.store.wf
    · intro j hj; rw [← hf.den]; exact hW.none j hj
end

/-- Functions in a new block. -/
theorem SlFns.lit {w : World} {s : St} {b c : Nat} {l : List Nat} {t : TypeId} {fr : Nat × Nat} (hb : w.heap[b]? = some (.cells (l.map (fun n : Nat => Value.int .i64 (n : Int))).toArray t fr)) (hl : l.length ≤ 1000) (hn : ¬ s.bl b) : SlFns w s (.slice (some ⟨b, 0, none⟩) l.length c) l := by
  refine Or.inr ⟨b, 0, c, rfl, hl, (Array.getElem?_eq_some_iff.1 hb).1, hn, fun i hi => ?_⟩
  rw [cell_of_row w b (0 + i) _ t fr hb]
  simp [List.getD, hi]

set_option maxRecDepth 100000 in
set_option maxHeartbeats 2000000 in
theorem live_any (w : World) : Calls Try.prog 8 #[] w fun e w' => e = .returned (.bool true) ∧ Below w.heap.size w w' := by
  go_enter Try.func8, Try.ntmps8
  go_wp2_with fail
  refine (New_ok w 2 100 (by omega) (by omega) (by omega)).mono ?_
  rintro e w1 ⟨s0, rfl, hS0, hv0, hb0, hn0, hB0, hup0⟩
  obtain ⟨p, hp⟩ : ∃ p, s0.sb = p := ⟨_, rfl⟩
  rw [hp]
  have R0 : Run w w1 s0 p := ⟨hS0, hB0, hup0, hp⟩
  have L0 : s0.ns.length = 2 := by rw [hn0]; rfl
  have HV0 : Hid (s0.vars = 2 ∧ s0.budget = 100 ∧ s0.ns.length = 2) := ⟨hv0, hb0, L0⟩
  clear hv0 hb0 hn0 hB0 hup0 hp hS0 L0
  go_wp2_with fail
  refine (New_bad w1 31 100 (by omega)).mono ?_
  rintro e w2 ⟨rfl, rfl⟩
  go_wp2_with fail
  refine (var_run R0 0 (by have := HV0.out; omega) (by have := HV0.out; omega)).mono ?_
  rintro e w3 ⟨a, s1, rfl, R1, M1, -, L1, A1⟩
  have HV1 : Hid (s1.vars = 2 ∧ s1.budget = 100 ∧ s1.ns.length ≤ 3) := by have := HV0.out; exact ⟨M1.vars.trans this.1, M1.budget.trans this.2.1, by omega⟩
  clear L1 M1 R0
  go_wp2_with fail
  refine (var_run R1 1 (by have := HV1.out; omega) (by have := HV1.out; omega)).mono ?_
  rintro e w4 ⟨b, s2, rfl, R2, M2, -, L2, B2⟩
  have HV2 : Hid (s2.vars = 2 ∧ s2.budget = 100 ∧ s2.ns.length ≤ 4) := by have := HV1.out; exact ⟨M2.vars.trans this.1, M2.budget.trans this.2.1, by omega⟩
  have A2 := A1.more R1.store R2.store M2
  clear L2 M2 R1 A1
  go_wp2_with fail
  refine (not_run R2 a _ A2 (by have h := HV2.out; rw [h.1]; omega)).mono ?_
  rintro e w5 ⟨n, s3, rfl, R3, M3, -, L3, N3⟩
  have HV3 : Hid (s3.vars = 2 ∧ s3.budget = 100 ∧ s3.ns.length ≤ 8) := by have h := HV2.out; rw [h.1] at L3; exact ⟨M3.vars.trans h.1, M3.budget.trans h.2.1, by omega⟩
  have A3 := A2.more R2.store R3.store M3
  have B3 := B2.more R2.store R3.store M3
  clear L3 M3 R2 A2 B2
  go_wp2_with fail
  have hBa : Below w5.heap.size w5 (w5.alloc (.cells #[.int .i64 a, .int .i64 n] 3)) := (Below.refl _ _).alloc (Nat.le_refl _) _
  refine (or_run (R3.pure hBa) _ [a, n] (SlFns.lit (l := [a, n]) (heap_alloc_new w5 _) (by simp) (bl_new R3.store (Nat.le_refl _))) (fun _ => true) (by simp; exact ⟨A3.lt, N3.lt⟩) (fun env => by simp [A3.den, N3.den]) (by have h := HV3.out; rw [h.1]; simp; omega)).mono ?_
  rintro e w6 ⟨t, s4, rfl, R4, M4, -, L4, T4⟩
  have HV4 : Hid (s4.vars = 2 ∧ s4.budget = 100 ∧ s4.ns.length ≤ 16) := by have h := HV3.out; rw [h.1] at L4; simp at L4; exact ⟨M4.vars.trans h.1, M4.budget.trans h.2.1, by omega⟩
  have A4 := A3.more R3.store R4.store M4
  have B4 := B3.more R3.store R4.store M4
  have N4 := N3.more R3.store R4.store M4
  have ht : t = 1 := T4.eq R4.store (Fun.yes R4.store) (fun _ => rfl)
  subst ht
  clear L4 M4 A3 B3 N3 hBa R3 T4
  go_wp2_with fail
  have hBa : Below w6.heap.size w6 (w6.alloc (.cells #[.int .i64 n, .int .i64 b] 3)) := (Below.refl _ _).alloc (Nat.le_refl _) _
  refine (and_run (R4.pure hBa) _ [n, b] (SlFns.lit (l := [n, b]) (heap_alloc_new w6 _) (by simp) (bl_new R4.store (Nat.le_refl _))) (fun env => !env 0 && env 1) (by simp; exact ⟨N4.lt, B4.lt⟩) (fun env => by simp [B4.den, N4.den]) (by have h := HV4.out; rw [h.1]; simp; omega)).mono ?_
  rintro e w7 ⟨x, s5, rfl, R5, M5, -, L5, X5⟩
  have HV5 : Hid (s5.vars = 2 ∧ s5.budget = 100 ∧ s5.ns.length ≤ 24) := by have h := HV4.out; rw [h.1] at L5; simp at L5; exact ⟨M5.vars.trans h.1, M5.budget.trans h.2.1, by omega⟩
  have A5 := A4.more R4.store R5.store M5
  have B5 := B4.more R4.store R5.store M5
  have N5 := N4.more R4.store R5.store M5
  clear L5 M5 A4 B4 N4 hBa R4
  go_wp2_with fail
  refine (witness_run R5 x _ X5).mono ?_
  rintro e w8 ⟨vw, bw, rfl, R6, hb6, hor⟩
  have HW : bw = true ∧ SlBools w8 vw [false, true] ∧ Apart s5 vw := by
    have hv := HV5.out.1
    rcases hor with ⟨h1, h2, h3⟩ | ⟨h1, h2, hap, k, hk, hk1, hk2, hs⟩
    · exfalso
      have := X5.den (fun i => i == 1)
      rw [h2, Dd.den_zero] at this
      simp at this
    · rw [hv] at hk hk1 hs
      simp only [hv] at hk2
      have e1 : k = 1 := by
        have : k = 0 ∨ k = 1 ∨ k = 2 ∨ k = 3 := by omega
        rcases this with rfl | rfl | rfl | rfl
        · revert hk1; decide
        · rfl
        · revert hk1; decide
        · revert hk1; decide
      subst e1
      exact ⟨h1, hs, hap⟩
  obtain ⟨rfl, hvw, hap⟩ := HW
  clear hor hb6 R5
  go_wp2_with fail
  refine (count_run R6 x _ X5).mono ?_
  rintro e w9 ⟨rfl, R7, hb7⟩
  have hvw9 := hvw.below hb7
  have hcnt : (List.range (2 ^ s5.vars)).countP (fun j => (fun env : Nat → Bool => !env 0 && env 1) (Dd.rowEnv s5.vars j)) = 1 := by
    rw [HV5.out.1]; decide
  rw [hcnt]
  clear hcnt hb7 hvw R6
  go_wp2_with fail
  have hBa : Below w9.heap.size w9 (w9.alloc (.cells #[.bool false, .bool true] 4)) := (Below.refl _ _).alloc (Nat.le_refl _) _
  have hlit : SlBools (w9.alloc (.cells #[.bool false, .bool true] 4)) (.slice (some ⟨w9.heap.size, 0, none⟩) 2 2) [false, true] :=
    SlBools.own (e := 4) (l := [false, true]) (base := 0) (World.ownsRow_lit w9 #[.bool false, .bool true] 2 (Nat.zero_le _) (by unfold maxLen; omega) rfl)
  refine (value_run (R7.pure hBa) x _ X5 _ [false, true] hlit (by rw [HV5.out.1]; rfl)).mono ?_
  rintro e w10 ⟨rfl, R8, hb8⟩
  have hvw10 := (hvw9.below hBa).below hb8
  have hval : (!envOf [false, true] 0 && envOf [false, true] 1) = true := by decide
  rw [hval]
  clear hval hlit hb8 hBa hvw9 R7
  go_wp2_with fail
  refine (restrict_run R8 x 0 true _ X5 (by rw [HV5.out.1]; omega) (by have h := HV5.out; rw [h.1]; omega)).mono ?_
  rintro e w11 ⟨r, s6, rfl, R9, M9, F9, L9, Z9⟩
  have HV9 : Hid (s6.vars = 2) := M9.vars.trans HV5.out.1
  have hr : r = 0 := Z9.eq R9.store (Fun.no R9.store) (fun env => by simp [Dd.upd])
  subst hr
  have hvw11 := (hvw10.step hap M9 F9).1
  have A9 := A5.more R8.store R9.store M9
  have B9 := B5.more R8.store R9.store M9
  have N9 := N5.more R8.store R9.store M9
  clear L9 M9 F9 hvw10 R8 A5 B5 N5 X5
  go_wp2_with fail
  refine (show Calls Try.prog 15 #[.pointer (some ⟨p, 0, none⟩), .int .i64 2] w11 _ from (by have := var_bad w11 s6 R9.store 2 (Or.inr (by rw [HV9.out]; omega)); rw [R9.sb] at this; exact this)).mono ?_
  rintro e w12 ⟨rfl, rfl⟩
  have hlen5 : 5 ≤ s6.ns.length := by
    have n1 := A9.ne (Fun.no R9.store) (fun _ => true) (by simp)
    have n2 := A9.ne (Fun.yes R9.store) (fun _ => false) (by simp)
    have n3 := B9.ne (Fun.no R9.store) (fun _ => true) (by simp)
    have n4 := B9.ne (Fun.yes R9.store) (fun _ => false) (by simp)
    have n5 := N9.ne (Fun.no R9.store) (fun _ => false) (by simp)
    have n6 := N9.ne (Fun.yes R9.store) (fun _ => true) (by simp)
    have n7 := A9.ne B9 (fun i => i == 0) (by simp)
    have n8 := A9.ne N9 (fun _ => true) (by simp)
    have n9 := B9.ne N9 (fun _ => true) (by simp)
    have l1 := A9.lt; have l2 := B9.lt; have l3 := N9.lt
    omega
  have hS9 := R9.store.len
  go_wp2_with fail
  have hBa : Below w12.heap.size w12 (w12.alloc (.cells #[.bool false, .bool true] 4)) := (Below.refl _ _).alloc (Nat.le_refl _) _
  have hlit : SlBools (w12.alloc (.cells #[.bool false, .bool true] 4)) (.slice (some ⟨w12.heap.size, 0, none⟩) 2 2) [false, true] :=
    SlBools.own (e := 4) (l := [false, true]) (base := 0) (World.ownsRow_lit w12 #[.bool false, .bool true] 2 (Nat.zero_le _) (by unfold maxLen; omega) rfl)
  refine (Same_any _ _ _ [false, true] [false, true] (hvw11.below hBa) hlit (by simp)).mono ?_
  rintro e w13 ⟨rfl, hb13⟩
  have R10 := (R9.pure hBa).pure hb13
  have ht : decide ([false, true] = [false, true]) = true := by decide
  rw [ht]
  clear ht hBa hb13 hlit hvw11 R9
  go_wp2_with fail
  refine (ConstS_any w13 ⟨p, 0, none⟩ true).mono ?_
  rintro e w14 ⟨rfl, rfl⟩
  go_wp2_with fail
  refine (size_run R10).mono ?_
  rintro e w15 ⟨rfl, rfl⟩
  go_wp2_with fail
  go_ret
  have hd : decide ((5 : Int) ≤ (s6.ns.length : Int)) = true := by simp; omega
  exact ⟨by rw [hd]; rfl, R10.below⟩
end Go.Proofs.Ytehknmcoccikhaa
