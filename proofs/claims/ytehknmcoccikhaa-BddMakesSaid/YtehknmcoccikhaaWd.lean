/- Walks: ite. -/
import Derived.Test.YtehknmcoccikhaaWc
namespace Go.Proofs.Ytehknmcoccikhaa
open Go.RowKit

/-- What a choice leaves. -/
def ItePost (w : World) (s : St) (f g h : Nat) (e : Ending) (w' : World) : Prop :=
  ∃ (r er : Nat) (s' : St), e = .returned (.tuple #[.int .i64 r, .int .i64 er]) ∧ StoreAt w' s' ∧ More w s s' ∧ Fr s.bl w w' ∧ r < s'.ns.length ∧
    s'.ns.length + 1 ≤ s.ns.length + 2 ^ (s.vars - min (Dd.T s.ns f) (min (Dd.T s.ns g) (Dd.T s.ns h))) ∧
    ((er = 0 ∧ min (Dd.T s.ns f) (min (Dd.T s.ns g) (Dd.T s.ns h)) ≤ Dd.T s'.ns r ∧ ∀ env, Dd.den s'.ns env r = if Dd.den s.ns env f then Dd.den s.ns env g else Dd.den s.ns env h) ∨
      (er = 18 ∧ r = 0 ∧ s'.ns.length = s.budget))

set_option maxHeartbeats 400000 in
theorem ite_one (w : World) (s : St) (h : StoreAt w s) (g k : Nat) :
    Calls Try.prog 35 #[.pointer (some ⟨s.sb, 0, none⟩), .int .i64 1, .int .i64 g, .int .i64 k] w fun e w' => e = .returned (.tuple #[.int .i64 g, .int .i64 0]) ∧ w' = w := by
  go_enter Try.func35, Try.ntmps35
  go_wp2_with fail
  go_ret2
  exact ⟨rfl, rfl⟩
set_option maxHeartbeats 400000 in
theorem ite_zero (w : World) (s : St) (h : StoreAt w s) (g k : Nat) :
    Calls Try.prog 35 #[.pointer (some ⟨s.sb, 0, none⟩), .int .i64 0, .int .i64 g, .int .i64 k] w fun e w' => e = .returned (.tuple #[.int .i64 k, .int .i64 0]) ∧ w' = w := by
  go_enter Try.func35, Try.ntmps35
  go_wp2_with fail
  go_ret2
  exact ⟨rfl, rfl⟩
set_option maxHeartbeats 400000 in
theorem ite_same (w : World) (s : St) (h : StoreAt w s) (f g : Nat) (hf : 2 ≤ f) :
    Calls Try.prog 35 #[.pointer (some ⟨s.sb, 0, none⟩), .int .i64 f, .int .i64 g, .int .i64 g] w fun e w' => e = .returned (.tuple #[.int .i64 g, .int .i64 0]) ∧ w' = w := by
  have h1 : ((f : Int) == 1) = false := by simp; omega
  have h0 : ((f : Int) == 0) = false := by simp; omega
  go_enter Try.func35, Try.ntmps35
  go_wp2_with fail
  go_ret2
  exact ⟨rfl, rfl⟩

set_option maxHeartbeats 400000 in
theorem ite_hit (w : World) (s : St) (h : StoreAt w s) (f g k n : Nat) (hf : 2 ≤ f) (hgk : g ≠ k) (hq : look (f, g, k) s.ites = some n) :
    Calls Try.prog 35 #[.pointer (some ⟨s.sb, 0, none⟩), .int .i64 f, .int .i64 g, .int .i64 k] w fun e w' => e = .returned (.tuple #[.int .i64 n, .int .i64 0]) ∧ Below w.heap.size w w' := by
  have h1 : ((f : Int) == 1) = false := by simp; omega
  have h0 : ((f : Int) == 0) = false := by simp; omega
  have h3 : ((g : Int) == (k : Int)) = false := by simp; omega
  have c4 := h.c4
  have hlt : s.sb < w.heap.size := h.lt (Or.inl rfl)
  have hlk : ∀ m, (Instr.lookup 62 (.map (some s.ib)) (.agg #[.int .i64 f, .int .i64 g, .int .i64 k]) true).run Try.prog ((w.alloc (.cells #[.int .i64 f, .int .i64 g, .int .i64 k] 81)).drewN m) = .ok (.tuple #[.int .i64 n, .bool true]) ((w.alloc (.cells #[.int .i64 f, .int .i64 g, .int .i64 k] 81)).drewN m) := by
    intro m
    have hm : MapIs tri vInt ((w.alloc (.cells #[.int .i64 f, .int .i64 g, .int .i64 k] 81)).drewN m) s.ib s.ites := h.ites.of_block (Below.heap_alloc _ _ _ h.ites.lt)
    have := hm.lookup keyTriple Try.underlying62 zeroInt (f, g, k)
    rw [hq] at this
    exact this
  go_enter Try.func35, Try.ntmps35
  go_wp2_with fail
  go_quiet (fail)
  go_wp2_with fail
  go_ret2
  exact ⟨rfl, below_drewN ((Below.refl _ _).alloc (Nat.le_refl _) _) _⟩

/-- The world of a choice, once its key is laid: s0 is the store at the call, s the store now. -/
structure Key (w W : World) (s0 s : St) (f g k : Nat) : Prop where
  store : StoreAt W s
  more : More w s0 s
  fr : Fr s0.bl w W
  key : W.heap[w.heap.size]? = some (.cells #[.int .i64 f, .int .i64 g, .int .i64 k] 81 (0, 0))

theorem Key.not_bl {w W : World} {s0 s : St} {f g k : Nat} (h : Key w W s0 s f g k) : ¬ s.bl w.heap.size := by
  intro hb
  rcases hb with e | e | e | e
  · have := h.store.cells; rw [← e, h.key] at this; simp at this
  · obtain ⟨_, h2⟩ := h.store.own
    rcases h2 with ⟨h2, _⟩ | ⟨g', cap, cur, hv, _, hh, _⟩
    · simp at h2
    · have eg : g' = s.nb := by simp at hv; exact hv.1.symm
      rw [eg, ← e, h.key] at hh; simp at hh
  · obtain ⟨es, c, hh, _⟩ := h.store.numbers
    rw [← e, h.key] at hh; simp at hh
  · obtain ⟨es, c, hh, _⟩ := h.store.ites
    rw [← e, h.key] at hh; simp at hh

theorem Key.step {w W W' : World} {s0 s s' : St} {f g k : Nat} (h : Key w W s0 s f g k) (hS : StoreAt W' s') (hM : More W s s') (hF : Fr s.bl W W') : Key w W' s0 s' f g k :=
  ⟨hS, h.more.trans hM h.fr.size, h.fr.trans hF fun i hi q => h.more.bl i hi q, by
    rw [hF.block _ (Array.getElem?_eq_some_iff.1 h.key).1 h.not_bl]; exact h.key⟩

theorem Key.below {w W W' : World} {s0 s : St} {f g k : Nat} (h : Key w W s0 s f g k) (hb : Below W.heap.size W W') : Key w W' s0 s f g k :=
  h.step (h.store.below hb) (More.refl _ _) (Fr.of_below hb _)

theorem pow_half {a : Nat} (h : 0 < a) : 2 ^ a = 2 * 2 ^ (a - 1) := by
  obtain ⟨b, rfl⟩ : ∃ b, a = b + 1 := ⟨a - 1, by omega⟩
  rw [Nat.pow_succ, Nat.add_sub_cancel]; omega

/-- The value of a choice, out of those with a variable false and true. -/
theorem ite_sem {vars : Nat} {ns : List Dd.Nd} (W : Dd.WF vars ns) {f g k t : Nat} (hf : f < ns.length) (hg : g < ns.length) (hk : k < ns.length) (tf : t ≤ Dd.T ns f) (tg : t ≤ Dd.T ns g) (tk : t ≤ Dd.T ns k) (htv : t < vars) (env : Nat → Bool) :
    (if env t then (if Dd.den ns env (Dd.half ns f t true) then Dd.den ns env (Dd.half ns g t true) else Dd.den ns env (Dd.half ns k t true))
      else (if Dd.den ns env (Dd.half ns f t false) then Dd.den ns env (Dd.half ns g t false) else Dd.den ns env (Dd.half ns k t false))) =
    if Dd.den ns env f then Dd.den ns env g else Dd.den ns env k := by
  rw [Dd.half_den W env hf tf htv, Dd.half_den W env hg tg htv, Dd.half_den W env hk tk htv, Dd.half_den W env hf tf htv, Dd.half_den W env hg tg htv, Dd.half_den W env hk tk htv]
  cases e : env t
  · have : Dd.upd env t false = env := by rw [← e]; exact Dd.upd_same env t
    rw [this]; simp
  · have : Dd.upd env t true = env := by rw [← e]; exact Dd.upd_same env t
    rw [this]; simp

/-- A store that knows one choice more. -/
def St.knows (s : St) (x : Dd.Nd) (n : Nat) : St := { s with ites := putAt x n s.ites }

theorem StoreAt.knows {W W' : World} {s : St} (h : StoreAt W s) {x : Dd.Nd} {n : Nat} (hm : MapIs tri vInt W' s.ib (putAt x n s.ites)) (hg : W.grownBy W' (some s.ib))
    (h1 : x.1 < s.ns.length) (h2 : x.2.1 < s.ns.length) (h3 : x.2.2 < s.ns.length) (h4 : n < s.ns.length) (h5 : min (Dd.T s.ns x.1) (min (Dd.T s.ns x.2.1) (Dd.T s.ns x.2.2)) ≤ Dd.T s.ns n)
    (h6 : ∀ env, Dd.den s.ns env n = if Dd.den s.ns env x.1 then Dd.den s.ns env x.2.1 else Dd.den s.ns env x.2.2) :
    StoreAt W' (s.knows x n) ∧ More W s (s.knows x n) ∧ Fr s.bl W W' := by
  obtain ⟨a1, a2, a3, a4, a5, a6⟩ := h.apart
  have hk : ∀ k, k < W.heap.size → k ≠ s.ib → W'.heap[k]? = W.heap[k]? := fun k hk hn => hg.block k hk (by simpa using hn)
  refine ⟨⟨?_, ?_, ?_, hm, h.apart, h.wf, h.small, h.room, h.most, ?_⟩, ⟨rfl, rfl, rfl, Or.inl rfl, rfl, rfl, [], by simp [St.knows]⟩, ⟨hg.os, hg.tape, hg.output, hg.size, fun k hk' hn => hk k hk' (fun q => hn (Or.inr (Or.inr (Or.inr q))))⟩⟩
  · exact (hk s.sb (h.lt (Or.inl rfl)) a3).trans h.cells
  · exact h.own.kept hg (Or.inr (by simp [Value.ownBlock]; exact a5))
  · exact h.numbers.of_block (hk _ h.numbers.lt a6)
  · intro y m hy
    rcases mem_putAt hy with e | e
    · simp at e; obtain ⟨rfl, rfl⟩ := e; exact ⟨h1, h2, h3, h4, h5, h6⟩
    · exact h.memo y m e

set_option maxHeartbeats 1000000 in
theorem ite_rec (m : Nat) (ih : ∀ (f g k : Nat) (w : World) (s : St), StoreAt w s → f < s.ns.length → g < s.ns.length → k < s.ns.length → s.vars - min (Dd.T s.ns f) (min (Dd.T s.ns g) (Dd.T s.ns k)) ≤ m →
      Calls Try.prog 35 #[.pointer (some ⟨s.sb, 0, none⟩), .int .i64 f, .int .i64 g, .int .i64 k] w (ItePost w s f g k))
    (w : World) (s : St) (h : StoreAt w s) (f g k : Nat) (hf2 : 2 ≤ f) (hgk : g ≠ k) (hq : look (f, g, k) s.ites = none) (hf : f < s.ns.length) (hg : g < s.ns.length) (hk : k < s.ns.length)
    (hm : s.vars - min (Dd.T s.ns f) (min (Dd.T s.ns g) (Dd.T s.ns k)) ≤ m + 1) :
    Calls Try.prog 35 #[.pointer (some ⟨s.sb, 0, none⟩), .int .i64 f, .int .i64 g, .int .i64 k] w (ItePost w s f g k) := by
  have h1 : ((f : Int) == 1) = false := by simp; omega
  have h0 : ((f : Int) == 0) = false := by simp; omega
  have h3 : ((g : Int) == (k : Int)) = false := by simp; omega
  have hlen := h.len
  have c4 := h.c4
  have c2 := h.c2
  have nf := h.n0 hf
  have ng := h.n0 hg
  have nk := h.n0 hk
  have hlt : s.sb < w.heap.size := h.lt (Or.inl rfl)
  have hlt2 : s.nb < w.heap.size := h.lt (Or.inr (Or.inl rfl))
  have hlk : ∀ m, (Instr.lookup 62 (.map (some s.ib)) (.agg #[.int .i64 f, .int .i64 g, .int .i64 k]) true).run Try.prog ((w.alloc (.cells #[.int .i64 f, .int .i64 g, .int .i64 k] 81)).drewN m) = .ok (.tuple #[.int .i64 0, .bool false]) ((w.alloc (.cells #[.int .i64 f, .int .i64 g, .int .i64 k] 81)).drewN m) := by
    intro m
    have hm : MapIs tri vInt ((w.alloc (.cells #[.int .i64 f, .int .i64 g, .int .i64 k] 81)).drewN m) s.ib s.ites := h.ites.of_block (Below.heap_alloc _ _ _ h.ites.lt)
    have := hm.lookup keyTriple Try.underlying62 zeroInt (f, g, k)
    rw [hq] at this
    exact this
  obtain ⟨t, ht⟩ : ∃ t, t = min (Dd.T s.ns f) (min (Dd.T s.ns g) (Dd.T s.ns k)) := ⟨_, rfl⟩
  have hmin3 : ∀ (ts : Array TypeId) (t' : TypeId) (W : World), (Builtin.min_ ts t' #[.int .i64 (Dd.T s.ns f), .int .i64 (Dd.T s.ns g), .int .i64 (Dd.T s.ns k)]).run Try.prog W = .ok (.int .i64 t) W := by
    intro ts t' W
    have e : (t : Int) = (if (Dd.T s.ns k : Int) < (if (Dd.T s.ns g : Int) < (Dd.T s.ns f : Int) then (Dd.T s.ns g : Int) else (Dd.T s.ns f : Int)) then (Dd.T s.ns k : Int) else (if (Dd.T s.ns g : Int) < (Dd.T s.ns f : Int) then (Dd.T s.ns g : Int) else (Dd.T s.ns f : Int))) := by
      repeat' split
      all_goals omega
    rw [e]
    exact run_min_int3 _ _ _ _ _ _ _ _ _
  have HT : Hid (t = min (Dd.T s.ns f) (min (Dd.T s.ns g) (Dd.T s.ns k))) := ht
  clear ht
  go_enter Try.func35, Try.ntmps35
  go_wp2_with fail
  go_quiet (fail)
  go_wp2_with fail
  go_quiet (fail)
  go_wp2_with fail
  generalize hW : World.drewN (w.alloc (Obj.cells #[Value.int IntKind.i64 ↑f, Value.int IntKind.i64 ↑g, Value.int IntKind.i64 ↑k] 81)) _ = W
  have hBW : Below w.heap.size w W := by rw [← hW]; exact below_drewN ((Below.refl _ _).alloc (Nat.le_refl _) _) _
  have K0 : Key w W s s f g k := ⟨h.below hBW, More.refl _ _, Fr.of_below hBW _, by rw [← hW]; exact heap_alloc_new w _⟩
  have htf : t ≤ Dd.T s.ns f := by have := HT.out; omega
  have htg : t ≤ Dd.T s.ns g := by have := HT.out; omega
  have htk : t ≤ Dd.T s.ns k := by have := HT.out; omega
  have htv : t < s.vars := by have := h.wf.nd f hf2 hf; omega
  have hmt : s.vars - t ≤ m + 1 := by have := HT.out; omega
  clear hW hBW c4 c2 nf ng nk hlk hmin3 hq hm
  refine (half_any W s K0.store f t false hf).mono ?_
  rintro e W1 ⟨rfl, hb1⟩
  have K1 := K0.below hb1
  clear hb1 K0
  go_wp2_with fail
  refine (half_any W1 s K1.store g t false hg).mono ?_
  rintro e W2 ⟨rfl, hb1⟩
  have K2 := K1.below hb1
  clear hb1 K1
  go_wp2_with fail
  refine (half_any W2 s K2.store k t false hk).mono ?_
  rintro e W3 ⟨rfl, hb1⟩
  have K3 := K2.below hb1
  clear hb1 K2
  go_wp2_with fail
  have q1 := Dd.half_T (b := false) h.wf hf htf htv
  have q2 := Dd.half_T (b := false) h.wf hg htg htv
  have q3 := Dd.half_T (b := false) h.wf hk htk htv
  refine (ih _ _ _ W3 s K3.store (Dd.half_lt h.wf hf) (Dd.half_lt h.wf hg) (Dd.half_lt h.wf hk) (by omega)).mono ?_
  rintro e W4 ⟨r, er, s1, rfl, hS1, hM1, hF1, hr, hcnt, hor⟩
  have K4 := K3.step hS1 hM1 hF1
  have hv1 := hM1.vars
  have hbd1 := hM1.budget
  have hp1 : 2 ^ (s.vars - min (Dd.T s.ns (Dd.half s.ns f t false)) (min (Dd.T s.ns (Dd.half s.ns g t false)) (Dd.T s.ns (Dd.half s.ns k t false)))) ≤ 2 ^ (s.vars - t - 1) := Nat.pow_le_pow_right (by omega) (by omega)
  have hp : 2 ^ (s.vars - t) = 2 * 2 ^ (s.vars - t - 1) := pow_half (by omega)
  have HC : Hid (s1.ns.length + 1 ≤ s.ns.length + 2 ^ (s.vars - t - 1)) := by show _ ≤ _; omega
  have HP : Hid (2 ^ (s.vars - t) = 2 * 2 ^ (s.vars - t - 1)) := hp
  have HV : Hid (s1.vars = s.vars) := hv1
  have HB : Hid (s1.budget = s.budget) := hbd1
  clear hcnt hp1 hp K3 hv1 hbd1
  rcases hor with ⟨rfl, hT1, hd1⟩ | ⟨rfl, rfl, hfull⟩
  · go_wp2_with fail
    have l1 := hM1.len
    have HH := half_any W4 s1 K4.store f t true (by omega)
    rw [K4.more.sb] at HH
    refine HH.mono ?_
    clear HH
    rintro e W5 ⟨rfl, hb1⟩
    have K5 := K4.below hb1
    clear hb1 K4
    go_wp2_with fail
    have HH := half_any W5 s1 K5.store g t true (by omega)
    rw [K5.more.sb] at HH
    refine HH.mono ?_
    clear HH
    rintro e W6 ⟨rfl, hb1⟩
    have K6 := K5.below hb1
    clear hb1 K5
    go_wp2_with fail
    have HH := half_any W6 s1 K6.store k t true (by omega)
    rw [K6.more.sb] at HH
    refine HH.mono ?_
    clear HH
    rintro e W7 ⟨rfl, hb1⟩
    have K7 := K6.below hb1
    clear hb1 K6
    go_wp2_with fail
    have q4 := Dd.half_T (b := true) h.wf hf htf htv
    have q5 := Dd.half_T (b := true) h.wf hg htg htv
    have q6 := Dd.half_T (b := true) h.wf hk htk htv
    have p4 := Dd.half_lt (b := true) (t := t) h.wf hf
    have p5 := Dd.half_lt (b := true) (t := t) h.wf hg
    have p6 := Dd.half_lt (b := true) (t := t) h.wf hk
    have HH := ih (Dd.half s1.ns f t true) (Dd.half s1.ns g t true) (Dd.half s1.ns k t true) W7 s1 K7.store
      (by rw [hM1.half hf]; omega) (by rw [hM1.half hg]; omega) (by rw [hM1.half hk]; omega)
      (by rw [hM1.half hf, hM1.half hg, hM1.half hk, hM1.T p4, hM1.T p5, hM1.T p6, HV.out]; omega)
    rw [K7.more.sb] at HH
    refine HH.mono ?_
    clear HH
    rintro e W8 ⟨r2, er, s2, rfl, hS2, hM2, hF2, hr2, hcnt, hor⟩
    rw [hM1.half hf, hM1.half hg, hM1.half hk, hM1.T p4, hM1.T p5, hM1.T p6, HV.out] at hcnt
    have K8 := K7.step hS2 hM2 hF2
    have hp1 : 2 ^ (s.vars - min (Dd.T s.ns (Dd.half s.ns f t true)) (min (Dd.T s.ns (Dd.half s.ns g t true)) (Dd.T s.ns (Dd.half s.ns k t true)))) ≤ 2 ^ (s.vars - t - 1) := Nat.pow_le_pow_right (by omega) (by omega)
    have HC2 : Hid (s2.ns.length + 1 ≤ s1.ns.length + 2 ^ (s.vars - t - 1)) := by show _ ≤ _; omega
    have HV2 : Hid (s2.vars = s.vars) := hM2.vars.trans HV.out
    have HB2 : Hid (s2.budget = s.budget) := hM2.budget.trans HB.out
    have l2 := hM2.len
    clear hcnt hp1 K7
    rcases hor with ⟨rfl, hT2, hd2⟩ | ⟨rfl, rfl, hfull⟩
    · rw [hM1.half hf, hM1.half hg, hM1.half hk, hM1.T p4, hM1.T p5, hM1.T p6] at hT2
      have T1 : t < Dd.T s2.ns r := by rw [hM2.T hr]; omega
      have T2 : t < Dd.T s2.ns r2 := by omega
      go_wp2_with fail
      have HH := node_any W8 s2 K8.store t r r2 (by omega) hr2 (by rw [HV2.out]; exact htv) T1 T2
      rw [K8.more.sb] at HH
      refine HH.mono ?_
      clear HH
      rintro e W9 ⟨r3, er, s3, rfl, hS3, hM3, hF3, hcnt, hr3, hor⟩
      have K9 := K8.step hS3 hM3 hF3
      have l3 := hM3.len
      have HC3 : Hid (s3.ns.length + 1 ≤ s.ns.length + 2 ^ (s.vars - t)) := by
        show _ ≤ _
        have h1 := HC.out; have h2 := HC2.out; have h3 := HP.out; omega
      clear K8 hcnt
      rcases hor with ⟨rfl, hT3, hd3⟩ | ⟨rfl, rfl, hfull⟩
      · have hmin : min (Dd.T s3.ns f) (min (Dd.T s3.ns g) (Dd.T s3.ns k)) ≤ Dd.T s3.ns r3 := by
          rw [K9.more.T hf, K9.more.T hg, K9.more.T hk, ← HT.out]; exact hT3
        have hsem : ∀ env, Dd.den s3.ns env r3 = if Dd.den s3.ns env f then Dd.den s3.ns env g else Dd.den s3.ns env k := by
          intro env
          rw [hd3 env, hM2.den hS1 hS2 env hr, hd1 env, hd2 env, hM1.half hf, hM1.half hg, hM1.half hk, hM1.den h hS1 env p4, hM1.den h hS1 env p5, hM1.den h hS1 env p6,
            K9.more.den h hS3 env hf, K9.more.den h hS3 env hg, K9.more.den h hS3 env hk]
          exact ite_sem h.wf hf hg hk htf htg htk htv env
        have c4 := hS3.c4
        rw [K9.more.sb] at c4
        have k0 : W9.cell? ⟨w.heap.size, 0, none⟩ = some (.int .i64 f) := by simp [World.cell?, K9.key]
        have k1 : W9.cell? ⟨w.heap.size, 1, none⟩ = some (.int .i64 g) := by simp [World.cell?, K9.key]
        have k2 : W9.cell? ⟨w.heap.size, 2, none⟩ = some (.int .i64 k) := by simp [World.cell?, K9.key]
        go_wp2_with fail
        go_still_tail 6, (by kernel_rfl)
        refine wpList_update_is rfl _ _ _ _ rfl keyTriple Try.underlying62 hS3.ites rfl (f, g, k) r3 rfl rfl ?_
        intro W10 hm10 hg10
        obtain ⟨hS, hM, hF⟩ := hS3.knows hm10 ⟨hg10.os, hg10.tape, hg10.output, hg10.size, hg10.block⟩ (by show f < _; omega) (by show g < _; omega) (by show k < _; omega) hr3 hmin hsem
        have K10 := K9.step hS hM hF
        clear c4 k0 k1 k2
        go_wp2_with fail
        go_ret2
        refine ⟨r3, 0, _, rfl, hS, K10.more, K10.fr, hr3, ?_, Or.inl ⟨rfl, ?_, fun env => ?_⟩⟩
        · rw [← HT.out]; exact HC3.out
        · rw [← HT.out]; exact hT3
        · refine (hsem env).trans ?_
          rw [K9.more.den h hS3 env hf, K9.more.den h hS3 env hg, K9.more.den h hS3 env hk]
      · have HF : Hid (s2.ns.length = s2.budget) := hfull
        clear hfull
        go_wp2_with fail
        go_ret2
        refine ⟨0, 18, s3, rfl, hS3, K9.more, K9.fr, by omega, ?_, Or.inr ⟨rfl, rfl, ?_⟩⟩
        · rw [← HT.out]; exact HC3.out
        · have h1 := HF.out; have h2 := HB2.out; have h3 := hS3.room; have h4 := hM3.budget; omega
    · have HF : Hid (s2.ns.length = s1.budget) := hfull
      clear hfull
      go_wp2_with fail
      go_ret2
      refine ⟨0, 18, s2, rfl, hS2, K8.more, K8.fr, by omega, ?_, Or.inr ⟨rfl, rfl, HF.out.trans HB.out⟩⟩
      rw [← HT.out, HP.out]; have h1 := HC.out; have h2 := HC2.out; omega
  · have HF : Hid (s1.ns.length = s.budget) := hfull
    clear hfull
    go_wp2_with fail
    go_ret2
    refine ⟨0, 18, s1, rfl, hS1, K4.more, K4.fr, by omega, ?_, Or.inr ⟨rfl, rfl, HF.out⟩⟩
    rw [← HT.out, HP.out]; have := HC.out; omega

theorem ite_any : ∀ (m f g k : Nat) (w : World) (s : St), StoreAt w s → f < s.ns.length → g < s.ns.length → k < s.ns.length → s.vars - min (Dd.T s.ns f) (min (Dd.T s.ns g) (Dd.T s.ns k)) ≤ m →
      Calls Try.prog 35 #[.pointer (some ⟨s.sb, 0, none⟩), .int .i64 f, .int .i64 g, .int .i64 k] w (ItePost w s f g k) := by
  intro m
  have base : ∀ (f g k : Nat) (w : World) (s : St), StoreAt w s → f < s.ns.length → g < s.ns.length → k < s.ns.length → f ≤ 1 →
      Calls Try.prog 35 #[.pointer (some ⟨s.sb, 0, none⟩), .int .i64 f, .int .i64 g, .int .i64 k] w (ItePost w s f g k) := by
    intro f g k w s h hf hg hk hf1
    have pos : 0 < 2 ^ (s.vars - min (Dd.T s.ns f) (min (Dd.T s.ns g) (Dd.T s.ns k))) := Nat.pow_pos (by omega)
    have : f = 0 ∨ f = 1 := by omega
    rcases this with rfl | rfl
    · refine (ite_zero w s h g k).mono ?_
      rintro _ w' ⟨rfl, rfl⟩
      exact ⟨k, 0, s, rfl, h, More.refl _ _, Fr.refl _ _, hk, by omega, Or.inl ⟨rfl, by omega, fun env => by rw [Dd.den_zero]; simp⟩⟩
    · refine (ite_one w s h g k).mono ?_
      rintro _ w' ⟨rfl, rfl⟩
      exact ⟨g, 0, s, rfl, h, More.refl _ _, Fr.refl _ _, hg, by omega, Or.inl ⟨rfl, by omega, fun env => by rw [Dd.den_one]; simp⟩⟩
  have same : ∀ (f g : Nat) (w : World) (s : St), StoreAt w s → f < s.ns.length → g < s.ns.length → 2 ≤ f →
      Calls Try.prog 35 #[.pointer (some ⟨s.sb, 0, none⟩), .int .i64 f, .int .i64 g, .int .i64 g] w (ItePost w s f g g) := by
    intro f g w s h hf hg hf2
    have pos : 0 < 2 ^ (s.vars - min (Dd.T s.ns f) (min (Dd.T s.ns g) (Dd.T s.ns g))) := Nat.pow_pos (by omega)
    refine (ite_same w s h f g hf2).mono ?_
    rintro _ w' ⟨rfl, rfl⟩
    exact ⟨g, 0, s, rfl, h, More.refl _ _, Fr.refl _ _, hg, by omega, Or.inl ⟨rfl, by omega, fun env => by simp⟩⟩
  have hit : ∀ (f g k n : Nat) (w : World) (s : St), StoreAt w s → f < s.ns.length → g < s.ns.length → k < s.ns.length → 2 ≤ f → g ≠ k → look (f, g, k) s.ites = some n →
      Calls Try.prog 35 #[.pointer (some ⟨s.sb, 0, none⟩), .int .i64 f, .int .i64 g, .int .i64 k] w (ItePost w s f g k) := by
    intro f g k n w s h hf hg hk hf2 hgk hq
    have pos : 0 < 2 ^ (s.vars - min (Dd.T s.ns f) (min (Dd.T s.ns g) (Dd.T s.ns k))) := Nat.pow_pos (by omega)
    obtain ⟨b1, b2, b3, b4, b5, b6⟩ := h.memo _ _ (look_mem hq)
    refine (ite_hit w s h f g k n hf2 hgk hq).mono ?_
    rintro _ w' ⟨rfl, hb⟩
    exact ⟨n, 0, s, rfl, h.below hb, More.refl _ _, Fr.of_below hb _, b4, by omega, Or.inl ⟨rfl, b5, b6⟩⟩
  induction m with
  | zero =>
    intro f g k w s h hf hg hk hm
    by_cases hf1 : f ≤ 1
    · exact base f g k w s h hf hg hk hf1
    · have := h.wf.nd f (by omega) hf; omega
  | succ m ih =>
    intro f g k w s h hf hg hk hm
    by_cases hf1 : f ≤ 1
    · exact base f g k w s h hf hg hk hf1
    · by_cases hgk : g = k
      · subst hgk; exact same f g w s h hf hg (by omega)
      · rcases hq : look (f, g, k) s.ites with _ | n
        · exact ite_rec m ih w s h f g k (by omega) hgk hq hf hg hk hm
        · exact hit f g k n w s h hf hg hk (by omega) hgk hq
end Go.Proofs.Ytehknmcoccikhaa
