/- Walks: Restrict, its recursion. -/
import Derived.Test.YtehknmcoccikhaaWi
namespace Go.Proofs.Ytehknmcoccikhaa
open Go.RowKit

set_option maxHeartbeats 1000000 in
theorem down_rec (m c1 c2 c3 c4 c5 db i : Nat) (b : Bool)
    (ih : ∀ (f : Nat) (w : World) (s : St) (l : List (Int × Int)), f < m → CloR w s c1 c2 c3 c4 c5 db l i b → f < s.ns.length →
      Calls Try.prog 36 #[.int .i64 f, .pointer (some ⟨c1, 0, none⟩), .pointer (some ⟨c2, 0, none⟩), .pointer (some ⟨c3, 0, none⟩), .pointer (some ⟨c4, 0, none⟩), .pointer (some ⟨c5, 0, none⟩)] w (DownPost w s c1 c2 c3 c4 c5 db i b f))
    (w : World) (s : St) (l : List (Int × Int)) (h : CloR w s c1 c2 c3 c4 c5 db l i b) (f : Nat) (hf : f < s.ns.length) (hfm : f < m + 1) (ht : Dd.T s.ns f < i) (hq : look (f : Int) l = none) :
    Calls Try.prog 36 #[.int .i64 f, .pointer (some ⟨c1, 0, none⟩), .pointer (some ⟨c2, 0, none⟩), .pointer (some ⟨c3, 0, none⟩), .pointer (some ⟨c4, 0, none⟩), .pointer (some ⟨c5, 0, none⟩)] w
      (DownPost w s c1 c2 c3 c4 c5 db i b f) := by
  have hlk := downMap h.map f (.cells #[.int .i64 (Dd.T s.ns f), .int .i64 (Dd.L s.ns f), .int .i64 (Dd.H s.ns f)] 59)
  rw [hq] at hlk
  simp only [Option.map_none, Option.getD_none, Option.isSome_none, kI] at hlk
  have hiv := h.iv
  have h2 : 2 ≤ f := by
    rcases Nat.lt_or_ge f 2 with hlt | hge
    · have := Dd.T_const h.store.wf (f := f) (by omega); omega
    · exact hge
  obtain ⟨hLH, hL, hH, hT, hTL, hTH⟩ := h.store.wf.nd f h2 hf
  have hlen := h.store.len
  have c2' := h.store.c2
  have p1 := cell_of_one h.p.here
  have d1 := cell_of_one h.d.here
  have i1 := cell_of_one h.ii.here
  have f1 := cell_of_one h.fn.here
  have n0 := h.store.n0 hf
  have n1 := h.store.n1 hf
  have n2 := h.store.n2 hf
  have l1 := h.p.lt
  have l2 := h.d.lt
  have l3 := h.ii.lt
  have l5 := h.fn.lt
  have l6 := h.map.lt
  have hBa : Below w.heap.size w (w.alloc (.cells #[.int .i64 (Dd.T s.ns f), .int .i64 (Dd.L s.ns f), .int .i64 (Dd.H s.ns f)] 59)) := (Below.refl _ _).alloc (Nat.le_refl _) _
  have e2 : ((Dd.T s.ns f : Int) == (i : Int)) = false := by simp; omega
  have K0 : Held (w.alloc (.cells #[.int .i64 (Dd.T s.ns f), .int .i64 (Dd.L s.ns f), .int .i64 (Dd.H s.ns f)] 59)) s w.heap.size (.cells #[.int .i64 (Dd.T s.ns f), .int .i64 (Dd.L s.ns f), .int .i64 (Dd.H s.ns f)] 59 (0, 0)) :=
    ⟨heap_alloc_new w _, bl_new h.store (Nat.le_refl _)⟩
  have C0 := h.below hBa
  have F0 := Fr.of_below hBa (fun k => s.bl k ∨ k = db)
  have hdbx : db ≠ w.heap.size := by omega
  go_enter Try.func36, Try.ntmps36
  go_wp2_with fail
  generalize w.alloc (.cells #[.int .i64 (Dd.T s.ns f), .int .i64 (Dd.L s.ns f), .int .i64 (Dd.H s.ns f)] 59) = W0 at C0 F0 K0 ⊢
  clear hlk c2' p1 d1 i1 f1 n0 n1 n2 l1 l2 l3 l5 hBa hq
  have HP : Hid (2 ^ (s.vars - Dd.T s.ns f) = 2 * 2 ^ (s.vars - Dd.T s.ns f - 1)) := pow_half (by omega)
  have HP1 : Hid (2 ^ (s.vars - Dd.T s.ns (Dd.L s.ns f)) ≤ 2 ^ (s.vars - Dd.T s.ns f - 1)) := Nat.pow_le_pow_right (by omega) (by omega)
  have HP2 : Hid (2 ^ (s.vars - Dd.T s.ns (Dd.H s.ns f)) ≤ 2 ^ (s.vars - Dd.T s.ns f - 1)) := Nat.pow_le_pow_right (by omega) (by omega)
  refine (ih (Dd.L s.ns f) W0 s l (by omega) C0 (by omega)).mono ?_
  rintro e W1 ⟨r1, er, s1, rfl, hS1, hM1, hF1, hr1, hcn1, hor⟩
  have hM1' : More w s s1 := (More.refl w s).trans hM1 F0.size
  have F1 := F0.trans hF1 (fun _ _ q => q)
  have K1 := K0.step hM1 hF1 (by rintro (q | q); exact K0.ap q; exact hdbx q.symm)
  have HC1 : Hid (s1.ns.length + 1 ≤ s.ns.length + 2 ^ (s.vars - Dd.T s.ns f - 1)) := by show _ ≤ _; have := HP1.out; omega
  have HM1 : Hid (s1.budget = s.budget ∧ s1.vars = s.vars ∧ s.ns.length ≤ s1.ns.length) := ⟨hM1.budget, hM1.vars, hM1.len⟩
  clear hcn1
  rcases hor with ⟨rfl, ⟨l1, C1⟩, hT1, hd1⟩ | ⟨rfl, rfl, hfull⟩
  · have f1 := cell_of_one C1.fn.here
    have k2 : W1.cell? ⟨w.heap.size, 2, none⟩ = some (.int .i64 (Dd.H s.ns f)) := by simp [World.cell?, K1.here]
    go_wp2_with fail
    have hHH : Dd.H s.ns f < s1.ns.length := by have := HM1.out.2.2; omega
    refine (ih (Dd.H s.ns f) W1 s1 l1 (by omega) C1 hHH).mono ?_
    rintro e W2 ⟨r2, er, s2, rfl, hS2, hM2, hF2, hr2, hcn2, hor⟩
    rw [HM1.out.2.1, hM1.T (show Dd.H s.ns f < s.ns.length by omega)] at hcn2
    have hM2' : More w s s2 := hM1'.trans hM2 F1.size
    have F2 : Fr (fun k => s.bl k ∨ k = db) w W2 := F1.trans hF2 (fun k hk q => q.imp (hM1'.bl k hk) id)
    have K2 := K1.step hM2 hF2 (by rintro (q | q); exact K1.ap q; exact hdbx q.symm)
    have HC2 : Hid (s2.ns.length + 1 ≤ s1.ns.length + 2 ^ (s.vars - Dd.T s.ns f - 1)) := by show _ ≤ _; have := HP2.out; omega
    have HM2 : Hid (s2.budget = s.budget ∧ s2.vars = s.vars ∧ s1.ns.length ≤ s2.ns.length) := ⟨hM2.budget.trans HM1.out.1, hM2.vars.trans HM1.out.2.1, hM2.len⟩
    clear hcn2 f1 k2
    rcases hor with ⟨rfl, ⟨l2, C2⟩, hT2, hd2⟩ | ⟨rfl, rfl, hfull⟩
    · have p1 := cell_of_one C2.p.here
      rw [hM2'.sb] at p1
      have k0 : W2.cell? ⟨w.heap.size, 0, none⟩ = some (.int .i64 (Dd.T s.ns f)) := by simp [World.cell?, K2.here]
      go_wp2_with fail
      have q1 : Dd.T s.ns f < Dd.T s2.ns r1 := by rw [hM2.T hr1]; omega
      have q2 : Dd.T s.ns f < Dd.T s2.ns r2 := by rw [hM1.T (show Dd.H s.ns f < s.ns.length by omega)] at hT2; omega
      have HH := node_any W2 s2 hS2 (Dd.T s.ns f) r1 r2 (by have := HM2.out.2.2; omega) hr2 (by rw [HM2.out.2.1]; exact hT) q1 q2
      rw [hM2'.sb] at HH
      refine HH.mono ?_
      clear HH
      rintro e W3 ⟨r3, er, s3, rfl, hS3, hM3, hF3, hcn3, hr3, hor⟩
      have hM3' : More w s s3 := hM2'.trans hM3 F2.size
      have C3 := C2.step hS3 hM3 hF3
      have F3 : Fr (fun k => s.bl k ∨ k = db) w W3 := F2.trans hF3 (fun k hk q => Or.inl (hM2'.bl k hk q))
      have HC3 : Hid (s3.ns.length + 1 ≤ s.ns.length + 2 ^ (s.vars - Dd.T s.ns f)) := by
        show _ ≤ _
        have h1 := HC1.out; have h2 := HC2.out; have h3 := HP.out; omega
      have HOR : Hid ((er = 0 ∧ Dd.T s.ns f ≤ Dd.T s3.ns r3 ∧ ∀ env, Dd.den s3.ns env r3 = Dd.den s.ns (Dd.upd env i b) f) ∨ (er = 18 ∧ r3 = 0 ∧ s3.ns.length = s.budget)) := by
        rcases hor with ⟨e1, e2, e3⟩ | ⟨e1, e2, e3⟩
        · refine Or.inl ⟨e1, e2, fun env => ?_⟩
          rw [e3 env, hM2.den hS1 hS2 env hr1, hd1 env, hd2 env, hM1.den C0.store hS1 _ (show Dd.H s.ns f < s.ns.length by omega), Dd.den_step h.store.wf (Dd.upd env i b) h2 hf]
          have : Dd.upd env i b (Dd.T s.ns f) = env (Dd.T s.ns f) := by unfold Dd.upd; rw [if_neg (by omega)]
          rw [this]
        · exact Or.inr ⟨e1, e2, by have a1 := HM2.out.1; have a2 := hM3.budget; have a3 := hS3.room; have a4 := hM3.len; omega⟩
      have d1 := cell_of_one C3.d.here
      clear hor hcn3 p1 k0
      go_wp2_with (refine wpList_update_is rfl _ _ _ _ rfl keyInt Try.underlying76 C3.map rfl (f : Int) (r3 : Int) rfl rfl ?_; intro W4 hm4 hg4)
      have hk4 : ∀ k, k < W3.heap.size → k ≠ db → W4.heap[k]? = W3.heap[k]? := fun k hk hn => hg4.block k hk (by simpa using hn)
      have hdb3 : ∀ {k : Nat} {o : Obj}, W3.heap[k]? = some o → (∀ es c, o ≠ .map es c) → k ≠ db := by
        rintro k o h1 h2 rfl
        obtain ⟨es, c, h3, _⟩ := C3.map
        rw [h3] at h1; simp at h1; exact h2 es c h1.symm
      have FF4 : Fr (· = db) W3 W4 := ⟨hg4.os, hg4.tape, hg4.output, hg4.size, fun k hk hn => hk4 k hk hn⟩
      have hS4 : StoreAt W4 s3 := hS3.kept fun k hk => hk4 k (hS3.lt hk) (fun q => C3.dap (q ▸ hk))
      have F4 : Fr (fun k => s.bl k ∨ k = db) w W4 := F3.trans FF4 (fun _ _ q => Or.inr q)
      have hstep : ∀ {k : Nat} {o : Obj}, Held W3 s3 k o → (∀ es c, o ≠ .map es c) → Held W4 s3 k o := fun q hq => ⟨(hk4 _ q.lt (hdb3 q.here hq)).trans q.here, q.ap⟩
      go_ret2
      refine ⟨r3, er, s3, rfl, hS4, hM3', F4, hr3, HC3.out, ?_⟩
      rcases HOR.out with ⟨e1, e2, e3⟩ | q
      · refine Or.inl ⟨e1, ⟨_, ⟨hS4, hstep C3.p (by simp), hstep C3.d (by simp), hstep C3.ii (by simp), hstep C3.bb (by simp), hstep C3.fn (by simp), hm4, C3.dap, C3.iv, ?_⟩⟩, e2, e3⟩
        intro x n hx
        rw [look_putAt] at hx
        split at hx
        · rename_i e; simp at hx
          have hf3 : f < s3.ns.length := by have := hM3'.len; omega
          exact ⟨f, r3, e.symm, hx.symm, hf3, hr3, by rw [hM3'.T hf]; exact e2, fun env => by rw [e3 env, hM3'.den h.store hS3 _ hf]⟩
        · exact C3.good x n hx
      · exact Or.inr q
    · have HF : Hid (s2.ns.length = s1.budget) := hfull
      clear hfull
      go_wp2_with fail
      go_ret2
      refine ⟨0, 18, s2, rfl, hS2, hM2', F2, by have := hS2.wf.two; omega, ?_, Or.inr ⟨rfl, rfl, HF.out.trans HM1.out.1⟩⟩
      have h1 := HC1.out; have h2 := HC2.out; have h3 := HP.out; omega
  · have HF : Hid (s1.ns.length = s.budget) := hfull
    clear hfull
    go_wp2_with fail
    go_ret2
    refine ⟨0, 18, s1, rfl, hS1, hM1', F1, by have := hS1.wf.two; omega, ?_, Or.inr ⟨rfl, rfl, HF.out⟩⟩
    have h1 := HC1.out; have h3 := HP.out; omega

theorem down_any (c1 c2 c3 c4 c5 db i : Nat) (b : Bool) : ∀ (m f : Nat) (w : World) (s : St) (l : List (Int × Int)), f < m → CloR w s c1 c2 c3 c4 c5 db l i b → f < s.ns.length →
      Calls Try.prog 36 #[.int .i64 f, .pointer (some ⟨c1, 0, none⟩), .pointer (some ⟨c2, 0, none⟩), .pointer (some ⟨c3, 0, none⟩), .pointer (some ⟨c4, 0, none⟩), .pointer (some ⟨c5, 0, none⟩)] w (DownPost w s c1 c2 c3 c4 c5 db i b f) := by
  intro m
  induction m with
  | zero => intro f w s l hf; omega
  | succ m ih =>
    intro f w s l hfm h hf
    have pos : 0 < 2 ^ (s.vars - Dd.T s.ns f) := Nat.pow_pos (by omega)
    by_cases h1 : i < Dd.T s.ns f
    · refine (down_above w s c1 c2 c3 c4 c5 db l i b h f hf h1).mono ?_
      rintro e w' ⟨rfl, hb⟩
      exact ⟨f, 0, s, rfl, h.store.below hb, More.refl _ _, Fr.of_below hb _, hf, by omega, Or.inl ⟨rfl, ⟨l, h.below hb⟩, Nat.le_refl _, fun env => (Dd.indep h.store.wf env i b f hf h1).symm⟩⟩
    · by_cases h2 : Dd.T s.ns f = i
      · refine (down_at w s c1 c2 c3 c4 c5 db l i b h f hf h2).mono ?_
        rintro e w' ⟨rfl, hb⟩
        have q := Dd.half_T (b := b) (t := i) h.store.wf hf (by omega) h.iv
        exact ⟨_, 0, s, rfl, h.store.below hb, More.refl _ _, Fr.of_below hb _, Dd.half_lt h.store.wf hf, by omega, Or.inl ⟨rfl, ⟨l, h.below hb⟩, by omega, fun env => Dd.half_den h.store.wf env hf (by omega) h.iv⟩⟩
      · rcases hq : look (f : Int) l with _ | n
        · exact down_rec m c1 c2 c3 c4 c5 db i b (fun f w s l hf h hl => ih f w s l hf h hl) w s l h f hf hfm (by omega) hq
        · obtain ⟨f', r, e1, e2, hf', hr', hT', hd'⟩ := h.good _ _ hq
          have e3 : f' = f := by omega
          subst e3
          subst e2
          refine (down_hit w s c1 c2 c3 c4 c5 db l i b h f' hf (by omega) r hq).mono ?_
          rintro e w' ⟨rfl, hb⟩
          exact ⟨r, 0, s, rfl, h.store.below hb, More.refl _ _, Fr.of_below hb _, hr', by omega, Or.inl ⟨rfl, ⟨l, h.below hb⟩, hT', hd'⟩⟩
end Go.Proofs.Ytehknmcoccikhaa
