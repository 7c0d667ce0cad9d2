/- Walk: the laws' call. -/
import Derived.Test.YtehknmcoccikhaaMb
namespace Go.Proofs.Ytehknmcoccikhaa
open Go.RowKit

set_option maxRecDepth 100000 in
set_option maxHeartbeats 8000000 in
theorem call_any (w0 w : World) (s : St) (p base : Nat) (lv : Value) (L : List Mk) (R : Run w0 w s p) (hv1 : 1 ≤ s.vars) (hv5 : s.vars ≤ 5) (M : MadeAt w s base lv L) (hL0 : 0 < L.length) (hL : L.length ≤ 1000)
    (d i f g h : Int) (b : Bool) (bi : -9223372036854775808 ≤ i ∧ i ≤ 9223372036854775807) (bf : -9223372036854775808 ≤ f ∧ f ≤ 9223372036854775807) (bg : -9223372036854775808 ≤ g ∧ g ≤ 9223372036854775807) (bh : -9223372036854775808 ≤ h ∧ h ≤ 9223372036854775807) :
    Calls Try.prog 11 #[.pointer (some ⟨p, 0, none⟩), .int .i64 s.vars, .agg #[.int .i64 d, .int .i64 i, .int .i64 f, .int .i64 g, .int .i64 h, .bool b], lv] w (CallPost w0 w s p) := by
  obtain ⟨lb, c, rfl, hlb, hln, -⟩ := M.form hL0
  have hBW : Below w.heap.size w (w.alloc (.cells #[.int .i64 d, .int .i64 i, .int .i64 f, .int .i64 g, .int .i64 h, .bool b] 37)) := (Below.refl _ _).alloc (Nat.le_refl _) _
  have O : Held (w.alloc (.cells #[.int .i64 d, .int .i64 i, .int .i64 f, .int .i64 g, .int .i64 h, .bool b] 37)) s w.heap.size (.cells #[.int .i64 d, .int .i64 i, .int .i64 f, .int .i64 g, .int .i64 h, .bool b] 37 (0, 0)) := ⟨heap_alloc_new w _, bl_new R.store (Nat.le_refl _)⟩
  obtain ⟨vars, hvv⟩ : ∃ vars, vars = s.vars := ⟨_, rfl⟩
  rw [← hvv] at hv1 hv5 ⊢
  have HVV : Hid (s.vars = vars) := hvv.symm
  clear hvv
  have R1 := R.pure hBW
  have M1 := M.below R.store hBW
  go_enter Try.func11, Try.ntmps11
  go_wp2_with fail
  generalize w.alloc (.cells #[.int .i64 d, .int .i64 i, .int .i64 f, .int .i64 g, .int .i64 h, .bool b] 37) = W1 at hBW O R1 M1 ⊢
  obtain ⟨ob, hob⟩ : ∃ ob, ob = w.heap.size := ⟨_, rfl⟩
  rw [← hob] at O ⊢
  clear R M hlb hln hob
  -- f
  refine (pick_any W1 f L.length bf.1 bf.2 (by omega)).mono ?_
  rintro e W2 ⟨k1, hk1, rfl, hW⟩
  subst hW
  obtain ⟨x, hx, mx⟩ := getD_some (show k1 < L.length by omega)
  have hc := M1.cells hx
  have hca := hc.1
  have hcb := hc.2
  have hk1' : k1 < L.length := by omega
  have og : W2.cell? ⟨ob, 3, none⟩ = some (.int .i64 g) := by simp [World.cell?, O.here]
  have olt := O.lt
  clear hc
  go_wp2_with fail
  have hB2 : Below W2.heap.size W2 (W2.alloc (.cells #[.int .i64 x.n, .slice (some ⟨x.tb, x.tof, none⟩) x.tl x.tc] 32)) := (Below.refl _ _).alloc (Nat.le_refl _) _
  have F2 : Held (W2.alloc (.cells #[.int .i64 x.n, .slice (some ⟨x.tb, x.tof, none⟩) x.tl x.tc] 32)) s W2.heap.size (mkObj x) := ⟨heap_alloc_new W2 _, bl_new R1.store (Nat.le_refl _)⟩
  have R2 := R1.pure hB2
  have M2 := M1.below R1.store hB2
  have O2 := O.below hB2
  have hBW2 := hBW.trans (hB2.mono hBW.size)
  clear R1 M1 O hBW hca hcb og olt
  generalize W2.alloc (.cells #[.int .i64 x.n, .slice (some ⟨x.tb, x.tof, none⟩) x.tl x.tc] 32) = W3 at hB2 F2 R2 M2 O2 hBW2 ⊢
  generalize W2.heap.size = fb at F2 ⊢
  clear hB2
  -- g
  refine (pick_any W3 g L.length bg.1 bg.2 (by omega)).mono ?_
  rintro e W4 ⟨k2, hk2, rfl, hW⟩
  subst hW
  obtain ⟨y, hy, my⟩ := getD_some (show k2 < L.length by omega)
  have hc := M2.cells hy
  have hca := hc.1
  have hcb := hc.2
  have hk2' : k2 < L.length := by omega
  have og : W4.cell? ⟨ob, 4, none⟩ = some (.int .i64 h) := by simp [World.cell?, O2.here]
  have olt := O2.lt
  clear hc
  go_wp2_with fail
  have hB2 : Below W4.heap.size W4 (W4.alloc (.cells #[.int .i64 y.n, .slice (some ⟨y.tb, y.tof, none⟩) y.tl y.tc] 32)) := (Below.refl _ _).alloc (Nat.le_refl _) _
  have G3 : Held (W4.alloc (.cells #[.int .i64 y.n, .slice (some ⟨y.tb, y.tof, none⟩) y.tl y.tc] 32)) s W4.heap.size (mkObj y) := ⟨heap_alloc_new W4 _, bl_new R2.store (Nat.le_refl _)⟩
  have R3 := R2.pure hB2
  have M3 := M2.below R2.store hB2
  have O3 := O2.below hB2
  have F3 := F2.below hB2
  have hBW3 := hBW2.trans (hB2.mono hBW2.size)
  clear R2 M2 O2 F2 hBW2 hca hcb og olt
  generalize W4.alloc (.cells #[.int .i64 y.n, .slice (some ⟨y.tb, y.tof, none⟩) y.tl y.tc] 32) = W5 at hB2 G3 F3 R3 M3 O3 hBW3 ⊢
  generalize W4.heap.size = gb at G3 ⊢
  clear hB2
  -- h
  refine (pick_any W5 h L.length bh.1 bh.2 (by omega)).mono ?_
  rintro e W6 ⟨k3, hk3, rfl, hW⟩
  subst hW
  obtain ⟨z, hz, mz⟩ := getD_some (show k3 < L.length by omega)
  have hc := M3.cells hz
  have hca := hc.1
  have hcb := hc.2
  have hk3' : k3 < L.length := by omega
  have og : W6.cell? ⟨ob, 1, none⟩ = some (.int .i64 i) := by simp [World.cell?, O3.here]
  have olt := O3.lt
  clear hc
  go_wp2_with fail
  have hB2 : Below W6.heap.size W6 (W6.alloc (.cells #[.int .i64 z.n, .slice (some ⟨z.tb, z.tof, none⟩) z.tl z.tc] 32)) := (Below.refl _ _).alloc (Nat.le_refl _) _
  have H4 : Held (W6.alloc (.cells #[.int .i64 z.n, .slice (some ⟨z.tb, z.tof, none⟩) z.tl z.tc] 32)) s W6.heap.size (mkObj z) := ⟨heap_alloc_new W6 _, bl_new R3.store (Nat.le_refl _)⟩
  have R4 := R3.pure hB2
  have M4 := M3.below R3.store hB2
  have O4 := O3.below hB2
  have F4 := F3.below hB2
  have G4 := G3.below hB2
  have hBW4 := hBW3.trans (hB2.mono hBW3.size)
  clear R3 M3 O3 F3 G3 hBW3 hca hcb og olt
  generalize W6.alloc (.cells #[.int .i64 z.n, .slice (some ⟨z.tb, z.tof, none⟩) z.tl z.tc] 32) = W7 at hB2 H4 G4 F4 R4 M4 O4 hBW4 ⊢
  generalize W6.heap.size = hb at H4 ⊢
  clear hB2
  -- i
  refine (pick_any W7 i vars bi.1 bi.2 (by omega)).mono ?_
  rintro e W8 ⟨k, hk, rfl, hW⟩
  subst hW
  have hk' : k < vars := by omega
  clear hk
  go_wp2_with fail
  refine (tConst (vars := vars) W8 false hv5).mono ?_
  rintro e W9 ⟨vn, rfl, hN, hb9, hn9⟩
  go_wp2_with fail
  refine (tConst (vars := vars) W9 true hv5).mono ?_
  rintro e W ⟨vy, rfl, hY, hb10, hn10⟩
  have bb : Below W8.heap.size W8 W := hb9.trans (hb10.mono hb9.size)
  have hm : ∀ u, u ∈ L → Fun s u.n u.φ ∧ (SlBools W u.t (tab vars u.φ) ∧ Apart s u.t) := fun u hu => by
    have q := (M4.below R4.store bb).all u hu
    rw [HVV.out] at q
    exact ⟨q.1, q.2⟩
  have hap : ∀ {v : Value} {W1 : World}, StoreAt W1 s → (∀ k, v.ownBlock = some k → W1.heap.size ≤ k) → Apart s v := fun hS hn k hk => bl_new hS (hn k hk)
  have G : Got w0 W s vars p ob fb gb hb x y z vn vy d i f g h b :=
    ⟨R4.pure bb, HVV.out, O4.below bb, F4.below bb, G4.below bb, H4.below bb, (hm x mx).1, (hm y my).1, (hm z mz).1, (hm x mx).2, (hm y my).2, (hm z mz).2,
      ⟨hN.below hb10, hap R4.store hn9⟩, ⟨hY, hap (R4.pure hb9).store hn10⟩⟩
  have BW : Below w.heap.size w W := hBW4.trans (bb.mono hBW4.size)
  clear hm hap hN hn9 hY hn10 hb9 hb10 bb R4 M4 O4 F4 G4 H4 hBW4 mx my mz hx hy hz hk1 hk2 hk3 hk1' hk2' hk3' bi bf bg bh hL hL0
  have o0 := G.o0
  have olt := G.o.lt
  have flt := G.f.lt
  have glt := G.g.lt
  have hlt := G.h.lt
  have f0 := mk0 G.f
  have g0 := mk0 G.g
  have h0 := mk0 G.h
  by_cases d0 : d = 0
  · subst d0
    go_wp2_with fail
    refine (G.callVar k hk').mono ?_
    rintro e w1 ⟨r, er, s', rfl, hS, hM, hF, hr, hc, hor⟩
    have G1 := G.step hS hM hF
    clear o0 olt flt glt hlt f0 g0 h0
    go_wp2_with fail
    refine (rVar_any w1 vars k (by omega) hk').mono ?_
    rintro e w2 ⟨v, rfl, hT, hb2, hnew⟩
    go_wp2_with fail
    go_ret3
    exact CallPost.of (φ := fun env => env k) G.run BW hS hM hF hr hc (by have := Nat.pow_pos (n := s.vars) (show 0 < 2 by omega); omega) hor (fun _ => rfl) hb2 (by rw [G.hv]; exact hT) hnew
  have e0 : (d == 0) = false := by simpa using d0
  have hpos : 0 < 2 ^ s.vars := Nat.pow_pos (by omega)
  by_cases d1 : d = 1
  · subst d1
    clear d0
    go_wp2_with fail
    refine (G.callIte).mono ?_
    rintro e w1 ⟨r, er, s', rfl, hS, hM, hF, hr, hc, hor⟩
    have G1 := G.step hS hM hF
    have flt := G1.f.lt
    have glt := G1.g.lt
    have hlt := G1.h.lt
    have f1 := mk1 G1.f
    have g1 := mk1 G1.g
    have h1 := mk1 G1.h
    clear o0 olt f0 g0 h0 e0
    go_wp2_with fail
    refine (tIte (vars := vars) w1 _ _ _ _ _ _ hv5 G1.tx.1 G1.ty.1 G1.tz.1).mono ?_
    rintro e w2 ⟨v, rfl, hT, hb2, hnew⟩
    go_wp2_with fail
    go_ret3
    exact CallPost.of (φ := fun env => if x.φ env then y.φ env else z.φ env) G.run BW hS hM hF hr hc (by omega) hor (fun env => by simp only [G.fx.den, G.fy.den, G.fz.den]) hb2 (by rw [G.hv]; exact hT) hnew
  have e1 : (d == 1) = false := by simpa using d1
  by_cases d2 : d = 2
  · subst d2
    clear d0 d1
    go_wp2_with fail
    refine (G.callNot).mono ?_
    rintro e w1 ⟨r, er, s', rfl, hS, hM, hF, hr, hc, hor⟩
    have G1 := G.step hS hM hF
    have flt := G1.f.lt
    have f1 := mk1 G1.f
    clear o0 olt f0 g0 h0 e0 e1 glt hlt
    go_wp2_with fail
    refine (tIte (vars := vars) w1 _ _ _ _ _ _ hv5 G1.tx.1 G1.no.1 G1.yes.1).mono ?_
    rintro e w2 ⟨v, rfl, hT, hb2, hnew⟩
    go_wp2_with fail
    go_ret3
    exact CallPost.of (φ := fun env => if x.φ env then false else true) G.run BW hS hM hF hr hc (by omega) hor (fun env => by simp only [G.fx.den]; cases x.φ env <;> decide) hb2 (by rw [G.hv]; exact hT) hnew
  have e2 : (d == 2) = false := by simpa using d2
  by_cases d3 : d = 3
  · subst d3
    clear d0 d1 d2
    go_wp2_with fail
    refine (G.callAnd).mono ?_
    rintro e w1 ⟨r, er, s', rfl, hS, hM, hF, hr, hc, hor⟩
    have G1 := G.step hS hM hF
    have flt := G1.f.lt
    have glt := G1.g.lt
    have hlt := G1.h.lt
    have f1 := mk1 G1.f
    have g1 := mk1 G1.g
    have h1 := mk1 G1.h
    clear o0 olt f0 g0 h0 e0 e1 e2
    go_wp2_with fail
    have G2 := G1.pure (Below.refl w1.heap.size w1).drew
    have HK0 := And.intro f1 (And.intro g1 h1)
    have HK1 := And.intro (mk1 G2.f) (And.intro (mk1 G2.g) (mk1 G2.h))
    go_region_held3 (fun w' => w'.cell? ⟨fb, 1, none⟩ = some (.slice (some ⟨x.tb, x.tof, none⟩) x.tl x.tc) ∧ w'.cell? ⟨gb, 1, none⟩ = some (.slice (some ⟨y.tb, y.tof, none⟩) y.tl y.tc) ∧ w'.cell? ⟨hb, 1, none⟩ = some (.slice (some ⟨z.tb, z.tof, none⟩) z.tl z.tc))
      (first | exact HK3 | exact HK2 | exact HK0 | exact HK1)
      (first
        | (go_at_call 27; refine (tIte (vars := vars) w2 _ _ _ x.φ (fun env => if y.φ env then z.φ env else false) (fun _ => false) hv5 G3.tx.1 hT1 G3.no.1).mono ?_; rintro e w3 ⟨v, rfl, hT, hb2, hnew⟩; have G4 := G3.pure hb2; have HK3 := And.intro (mk1 G4.f) (And.intro (mk1 G4.g) (mk1 G4.h)))
        | (go_at_call 27; refine (tIte (vars := vars) w1.drew _ _ _ y.φ z.φ (fun _ => false) hv5 G2.ty.1 G2.tz.1 G2.no.1).mono ?_; rintro e w2 ⟨v1, rfl, hT1, hb1, hn1⟩; have G3 := G2.pure hb1; have HK2 := And.intro (mk1 G3.f) (And.intro (mk1 G3.g) (mk1 G3.h))))
    go_wp2_with fail
    go_ret3
    exact CallPost.of (φ := fun env => if x.φ env then (if y.φ env then z.φ env else false) else false) G.run BW (hS.below ((Below.refl _ _).drew.trans hb1)) hM (hF.trans (Fr.of_below ((Below.refl _ _).drew.trans hb1) _) (fun _ _ q => q)) hr hc (by omega) hor (fun env => by simp only [List.all_cons, List.all_nil, List.any_cons, List.any_nil, G.fx.den, G.fy.den, G.fz.den]; cases x.φ env <;> cases y.φ env <;> cases z.φ env <;> decide) hb2 (by rw [G.hv]; exact hT) hnew
  have e3 : (d == 3) = false := by simpa using d3
  by_cases d4 : d = 4
  · subst d4
    clear d0 d1 d2 d3
    go_wp2_with fail
    refine (G.callOr).mono ?_
    rintro e w1 ⟨r, er, s', rfl, hS, hM, hF, hr, hc, hor⟩
    have G1 := G.step hS hM hF
    have flt := G1.f.lt
    have glt := G1.g.lt
    have hlt := G1.h.lt
    have f1 := mk1 G1.f
    have g1 := mk1 G1.g
    have h1 := mk1 G1.h
    clear o0 olt f0 g0 h0 e0 e1 e2 e3
    go_wp2_with fail
    have G2 := G1.pure (Below.refl w1.heap.size w1).drew
    have HK0 := And.intro f1 (And.intro g1 h1)
    have HK1 := And.intro (mk1 G2.f) (And.intro (mk1 G2.g) (mk1 G2.h))
    go_region_held3 (fun w' => w'.cell? ⟨fb, 1, none⟩ = some (.slice (some ⟨x.tb, x.tof, none⟩) x.tl x.tc) ∧ w'.cell? ⟨gb, 1, none⟩ = some (.slice (some ⟨y.tb, y.tof, none⟩) y.tl y.tc) ∧ w'.cell? ⟨hb, 1, none⟩ = some (.slice (some ⟨z.tb, z.tof, none⟩) z.tl z.tc))
      (first | exact HK3 | exact HK2 | exact HK0 | exact HK1)
      (first
        | (go_at_call 27; refine (tIte (vars := vars) w2 _ _ _ x.φ (fun _ => true) (fun env => if y.φ env then true else z.φ env) hv5 G3.tx.1 G3.yes.1 hT1).mono ?_; rintro e w3 ⟨v, rfl, hT, hb2, hnew⟩; have G4 := G3.pure hb2; have HK3 := And.intro (mk1 G4.f) (And.intro (mk1 G4.g) (mk1 G4.h)))
        | (go_at_call 27; refine (tIte (vars := vars) w1.drew _ _ _ y.φ (fun _ => true) z.φ hv5 G2.ty.1 G2.yes.1 G2.tz.1).mono ?_; rintro e w2 ⟨v1, rfl, hT1, hb1, hn1⟩; have G3 := G2.pure hb1; have HK2 := And.intro (mk1 G3.f) (And.intro (mk1 G3.g) (mk1 G3.h))))
    go_wp2_with fail
    go_ret3
    exact CallPost.of (φ := fun env => if x.φ env then true else (if y.φ env then true else z.φ env)) G.run BW (hS.below ((Below.refl _ _).drew.trans hb1)) hM (hF.trans (Fr.of_below ((Below.refl _ _).drew.trans hb1) _) (fun _ _ q => q)) hr hc (by omega) hor (fun env => by simp only [List.all_cons, List.all_nil, List.any_cons, List.any_nil, G.fx.den, G.fy.den, G.fz.den]; cases x.φ env <;> cases y.φ env <;> cases z.φ env <;> decide) hb2 (by rw [G.hv]; exact hT) hnew
  have e4 : (d == 4) = false := by simpa using d4
  have o5 := G.o5
  clear d0 d1 d2 d3 d4
  go_wp2_with fail
  refine (G.callRestrict k hk').mono ?_
  rintro e w1 ⟨r, er, s', rfl, hS, hM, hF, hr, hc, hor⟩
  have G1 := G.step hS hM hF
  have flt := G1.f.lt
  have olt := G1.o.lt
  have f1 := mk1 G1.f
  have o5 := G1.o5
  clear o0 f0 g0 h0 e0 e1 e2 e3 e4 glt hlt
  go_wp2_with fail
  refine (tRestrict (vars := vars) w1 _ x.φ k b hv5 hk' (by have := G.fx.congr G.run.store; rw [G.hv] at this; exact this) G1.tx.1).mono ?_
  rintro e w2 ⟨v, rfl, hT, hb2, hnew⟩
  go_wp2_with fail
  go_ret3
  exact CallPost.of (φ := fun env => x.φ (Dd.upd env k b)) G.run BW hS hM hF hr hc (by omega) hor (fun env => by simp only [G.fx.den]) hb2 (by rw [G.hv]; exact hT) hnew
end Go.Proofs.Ytehknmcoccikhaa
