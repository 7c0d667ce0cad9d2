/- Machine: what an operator of numbers makes, by the program: the walk. -/
import Derived.Deep.RegionHeld3
import Derived.Test.YtbdbhdcbdfbnnaaGreatDoorJ12
import Derived.Test.YtbdbhdcbdfbnnaaGreatDoorJ21
set_option linter.unusedVariables false
set_option linter.unusedSimpArgs false
namespace Go.Proofs.YtbdbhdcbdfbnnaaGreatDoor
open Go.RowKit
theorem opsN_not {op:Int} (h:1≤Cx.opsN op):op≠3∧op≠1∧op≠2∧op≠21∧op≠19∧op≠30∧Cx.readsN op=Cx.opsN op:=by
 have h1:=Cx.opsN_cases op
 have h2:op≠3∧op≠1∧op≠2∧op≠21∧op≠19∧op≠30:=by omega
 refine⟨h2.1,h2.2.1,h2.2.2.1,h2.2.2.2.1,h2.2.2.2.2.1,h2.2.2.2.2.2,?_⟩
 unfold Cx.readsN
 rw[if_neg (by omega),if_neg (by omega),if_neg (by omega)]
theorem made_ops {x:Cx.In} {inp r sl:List Int} {first:Bool} (h:1≤Cx.opsN x.op):Cx.madeS x inp r sl first=Cx.doS x.op (r.getD x.a.toNat 0) (if Cx.opsN x.op ≥ 2 then r.getD x.b.toNat 0 else 0) (if Cx.opsN x.op ≥ 3 then r.getD x.c.toNat 0 else 0):=by
 obtain⟨a1,a2,a3,a4,a5,a6,a7⟩:=opsN_not h
 unfold Cx.madeS
 rw[if_neg a1,if_neg (by omega),if_neg a4,if_neg a5,a7]
set_option maxRecDepth 100000 in
set_option maxHeartbeats 2000000 in
theorem do_ops1 {w : World} {mb rb : Nat} {r sl inp : List Int} {steps : Int} {vin : Value} (h : DoAt w mb rb r sl inp steps vin) (op d a b c n : Int) (hx : Cx.InOk r.length sl.length inp.length ⟨op, d, a, b, c, n⟩) (ho : Cx.opsN op = 1) (hf : ∀ y ∈ r, Cx.fits y = true) :
    Calls Tryz.prog 28 #[.pointer (some ⟨mb, 0, none⟩), .agg #[.int .i64 op, .int .i64 d, .int .i64 a, .int .i64 b, .int .i64 c, .int .i64 n], vin] w fun e w' => e = .returned (.tuple #[.int .i64 (Cx.madeS ⟨op, d, a, b, c, n⟩ inp r sl (steps == 0)).1, .int .i64 (Cx.madeS ⟨op, d, a, b, c, n⟩ inp r sl (steps == 0)).2]) ∧ Below w.heap.size w w' := by
  obtain ⟨vi, vo, vn, vr, vs, rg, sg, f, k1, k2, k3⟩ := h.ex
  obtain ⟨ia, ic, rfl, -, -⟩ := h.inp.form
  obtain ⟨ra, rc, rfl, -, hra, hrx⟩ := k2.form
  obtain ⟨a1, a2, a3, a4, a5, a6, a7⟩ := opsN_not (op := op) (by omega)
  have e3 : (op == 3) = false := by simpa using a1
  have e1 : (op == 1) = false := by simpa using a2
  have e2 : (op == 2) = false := by simpa using a3
  have e21 : (op == 21) = false := by simpa using a4
  have e19 : (op == 19) = false := by simpa using a5
  have hO : ∀ W, Calls Tryz.prog 56 #[.int .i64 op] W fun e w' => e = .returned (.int .i64 1) ∧ w' = W := fun W => by have := pOperands_any op W; rwa [ho] at this
  obtain ⟨q1, q2⟩ := hx.a (by simp only; rw [a7, ho]; decide)
  simp only at q1 q2
  obtain ⟨i0, rfl⟩ := Int.eq_ofNat_of_zero_le q1
  obtain ⟨y0, hy0⟩ : ∃ y, r[i0]? = some y := ⟨_, List.getElem?_eq_getElem (by omega)⟩
  have hq0 : i0 < r.length := by omega
  clear q1 q2
  obtain ⟨rfl, hrb⟩ := hra (fun e => by rw [e] at hy0; simp at hy0)
  have hD := fun W => pDo_any op y0 0 0 (by omega) (hf y0 (List.mem_of_getElem? hy0)) (by decide) (by decide) W
  have HR : Hid (Cx.madeS ⟨op, d, i0, b, c, n⟩ inp r sl (steps == 0) = Cx.doV op y0 0 0) := by
    show _ = _
    rw [made_ops (by simp only; omega)]
    simp only [ho, Int.toNat_natCast]
    rw [getD_of hy0, if_neg (by decide), if_neg (by decide), doS_fits (hf y0 (List.mem_of_getElem? hy0)) (by decide) (by decide)]
  obtain ⟨n', hn'⟩ : ∃ n', n' = r.length := ⟨_, rfl⟩
  have hin0 : (i0 : Int) < (n' : Int) := by omega
  rw [← hn'] at k1
  have HB := Lib.hid ((Below.refl w.heap.size w).alloc (Nat.le_refl _) (.cells #[.int .i64 op, .int .i64 d, .int .i64 i0, .int .i64 b, .int .i64 c, .int .i64 n] 70))
  have HK1 := Lib.hid k1
  have HCX0 := Lib.hid (hrx i0 y0 hy0)
  have HRB := Lib.hid hrb
  clear h hx k1 k2 k3 hra hrx a1 a2 a3 a4 a5 a6 a7 ho hf hy0 hq0 hn' hrb
  go_enter Tryz.func28, Tryz.ntmps28
  go_wp2_with fail
  have hb2 := HB.out.alloc HB.out.size (.cells #[.int .i64 0, .int .i64 0, .int .i64 0] 123)
  have hki := (Blk.new w #[.int .i64 op, .int .i64 d, .int .i64 i0, .int .i64 b, .int .i64 c, .int .i64 n] 70).below ((Below.refl (w.alloc (.cells #[.int .i64 op, .int .i64 d, .int .i64 i0, .int .i64 b, .int .i64 c, .int .i64 n] 70)).heap.size _).alloc (Nat.le_refl _) (.cells #[.int .i64 0, .int .i64 0, .int .i64 0] 123))
  have hka := Blk.new (w.alloc (.cells #[.int .i64 op, .int .i64 d, .int .i64 i0, .int .i64 b, .int .i64 c, .int .i64 n] 70)) #[.int .i64 0, .int .i64 0, .int .i64 0] 123
  have hs1 : ((w.alloc (.cells #[.int .i64 op, .int .i64 d, .int .i64 i0, .int .i64 b, .int .i64 c, .int .i64 n] 70)).alloc (.cells #[.int .i64 0, .int .i64 0, .int .i64 0] 123)).heap.size = w.heap.size + 2 := by simp
  rw [World.size_alloc] at hka
  obtain ⟨nb, hnb⟩ : ∃ nb, nb = w.heap.size := ⟨_, rfl⟩
  rw [← hnb] at hki hka hs1 ⊢
  generalize (w.alloc (.cells #[.int .i64 op, .int .i64 d, .int .i64 i0, .int .i64 b, .int .i64 c, .int .i64 n] 70)).alloc (.cells #[.int .i64 0, .int .i64 0, .int .i64 0] 123) = W1 at hb2 hki hka hs1 ⊢
  have KK : ∀ W : World, W.heap[nb]? = W1.heap[nb]? → W.cell? ⟨nb, 0, none⟩ = some (.int .i64 op) ∧ W.cell? ⟨nb, 2, none⟩ = some (.int .i64 i0) ∧ W.cell? ⟨nb, 3, none⟩ = some (.int .i64 b) ∧ W.cell? ⟨nb, 4, none⟩ = some (.int .i64 c) := fun W e => by
    have hk : Blk W nb _ _ := e.trans hki
    exact ⟨hk.c rfl, hk.c rfl, hk.c rfl, hk.c rfl⟩
  have K0 := KK W1 rfl
  have HS1 := Lib.hid hs1
  have HKA := Lib.hid hka
  have HKI := Lib.hid hki
  have HB2 := Lib.hid hb2
  have HNB := Lib.hid hnb
  have hlt : nb < W1.heap.size := hki.lt
  clear hs1 hka hki hb2 hnb
  go_region_held3 (fun w' => w'.cell? ⟨nb, 0, none⟩ = some (.int .i64 op) ∧ w'.cell? ⟨nb, 2, none⟩ = some (.int .i64 i0) ∧ w'.cell? ⟨nb, 3, none⟩ = some (.int .i64 b) ∧ w'.cell? ⟨nb, 4, none⟩ = some (.int .i64 c))
    (first | exact KK _ rfl | exact KK _ (Below.heap_alloc _ _ _ hlt))
    (first
      | (go_at_call 56
         (with_reducible refine (hO _).mono ?_)
         rintro e w2 ⟨rfl, rfl⟩))
  all_goals
    have hbW : Below W1.heap.size W1 (W1.alloc (.cells #[.int .i64 i0, .int .i64 b, .int .i64 c] 3)).drew := ((Below.refl _ _).alloc (Nat.le_refl _) _).drew
    have hks : Blk (W1.alloc (.cells #[.int .i64 i0, .int .i64 b, .int .i64 c] 3)).drew W1.heap.size #[.int .i64 i0, .int .i64 b, .int .i64 c] 3 := Blk.new W1 _ _
    generalize (W1.alloc (.cells #[.int .i64 i0, .int .i64 b, .int .i64 c] 3)).drew = W2 at hbW hks ⊢
    have B2 := below_next HB2.out hbW
    have hki := HKI.out.below hbW
    have hka := HKA.out.below hbW
    have k1 := HK1.out.below B2
    have c5 : W2.cell? ⟨mb, 5, none⟩ = some _ := k1.c rfl
    have cr0 : W2.cell? ⟨rb, 0 + i0, none⟩ = some (.int .i64 y0) := (B2.cell (p := ⟨rb, 0 + i0, none⟩) HRB.out).trans HCX0.out.1
    rw [Nat.zero_add] at cr0
    have s0 : W2.cell? ⟨W1.heap.size, 0, none⟩ = some _ := hks.c rfl
    have z0 : ∀ j, W2.frozen? ⟨nb + 1, j, none⟩ = false := fun j => by have h1 := hka; unfold Blk at h1; simp [World.frozen?, h1]
    have r0 : W2.cell? ⟨nb + 1, 0, none⟩ = some (.int .i64 0) := hka.c rfl
    have z00 := z0 0
    have HK12 := Lib.hid k1
    have HB22 := Lib.hid B2
    have HKI2 := Lib.hid hki
    have HKA2 := Lib.hid hka
    have HKS2 := Lib.hid hks
    clear hbW hks B2 hki hka k1 K0 KK z0
    go_wp2_with fail
    refine wp_loop_rounds 2 ?_
    rw [rounds_succ]
    go_wp2_with fail
    have hka0 := HKA2.out.puti 0 (.int .i64 y0)
    have hki0 := HKI2.out.other (p := nb + 1) 0 (by omega) (.int .i64 y0)
    have hks0 := HKS2.out.other (p := nb + 1) 0 (by have := HS1.out; omega) (.int .i64 y0)
    have hk10 := HK12.out.other (p := nb + 1) 0 (by have h1 := HK1.out.lt; have := HNB.out; omega) (.int .i64 y0)
    have hb0 := HB22.out.setCell (p := ⟨nb + 1, 0, none⟩) (by have := HNB.out; show w.heap.size ≤ nb + 1; omega) (.int .i64 y0)
    generalize W2.setCell ⟨nb + 1, 0, none⟩ (.int .i64 y0) = V0 at hka0 hki0 hks0 hk10 hb0 ⊢
    have g0 : V0.cell? ⟨nb + 1, 0, none⟩ = some (.int .i64 y0) := hka0.c rfl
    have g1 : V0.cell? ⟨nb + 1, 1, none⟩ = some (.int .i64 0) := hka0.c rfl
    have g2 : V0.cell? ⟨nb + 1, 2, none⟩ = some (.int .i64 0) := hka0.c rfl
    have gi : V0.cell? ⟨nb, 0, none⟩ = some (.int .i64 op) := hki0.c rfl
    have HB3 := Lib.hid hb0
    clear hka0 hki0 hks0 hk10 hb0 cr0 s0 c5 r0 z00
    rw [rounds_succ]
    go_wp2_with fail
    refine (hD _).mono ?_
    rintro e w5 ⟨rfl, hb5⟩
    have HB5 := Lib.hid (below_next HB3.out hb5)
    clear hb5
    go_wp2_with fail
    go_ret2
    rw [HR.out]
    exact ⟨rfl, HB5.out⟩
set_option maxRecDepth 100000 in
set_option maxHeartbeats 2000000 in
theorem do_ops2 {w : World} {mb rb : Nat} {r sl inp : List Int} {steps : Int} {vin : Value} (h : DoAt w mb rb r sl inp steps vin) (op d a b c n : Int) (hx : Cx.InOk r.length sl.length inp.length ⟨op, d, a, b, c, n⟩) (ho : Cx.opsN op = 2) (hf : ∀ y ∈ r, Cx.fits y = true) :
    Calls Tryz.prog 28 #[.pointer (some ⟨mb, 0, none⟩), .agg #[.int .i64 op, .int .i64 d, .int .i64 a, .int .i64 b, .int .i64 c, .int .i64 n], vin] w fun e w' => e = .returned (.tuple #[.int .i64 (Cx.madeS ⟨op, d, a, b, c, n⟩ inp r sl (steps == 0)).1, .int .i64 (Cx.madeS ⟨op, d, a, b, c, n⟩ inp r sl (steps == 0)).2]) ∧ Below w.heap.size w w' := by
  obtain ⟨vi, vo, vn, vr, vs, rg, sg, f, k1, k2, k3⟩ := h.ex
  obtain ⟨ia, ic, rfl, -, -⟩ := h.inp.form
  obtain ⟨ra, rc, rfl, -, hra, hrx⟩ := k2.form
  obtain ⟨a1, a2, a3, a4, a5, a6, a7⟩ := opsN_not (op := op) (by omega)
  have e3 : (op == 3) = false := by simpa using a1
  have e1 : (op == 1) = false := by simpa using a2
  have e2 : (op == 2) = false := by simpa using a3
  have e21 : (op == 21) = false := by simpa using a4
  have e19 : (op == 19) = false := by simpa using a5
  have hO : ∀ W, Calls Tryz.prog 56 #[.int .i64 op] W fun e w' => e = .returned (.int .i64 2) ∧ w' = W := fun W => by have := pOperands_any op W; rwa [ho] at this
  obtain ⟨q1, q2⟩ := hx.a (by simp only; rw [a7, ho]; decide)
  simp only at q1 q2
  obtain ⟨i0, rfl⟩ := Int.eq_ofNat_of_zero_le q1
  obtain ⟨y0, hy0⟩ : ∃ y, r[i0]? = some y := ⟨_, List.getElem?_eq_getElem (by omega)⟩
  have hq0 : i0 < r.length := by omega
  clear q1 q2
  obtain ⟨q1, q2⟩ := hx.b (by simp only; rw [a7, ho]; decide)
  simp only at q1 q2
  obtain ⟨i1, rfl⟩ := Int.eq_ofNat_of_zero_le q1
  obtain ⟨y1, hy1⟩ : ∃ y, r[i1]? = some y := ⟨_, List.getElem?_eq_getElem (by omega)⟩
  have hq1 : i1 < r.length := by omega
  clear q1 q2
  obtain ⟨rfl, hrb⟩ := hra (fun e => by rw [e] at hy0; simp at hy0)
  have hD := fun W => pDo_any op y0 y1 0 (by omega) (hf y0 (List.mem_of_getElem? hy0)) (hf y1 (List.mem_of_getElem? hy1)) (by decide) W
  have HR : Hid (Cx.madeS ⟨op, d, i0, i1, c, n⟩ inp r sl (steps == 0) = Cx.doV op y0 y1 0) := by
    show _ = _
    rw [made_ops (by simp only; omega)]
    simp only [ho, Int.toNat_natCast]
    rw [getD_of hy0, getD_of hy1, if_pos (by decide), if_neg (by decide), doS_fits (hf y0 (List.mem_of_getElem? hy0)) (hf y1 (List.mem_of_getElem? hy1)) (by decide)]
  obtain ⟨n', hn'⟩ : ∃ n', n' = r.length := ⟨_, rfl⟩
  have hin0 : (i0 : Int) < (n' : Int) := by omega
  have hin1 : (i1 : Int) < (n' : Int) := by omega
  rw [← hn'] at k1
  have HB := Lib.hid ((Below.refl w.heap.size w).alloc (Nat.le_refl _) (.cells #[.int .i64 op, .int .i64 d, .int .i64 i0, .int .i64 i1, .int .i64 c, .int .i64 n] 70))
  have HK1 := Lib.hid k1
  have HCX0 := Lib.hid (hrx i0 y0 hy0)
  have HCX1 := Lib.hid (hrx i1 y1 hy1)
  have HRB := Lib.hid hrb
  clear h hx k1 k2 k3 hra hrx a1 a2 a3 a4 a5 a6 a7 ho hf hy0 hq0 hy1 hq1 hn' hrb
  go_enter Tryz.func28, Tryz.ntmps28
  go_wp2_with fail
  have hb2 := HB.out.alloc HB.out.size (.cells #[.int .i64 0, .int .i64 0, .int .i64 0] 123)
  have hki := (Blk.new w #[.int .i64 op, .int .i64 d, .int .i64 i0, .int .i64 i1, .int .i64 c, .int .i64 n] 70).below ((Below.refl (w.alloc (.cells #[.int .i64 op, .int .i64 d, .int .i64 i0, .int .i64 i1, .int .i64 c, .int .i64 n] 70)).heap.size _).alloc (Nat.le_refl _) (.cells #[.int .i64 0, .int .i64 0, .int .i64 0] 123))
  have hka := Blk.new (w.alloc (.cells #[.int .i64 op, .int .i64 d, .int .i64 i0, .int .i64 i1, .int .i64 c, .int .i64 n] 70)) #[.int .i64 0, .int .i64 0, .int .i64 0] 123
  have hs1 : ((w.alloc (.cells #[.int .i64 op, .int .i64 d, .int .i64 i0, .int .i64 i1, .int .i64 c, .int .i64 n] 70)).alloc (.cells #[.int .i64 0, .int .i64 0, .int .i64 0] 123)).heap.size = w.heap.size + 2 := by simp
  rw [World.size_alloc] at hka
  obtain ⟨nb, hnb⟩ : ∃ nb, nb = w.heap.size := ⟨_, rfl⟩
  rw [← hnb] at hki hka hs1 ⊢
  generalize (w.alloc (.cells #[.int .i64 op, .int .i64 d, .int .i64 i0, .int .i64 i1, .int .i64 c, .int .i64 n] 70)).alloc (.cells #[.int .i64 0, .int .i64 0, .int .i64 0] 123) = W1 at hb2 hki hka hs1 ⊢
  have KK : ∀ W : World, W.heap[nb]? = W1.heap[nb]? → W.cell? ⟨nb, 0, none⟩ = some (.int .i64 op) ∧ W.cell? ⟨nb, 2, none⟩ = some (.int .i64 i0) ∧ W.cell? ⟨nb, 3, none⟩ = some (.int .i64 i1) ∧ W.cell? ⟨nb, 4, none⟩ = some (.int .i64 c) := fun W e => by
    have hk : Blk W nb _ _ := e.trans hki
    exact ⟨hk.c rfl, hk.c rfl, hk.c rfl, hk.c rfl⟩
  have K0 := KK W1 rfl
  have HS1 := Lib.hid hs1
  have HKA := Lib.hid hka
  have HKI := Lib.hid hki
  have HB2 := Lib.hid hb2
  have HNB := Lib.hid hnb
  have hlt : nb < W1.heap.size := hki.lt
  clear hs1 hka hki hb2 hnb
  go_region_held3 (fun w' => w'.cell? ⟨nb, 0, none⟩ = some (.int .i64 op) ∧ w'.cell? ⟨nb, 2, none⟩ = some (.int .i64 i0) ∧ w'.cell? ⟨nb, 3, none⟩ = some (.int .i64 i1) ∧ w'.cell? ⟨nb, 4, none⟩ = some (.int .i64 c))
    (first | exact KK _ rfl | exact KK _ (Below.heap_alloc _ _ _ hlt))
    (first
      | (go_at_call 56
         (with_reducible refine (hO _).mono ?_)
         rintro e w2 ⟨rfl, rfl⟩))
  all_goals
    have hbW : Below W1.heap.size W1 (W1.alloc (.cells #[.int .i64 i0, .int .i64 i1, .int .i64 c] 3)).drew := ((Below.refl _ _).alloc (Nat.le_refl _) _).drew
    have hks : Blk (W1.alloc (.cells #[.int .i64 i0, .int .i64 i1, .int .i64 c] 3)).drew W1.heap.size #[.int .i64 i0, .int .i64 i1, .int .i64 c] 3 := Blk.new W1 _ _
    generalize (W1.alloc (.cells #[.int .i64 i0, .int .i64 i1, .int .i64 c] 3)).drew = W2 at hbW hks ⊢
    have B2 := below_next HB2.out hbW
    have hki := HKI.out.below hbW
    have hka := HKA.out.below hbW
    have k1 := HK1.out.below B2
    have c5 : W2.cell? ⟨mb, 5, none⟩ = some _ := k1.c rfl
    have cr0 : W2.cell? ⟨rb, 0 + i0, none⟩ = some (.int .i64 y0) := (B2.cell (p := ⟨rb, 0 + i0, none⟩) HRB.out).trans HCX0.out.1
    rw [Nat.zero_add] at cr0
    have s0 : W2.cell? ⟨W1.heap.size, 0, none⟩ = some _ := hks.c rfl
    have cr1 : W2.cell? ⟨rb, 0 + i1, none⟩ = some (.int .i64 y1) := (B2.cell (p := ⟨rb, 0 + i1, none⟩) HRB.out).trans HCX1.out.1
    rw [Nat.zero_add] at cr1
    have s1 : W2.cell? ⟨W1.heap.size, 1, none⟩ = some _ := hks.c rfl
    have z0 : ∀ j, W2.frozen? ⟨nb + 1, j, none⟩ = false := fun j => by have h1 := hka; unfold Blk at h1; simp [World.frozen?, h1]
    have r0 : W2.cell? ⟨nb + 1, 0, none⟩ = some (.int .i64 0) := hka.c rfl
    have z00 := z0 0
    have HK12 := Lib.hid k1
    have HB22 := Lib.hid B2
    have HKI2 := Lib.hid hki
    have HKA2 := Lib.hid hka
    have HKS2 := Lib.hid hks
    clear hbW hks B2 hki hka k1 K0 KK z0
    go_wp2_with fail
    refine wp_loop_rounds 3 ?_
    rw [rounds_succ]
    go_wp2_with fail
    have hka0 := HKA2.out.puti 0 (.int .i64 y0)
    have hki0 := HKI2.out.other (p := nb + 1) 0 (by omega) (.int .i64 y0)
    have hks0 := HKS2.out.other (p := nb + 1) 0 (by have := HS1.out; omega) (.int .i64 y0)
    have hk10 := HK12.out.other (p := nb + 1) 0 (by have h1 := HK1.out.lt; have := HNB.out; omega) (.int .i64 y0)
    have hb0 := HB22.out.setCell (p := ⟨nb + 1, 0, none⟩) (by have := HNB.out; show w.heap.size ≤ nb + 1; omega) (.int .i64 y0)
    generalize W2.setCell ⟨nb + 1, 0, none⟩ (.int .i64 y0) = V0 at hka0 hki0 hks0 hk10 hb0 ⊢
    clear cr0 s0 cr1 s1 c5 r0 z00
    have c5 : V0.cell? ⟨mb, 5, none⟩ = some _ := hk10.c rfl
    have cr1 : V0.cell? ⟨rb, 0 + i1, none⟩ = some (.int .i64 y1) := (hb0.cell (p := ⟨rb, 0 + i1, none⟩) HRB.out).trans HCX1.out.1
    rw [Nat.zero_add] at cr1
    have s1 : V0.cell? ⟨W1.heap.size, 1, none⟩ = some _ := hks0.c rfl
    have r0 : V0.cell? ⟨nb + 1, 1, none⟩ = some (.int .i64 0) := hka0.c rfl
    have z00 : V0.frozen? ⟨nb + 1, 1, none⟩ = false := hka0.z (v := .int .i64 0) rfl
    have HKA20 := Lib.hid hka0
    have HKI20 := Lib.hid hki0
    have HKS20 := Lib.hid hks0
    have HK120 := Lib.hid hk10
    have HB220 := Lib.hid hb0
    clear hka0 hki0 hks0 hk10 hb0
    rw [rounds_succ]
    go_wp2_with fail
    have hka1 := HKA20.out.puti 1 (.int .i64 y1)
    have hki1 := HKI20.out.other (p := nb + 1) 1 (by omega) (.int .i64 y1)
    have hks1 := HKS20.out.other (p := nb + 1) 1 (by have := HS1.out; omega) (.int .i64 y1)
    have hk11 := HK120.out.other (p := nb + 1) 1 (by have h1 := HK1.out.lt; have := HNB.out; omega) (.int .i64 y1)
    have hb1 := HB220.out.setCell (p := ⟨nb + 1, 1, none⟩) (by have := HNB.out; show w.heap.size ≤ nb + 1; omega) (.int .i64 y1)
    generalize V0.setCell ⟨nb + 1, 1, none⟩ (.int .i64 y1) = V1 at hka1 hki1 hks1 hk11 hb1 ⊢
    have g0 : V1.cell? ⟨nb + 1, 0, none⟩ = some (.int .i64 y0) := hka1.c rfl
    have g1 : V1.cell? ⟨nb + 1, 1, none⟩ = some (.int .i64 y1) := hka1.c rfl
    have g2 : V1.cell? ⟨nb + 1, 2, none⟩ = some (.int .i64 0) := hka1.c rfl
    have gi : V1.cell? ⟨nb, 0, none⟩ = some (.int .i64 op) := hki1.c rfl
    have HB3 := Lib.hid hb1
    clear hka1 hki1 hks1 hk11 hb1 cr1 s1 c5 r0 z00
    rw [rounds_succ]
    go_wp2_with fail
    refine (hD _).mono ?_
    rintro e w5 ⟨rfl, hb5⟩
    have HB5 := Lib.hid (below_next HB3.out hb5)
    clear hb5
    go_wp2_with fail
    go_ret2
    rw [HR.out]
    exact ⟨rfl, HB5.out⟩
set_option maxRecDepth 100000 in
set_option maxHeartbeats 2000000 in
theorem do_ops3 {w : World} {mb rb : Nat} {r sl inp : List Int} {steps : Int} {vin : Value} (h : DoAt w mb rb r sl inp steps vin) (op d a b c n : Int) (hx : Cx.InOk r.length sl.length inp.length ⟨op, d, a, b, c, n⟩) (ho : Cx.opsN op = 3) (hf : ∀ y ∈ r, Cx.fits y = true) :
    Calls Tryz.prog 28 #[.pointer (some ⟨mb, 0, none⟩), .agg #[.int .i64 op, .int .i64 d, .int .i64 a, .int .i64 b, .int .i64 c, .int .i64 n], vin] w fun e w' => e = .returned (.tuple #[.int .i64 (Cx.madeS ⟨op, d, a, b, c, n⟩ inp r sl (steps == 0)).1, .int .i64 (Cx.madeS ⟨op, d, a, b, c, n⟩ inp r sl (steps == 0)).2]) ∧ Below w.heap.size w w' := by
  obtain ⟨vi, vo, vn, vr, vs, rg, sg, f, k1, k2, k3⟩ := h.ex
  obtain ⟨ia, ic, rfl, -, -⟩ := h.inp.form
  obtain ⟨ra, rc, rfl, -, hra, hrx⟩ := k2.form
  obtain ⟨a1, a2, a3, a4, a5, a6, a7⟩ := opsN_not (op := op) (by omega)
  have e3 : (op == 3) = false := by simpa using a1
  have e1 : (op == 1) = false := by simpa using a2
  have e2 : (op == 2) = false := by simpa using a3
  have e21 : (op == 21) = false := by simpa using a4
  have e19 : (op == 19) = false := by simpa using a5
  have hO : ∀ W, Calls Tryz.prog 56 #[.int .i64 op] W fun e w' => e = .returned (.int .i64 3) ∧ w' = W := fun W => by have := pOperands_any op W; rwa [ho] at this
  obtain ⟨q1, q2⟩ := hx.a (by simp only; rw [a7, ho]; decide)
  simp only at q1 q2
  obtain ⟨i0, rfl⟩ := Int.eq_ofNat_of_zero_le q1
  obtain ⟨y0, hy0⟩ : ∃ y, r[i0]? = some y := ⟨_, List.getElem?_eq_getElem (by omega)⟩
  have hq0 : i0 < r.length := by omega
  clear q1 q2
  obtain ⟨q1, q2⟩ := hx.b (by simp only; rw [a7, ho]; decide)
  simp only at q1 q2
  obtain ⟨i1, rfl⟩ := Int.eq_ofNat_of_zero_le q1
  obtain ⟨y1, hy1⟩ : ∃ y, r[i1]? = some y := ⟨_, List.getElem?_eq_getElem (by omega)⟩
  have hq1 : i1 < r.length := by omega
  clear q1 q2
  obtain ⟨q1, q2⟩ := hx.c (by simp only; rw [a7, ho]; decide)
  simp only at q1 q2
  obtain ⟨i2, rfl⟩ := Int.eq_ofNat_of_zero_le q1
  obtain ⟨y2, hy2⟩ : ∃ y, r[i2]? = some y := ⟨_, List.getElem?_eq_getElem (by omega)⟩
  have hq2 : i2 < r.length := by omega
  clear q1 q2
  obtain ⟨rfl, hrb⟩ := hra (fun e => by rw [e] at hy0; simp at hy0)
  have hD := fun W => pDo_any op y0 y1 y2 (by omega) (hf y0 (List.mem_of_getElem? hy0)) (hf y1 (List.mem_of_getElem? hy1)) (hf y2 (List.mem_of_getElem? hy2)) W
  have HR : Hid (Cx.madeS ⟨op, d, i0, i1, i2, n⟩ inp r sl (steps == 0) = Cx.doV op y0 y1 y2) := by
    show _ = _
    rw [made_ops (by simp only; omega)]
    simp only [ho, Int.toNat_natCast]
    rw [getD_of hy0, getD_of hy1, getD_of hy2, if_pos (by decide), if_pos (by decide), doS_fits (hf y0 (List.mem_of_getElem? hy0)) (hf y1 (List.mem_of_getElem? hy1)) (hf y2 (List.mem_of_getElem? hy2))]
  obtain ⟨n', hn'⟩ : ∃ n', n' = r.length := ⟨_, rfl⟩
  have hin0 : (i0 : Int) < (n' : Int) := by omega
  have hin1 : (i1 : Int) < (n' : Int) := by omega
  have hin2 : (i2 : Int) < (n' : Int) := by omega
  rw [← hn'] at k1
  have HB := Lib.hid ((Below.refl w.heap.size w).alloc (Nat.le_refl _) (.cells #[.int .i64 op, .int .i64 d, .int .i64 i0, .int .i64 i1, .int .i64 i2, .int .i64 n] 70))
  have HK1 := Lib.hid k1
  have HCX0 := Lib.hid (hrx i0 y0 hy0)
  have HCX1 := Lib.hid (hrx i1 y1 hy1)
  have HCX2 := Lib.hid (hrx i2 y2 hy2)
  have HRB := Lib.hid hrb
  clear h hx k1 k2 k3 hra hrx a1 a2 a3 a4 a5 a6 a7 ho hf hy0 hq0 hy1 hq1 hy2 hq2 hn' hrb
  go_enter Tryz.func28, Tryz.ntmps28
  go_wp2_with fail
  have hb2 := HB.out.alloc HB.out.size (.cells #[.int .i64 0, .int .i64 0, .int .i64 0] 123)
  have hki := (Blk.new w #[.int .i64 op, .int .i64 d, .int .i64 i0, .int .i64 i1, .int .i64 i2, .int .i64 n] 70).below ((Below.refl (w.alloc (.cells #[.int .i64 op, .int .i64 d, .int .i64 i0, .int .i64 i1, .int .i64 i2, .int .i64 n] 70)).heap.size _).alloc (Nat.le_refl _) (.cells #[.int .i64 0, .int .i64 0, .int .i64 0] 123))
  have hka := Blk.new (w.alloc (.cells #[.int .i64 op, .int .i64 d, .int .i64 i0, .int .i64 i1, .int .i64 i2, .int .i64 n] 70)) #[.int .i64 0, .int .i64 0, .int .i64 0] 123
  have hs1 : ((w.alloc (.cells #[.int .i64 op, .int .i64 d, .int .i64 i0, .int .i64 i1, .int .i64 i2, .int .i64 n] 70)).alloc (.cells #[.int .i64 0, .int .i64 0, .int .i64 0] 123)).heap.size = w.heap.size + 2 := by simp
  rw [World.size_alloc] at hka
  obtain ⟨nb, hnb⟩ : ∃ nb, nb = w.heap.size := ⟨_, rfl⟩
  rw [← hnb] at hki hka hs1 ⊢
  generalize (w.alloc (.cells #[.int .i64 op, .int .i64 d, .int .i64 i0, .int .i64 i1, .int .i64 i2, .int .i64 n] 70)).alloc (.cells #[.int .i64 0, .int .i64 0, .int .i64 0] 123) = W1 at hb2 hki hka hs1 ⊢
  have KK : ∀ W : World, W.heap[nb]? = W1.heap[nb]? → W.cell? ⟨nb, 0, none⟩ = some (.int .i64 op) ∧ W.cell? ⟨nb, 2, none⟩ = some (.int .i64 i0) ∧ W.cell? ⟨nb, 3, none⟩ = some (.int .i64 i1) ∧ W.cell? ⟨nb, 4, none⟩ = some (.int .i64 i2) := fun W e => by
    have hk : Blk W nb _ _ := e.trans hki
    exact ⟨hk.c rfl, hk.c rfl, hk.c rfl, hk.c rfl⟩
  have K0 := KK W1 rfl
  have HS1 := Lib.hid hs1
  have HKA := Lib.hid hka
  have HKI := Lib.hid hki
  have HB2 := Lib.hid hb2
  have HNB := Lib.hid hnb
  have hlt : nb < W1.heap.size := hki.lt
  clear hs1 hka hki hb2 hnb
  go_region_held3 (fun w' => w'.cell? ⟨nb, 0, none⟩ = some (.int .i64 op) ∧ w'.cell? ⟨nb, 2, none⟩ = some (.int .i64 i0) ∧ w'.cell? ⟨nb, 3, none⟩ = some (.int .i64 i1) ∧ w'.cell? ⟨nb, 4, none⟩ = some (.int .i64 i2))
    (first | exact KK _ rfl | exact KK _ (Below.heap_alloc _ _ _ hlt))
    (first
      | (go_at_call 56
         (with_reducible refine (hO _).mono ?_)
         rintro e w2 ⟨rfl, rfl⟩))
  all_goals
    have hbW : Below W1.heap.size W1 (W1.alloc (.cells #[.int .i64 i0, .int .i64 i1, .int .i64 i2] 3)).drew := ((Below.refl _ _).alloc (Nat.le_refl _) _).drew
    have hks : Blk (W1.alloc (.cells #[.int .i64 i0, .int .i64 i1, .int .i64 i2] 3)).drew W1.heap.size #[.int .i64 i0, .int .i64 i1, .int .i64 i2] 3 := Blk.new W1 _ _
    generalize (W1.alloc (.cells #[.int .i64 i0, .int .i64 i1, .int .i64 i2] 3)).drew = W2 at hbW hks ⊢
    have B2 := below_next HB2.out hbW
    have hki := HKI.out.below hbW
    have hka := HKA.out.below hbW
    have k1 := HK1.out.below B2
    have c5 : W2.cell? ⟨mb, 5, none⟩ = some _ := k1.c rfl
    have cr0 : W2.cell? ⟨rb, 0 + i0, none⟩ = some (.int .i64 y0) := (B2.cell (p := ⟨rb, 0 + i0, none⟩) HRB.out).trans HCX0.out.1
    rw [Nat.zero_add] at cr0
    have s0 : W2.cell? ⟨W1.heap.size, 0, none⟩ = some _ := hks.c rfl
    have cr1 : W2.cell? ⟨rb, 0 + i1, none⟩ = some (.int .i64 y1) := (B2.cell (p := ⟨rb, 0 + i1, none⟩) HRB.out).trans HCX1.out.1
    rw [Nat.zero_add] at cr1
    have s1 : W2.cell? ⟨W1.heap.size, 1, none⟩ = some _ := hks.c rfl
    have cr2 : W2.cell? ⟨rb, 0 + i2, none⟩ = some (.int .i64 y2) := (B2.cell (p := ⟨rb, 0 + i2, none⟩) HRB.out).trans HCX2.out.1
    rw [Nat.zero_add] at cr2
    have s2 : W2.cell? ⟨W1.heap.size, 2, none⟩ = some _ := hks.c rfl
    have z0 : ∀ j, W2.frozen? ⟨nb + 1, j, none⟩ = false := fun j => by have h1 := hka; unfold Blk at h1; simp [World.frozen?, h1]
    have r0 : W2.cell? ⟨nb + 1, 0, none⟩ = some (.int .i64 0) := hka.c rfl
    have z00 := z0 0
    have HK12 := Lib.hid k1
    have HB22 := Lib.hid B2
    have HKI2 := Lib.hid hki
    have HKA2 := Lib.hid hka
    have HKS2 := Lib.hid hks
    clear hbW hks B2 hki hka k1 K0 KK z0
    go_wp2_with fail
    refine wp_loop_rounds 4 ?_
    rw [rounds_succ]
    go_wp2_with fail
    have hka0 := HKA2.out.puti 0 (.int .i64 y0)
    have hki0 := HKI2.out.other (p := nb + 1) 0 (by omega) (.int .i64 y0)
    have hks0 := HKS2.out.other (p := nb + 1) 0 (by have := HS1.out; omega) (.int .i64 y0)
    have hk10 := HK12.out.other (p := nb + 1) 0 (by have h1 := HK1.out.lt; have := HNB.out; omega) (.int .i64 y0)
    have hb0 := HB22.out.setCell (p := ⟨nb + 1, 0, none⟩) (by have := HNB.out; show w.heap.size ≤ nb + 1; omega) (.int .i64 y0)
    generalize W2.setCell ⟨nb + 1, 0, none⟩ (.int .i64 y0) = V0 at hka0 hki0 hks0 hk10 hb0 ⊢
    clear cr0 s0 cr1 s1 cr2 s2 c5 r0 z00
    have c5 : V0.cell? ⟨mb, 5, none⟩ = some _ := hk10.c rfl
    have cr1 : V0.cell? ⟨rb, 0 + i1, none⟩ = some (.int .i64 y1) := (hb0.cell (p := ⟨rb, 0 + i1, none⟩) HRB.out).trans HCX1.out.1
    rw [Nat.zero_add] at cr1
    have s1 : V0.cell? ⟨W1.heap.size, 1, none⟩ = some _ := hks0.c rfl
    have cr2 : V0.cell? ⟨rb, 0 + i2, none⟩ = some (.int .i64 y2) := (hb0.cell (p := ⟨rb, 0 + i2, none⟩) HRB.out).trans HCX2.out.1
    rw [Nat.zero_add] at cr2
    have s2 : V0.cell? ⟨W1.heap.size, 2, none⟩ = some _ := hks0.c rfl
    have r0 : V0.cell? ⟨nb + 1, 1, none⟩ = some (.int .i64 0) := hka0.c rfl
    have z00 : V0.frozen? ⟨nb + 1, 1, none⟩ = false := hka0.z (v := .int .i64 0) rfl
    have HKA20 := Lib.hid hka0
    have HKI20 := Lib.hid hki0
    have HKS20 := Lib.hid hks0
    have HK120 := Lib.hid hk10
    have HB220 := Lib.hid hb0
    clear hka0 hki0 hks0 hk10 hb0
    rw [rounds_succ]
    go_wp2_with fail
    have hka1 := HKA20.out.puti 1 (.int .i64 y1)
    have hki1 := HKI20.out.other (p := nb + 1) 1 (by omega) (.int .i64 y1)
    have hks1 := HKS20.out.other (p := nb + 1) 1 (by have := HS1.out; omega) (.int .i64 y1)
    have hk11 := HK120.out.other (p := nb + 1) 1 (by have h1 := HK1.out.lt; have := HNB.out; omega) (.int .i64 y1)
    have hb1 := HB220.out.setCell (p := ⟨nb + 1, 1, none⟩) (by have := HNB.out; show w.heap.size ≤ nb + 1; omega) (.int .i64 y1)
    generalize V0.setCell ⟨nb + 1, 1, none⟩ (.int .i64 y1) = V1 at hka1 hki1 hks1 hk11 hb1 ⊢
    clear cr1 s1 cr2 s2 c5 r0 z00
    have c5 : V1.cell? ⟨mb, 5, none⟩ = some _ := hk11.c rfl
    have cr2 : V1.cell? ⟨rb, 0 + i2, none⟩ = some (.int .i64 y2) := (hb1.cell (p := ⟨rb, 0 + i2, none⟩) HRB.out).trans HCX2.out.1
    rw [Nat.zero_add] at cr2
    have s2 : V1.cell? ⟨W1.heap.size, 2, none⟩ = some _ := hks1.c rfl
    have r0 : V1.cell? ⟨nb + 1, 2, none⟩ = some (.int .i64 0) := hka1.c rfl
    have z00 : V1.frozen? ⟨nb + 1, 2, none⟩ = false := hka1.z (v := .int .i64 0) rfl
    have HKA21 := Lib.hid hka1
    have HKI21 := Lib.hid hki1
    have HKS21 := Lib.hid hks1
    have HK121 := Lib.hid hk11
    have HB221 := Lib.hid hb1
    clear hka1 hki1 hks1 hk11 hb1
    rw [rounds_succ]
    go_wp2_with fail
    have hka2 := HKA21.out.puti 2 (.int .i64 y2)
    have hki2 := HKI21.out.other (p := nb + 1) 2 (by omega) (.int .i64 y2)
    have hks2 := HKS21.out.other (p := nb + 1) 2 (by have := HS1.out; omega) (.int .i64 y2)
    have hk12 := HK121.out.other (p := nb + 1) 2 (by have h1 := HK1.out.lt; have := HNB.out; omega) (.int .i64 y2)
    have hb2 := HB221.out.setCell (p := ⟨nb + 1, 2, none⟩) (by have := HNB.out; show w.heap.size ≤ nb + 1; omega) (.int .i64 y2)
    generalize V1.setCell ⟨nb + 1, 2, none⟩ (.int .i64 y2) = V2 at hka2 hki2 hks2 hk12 hb2 ⊢
    have g0 : V2.cell? ⟨nb + 1, 0, none⟩ = some (.int .i64 y0) := hka2.c rfl
    have g1 : V2.cell? ⟨nb + 1, 1, none⟩ = some (.int .i64 y1) := hka2.c rfl
    have g2 : V2.cell? ⟨nb + 1, 2, none⟩ = some (.int .i64 y2) := hka2.c rfl
    have gi : V2.cell? ⟨nb, 0, none⟩ = some (.int .i64 op) := hki2.c rfl
    have HB3 := Lib.hid hb2
    clear hka2 hki2 hks2 hk12 hb2 cr2 s2 c5 r0 z00
    rw [rounds_succ]
    go_wp2_with fail
    refine (hD _).mono ?_
    rintro e w5 ⟨rfl, hb5⟩
    have HB5 := Lib.hid (below_next HB3.out hb5)
    clear hb5
    go_wp2_with fail
    go_ret2
    rw [HR.out]
    exact ⟨rfl, HB5.out⟩
theorem do_any {w:World} {mb rb:Nat} {r sl inp:List Int} {steps:Int} {vin:Value} (h:DoAt w mb rb r sl inp steps vin) (x:Cx.In) (hx:Cx.InOk r.length sl.length inp.length x) (h30:x.op≠30) (hf:∀ y∈r,Cx.fits y=true) :
  Calls Tryz.prog 28 #[.pointer (some ⟨mb,0,none⟩),.agg #[.int .i64 x.op,.int .i64 x.d,.int .i64 x.a,.int .i64 x.b,.int .i64 x.c,.int .i64 x.n],vin] w fun e w'=>e=.returned (.tuple #[.int .i64 (Cx.madeS x inp r sl (steps==0)).1,.int .i64 (Cx.madeS x inp r sl (steps==0)).2])∧Below w.heap.size w w':=by
 have hr:=hx.reads
 have hc:=Cx.opsN_cases x.op
 by_cases he:x.op=3∨x.op=1∨x.op=2∨x.op=21∨x.op=19
 ·exact do_early h x hx he
 ·have h7:Cx.readsN x.op=Cx.opsN x.op:=by unfold Cx.readsN;rw[if_neg (by omega),if_neg h30,if_neg (by omega)]
  obtain⟨op,d,a,b,c,n⟩:=x
  simp only at hr hc h7 ⊢
  rcases hc with hc | hc | hc | hc
  ·exact do_ops1 h op d a b c n hx hc.1 hf
  ·exact do_ops2 h op d a b c n hx hc.1 hf
  ·exact do_ops3 h op d a b c n hx hc.1 hf
  ·omega
end Go.Proofs.YtbdbhdcbdfbnnaaGreatDoor
