/- Machine: what an operator of numbers makes, by the document: the walk. (Printed by gen/crops.py.) -/
import Derived.Test.YtbdbhdcbdfbnnaaGreatDoorJ33
import Derived.Test.YtbdbhdcbdfbnnaaGreatDoorJ40
set_option linter.unusedVariables false
set_option linter.unusedSimpArgs false
namespace Go.Proofs.YtbdbhdcbdfbnnaaGreatDoor
open Go.RowKit
set_option maxRecDepth 100000 in
set_option maxHeartbeats 2000000 in
theorem rmade_ops1 {w : World} {r sl inp : List Int} {first : Bool} {vin vr vs : Value} (h1 : Sl intC 1 w vin inp) (h2 : Sl intC 1 w vr r) (h3 : Sl intC 1 w vs sl) (op d a b c n : Int) (hx : Cx.InOk r.length sl.length inp.length ⟨op, d, a, b, c, n⟩) (ho : Cx.opsN op = 1) (hf : ∀ y ∈ r, Cx.fits y = true) :
    Calls Tryz.prog 30 #[.agg #[.int .i64 op, .int .i64 d, .int .i64 a, .int .i64 b, .int .i64 c, .int .i64 n], vin, vr, .agg #[vs, .bool first]] w fun e w' => e = .returned (.tuple #[.int .i64 (Cx.madeS ⟨op, d, a, b, c, n⟩ inp r sl first).1, .int .i64 (Cx.madeS ⟨op, d, a, b, c, n⟩ inp r sl first).2]) ∧ Below w.heap.size w w' := by
  obtain ⟨ia, ic, rfl, -, -⟩ := h1.form
  obtain ⟨ra, rc, rfl, -, hrx⟩ := h2.form
  obtain ⟨sa, sc, rfl, -, -⟩ := h3.form
  obtain ⟨a1, a2, a3, a4, a5, a6, a7⟩ := opsN_not (op := op) (by omega)
  have e3 : (op == 3) = false := by simpa using a1
  have e1 : (op == 1) = false := by simpa using a2
  have e2 : (op == 2) = false := by simpa using a3
  have e21 : (op == 21) = false := by simpa using a4
  have e19 : (op == 19) = false := by simpa using a5
  obtain ⟨q1, q2⟩ := hx.a (by simp only; rw [a7, ho]; decide)
  simp only at q1 q2
  obtain ⟨i0, rfl⟩ := Int.eq_ofNat_of_zero_le q1
  obtain ⟨y0, hy0⟩ : ∃ y, r[i0]? = some y := ⟨_, List.getElem?_eq_getElem (by omega)⟩
  have hq0 : i0 < r.length := by omega
  clear q1 q2
  have HD := Lib.hid (fun W => rDo_any op y0 0 0 (by omega) (hf y0 (List.mem_of_getElem? hy0)) (by decide) (by decide) W)
  have HR : Hid (Cx.madeS ⟨op, d, i0, b, c, n⟩ inp r sl first = Cx.doV op y0 0 0) := by
    show _ = _
    rw [made_ops (by simp only; omega)]
    simp only [ho, Int.toNat_natCast]
    rw [getD_of hy0, if_neg (by decide), if_neg (by decide), doS_fits (hf y0 (List.mem_of_getElem? hy0)) (by decide) (by decide)]
  have hRd := fun W => Reads_any op d i0 b c n W
  have hrd : Cx.rds ⟨op, d, i0, b, c, n⟩ = [(i0 : Int)] := by rw [rds_of (k := 1) (by simp only; rw [a7, ho]; rfl)]; rfl
  obtain ⟨n', hn'⟩ : ∃ n', n' = r.length := ⟨_, rfl⟩
  have hin0 : (i0 : Int) < (n' : Int) := by omega
  have HA7 : Hid (decide (0 ≤ Cx.readsN op) = true) := by show _ = _; rw [a7, ho]; rfl
  rw [← hn']
  have HRX := Lib.hid hrx
  have HY0 := Lib.hid hy0
  have HB1 := Lib.hid ((Below.refl w.heap.size w).alloc (Nat.le_refl _) (.cells #[.int .i64 op, .int .i64 d, .int .i64 i0, .int .i64 b, .int .i64 c, .int .i64 n] 74))
  have HB := Lib.hid (HB1.out.alloc HB1.out.size (.cells #[.slice sa sl.length sc, .bool first] 40))
  clear h1 h2 h3 hx hrx a1 a2 a3 a4 a5 a6 a7 ho hf hy0 hq0 hn'
  go_enter Tryz.func30, Tryz.ntmps30
  go_wp2_with fail
  have hki := (Blk.new w #[.int .i64 op, .int .i64 d, .int .i64 i0, .int .i64 b, .int .i64 c, .int .i64 n] 74).below ((Below.refl (w.alloc (.cells #[.int .i64 op, .int .i64 d, .int .i64 i0, .int .i64 b, .int .i64 c, .int .i64 n] 74)).heap.size _).alloc (Nat.le_refl _) (.cells #[.slice sa sl.length sc, .bool first] 40))
  have hb0 := HB.out
  generalize (w.alloc (.cells #[.int .i64 op, .int .i64 d, .int .i64 i0, .int .i64 b, .int .i64 c, .int .i64 n] 74)).alloc (.cells #[.slice sa sl.length sc, .bool first] 40) = W0 at hki hb0 ⊢
  refine (hRd _).mono ?_
  rintro e w1 ⟨u, rfl, hu0, hb1⟩
  rw [hrd] at hu0
  have hu := (hu0 [] (fun i hi => by cases hi)).sl
  have hB1 := below_next hb0 hb1
  have hki1 := hki.below hb1
  have hun : SlN intC 1 [w1.heap.size] w1 u [(i0 : Int)] := hu.apart (fun i hi => by rw [List.mem_singleton.1 hi]; exact Nat.le_refl _)
  obtain ⟨ua, uc, rfl, -, hux⟩ := hun.form
  simp only [HA7.out]
  have hyb := Blk.new w1 #[.int .i64 0, .int .i64 0, .int .i64 0] 3
  have hba := (Below.refl w1.heap.size w1).alloc (Nat.le_refl _) (.cells #[.int .i64 0, .int .i64 0, .int .i64 0] 3)
  have HU := Lib.hid hux
  have HB11 := Lib.hid hB1
  have HKI1 := Lib.hid hki1
  have hf0 := FrS.of_below hba [w1.heap.size]
  have hbw := hB1.alloc hB1.size (.cells #[.int .i64 0, .int .i64 0, .int .i64 0] 3)
  have hkiw := hki1.below hba
  have hlt1 := hki1.lt
  obtain ⟨yb, hybe⟩ : ∃ yb, yb = w1.heap.size := ⟨_, rfl⟩
  have HYB := Lib.hid hybe
  have hwy : w.heap.size ≤ yb := by rw [hybe]; exact hB1.size
  have hny : w.heap.size < yb := by rw [hybe]; exact hlt1
  have HWY := Lib.hid hwy
  have HNY := Lib.hid hny
  clear hki hb0 hRd hu0 hu hb1 hB1 hki1 hun hux hba hlt1 hwy hny
  go_wp2_with fail
  refine wp_loop_rounds 2 ?_
  rw [← hybe] at hyb hf0 ⊢
  have HUU : Hid (∀ W S, FrS S w1 W → (∀ i ∈ S, i ∈ [yb] ∨ w1.heap.size ≤ i) → ∀ (i : Nat) (x : Int), ([(i0 : Int)] : List Int)[i]? = some x → ∃ b o, ua = some ⟨b, o, none⟩ ∧ b < w1.heap.size ∧ b ∉ [yb] ∧ ∀ j u, (intC x)[j]? = some u → W.cell? ⟨b, o + i * 1 + j, none⟩ = some u) := by rw [HYB.out]; exact HU.out
  clear HU hybe
  generalize w1.alloc (.cells #[.int .i64 0, .int .i64 0, .int .i64 0] 3) = V at hyb hf0 hbw hkiw ⊢
  obtain ⟨ub0, uo0, rfl, -, -, gu0⟩ := HUU.out _ _ hf0 (fun i hi => Or.inl hi) 0 i0 rfl
  have su0 := gu0 0 _ rfl
  obtain ⟨rb0, ro0, rfl, gr0⟩ := HRX.out _ hbw i0 y0 HY0.out
  have sr0 := gr0 0 _ rfl
  simp only [Nat.mul_one, Nat.add_zero, Nat.zero_mul] at su0 sr0
  have r0 : V.cell? ⟨yb, 0, none⟩ = some (.int .i64 0) := hyb.c rfl
  have z0 : V.frozen? ⟨yb, 0, none⟩ = false := hyb.z (v := .int .i64 0) rfl
  have HF0 := Lib.hid hf0
  have HBW0 := Lib.hid hbw
  have HKW0 := Lib.hid hkiw
  have HYW0 := Lib.hid hyb
  clear hf0 hbw hkiw hyb gu0 gr0
  rw [rounds_succ]
  go_wp2_with fail
  have hf00 := HF0.out.setCell (p := yb) (i := 0) (Or.inl (by simp)) (.int .i64 y0)
  have hbw0 := HBW0.out.setCell (p := ⟨yb, 0, none⟩) HWY.out (.int .i64 y0)
  have hkiw0 := HKW0.out.other (p := yb) 0 (by have := HNY.out; omega) (.int .i64 y0)
  have hyb0 := HYW0.out.puti 0 (.int .i64 y0)
  generalize V.setCell ⟨yb, 0, none⟩ (.int .i64 y0) = V0 at hf00 hbw0 hkiw0 hyb0 ⊢
  clear su0 sr0 r0 z0
  have KK : ∀ W : World, W.heap[yb]? = V0.heap[yb]? → W.heap[w.heap.size]? = V0.heap[w.heap.size]? → W.cell? ⟨yb, 0, none⟩ = some (.int .i64 y0) ∧ W.cell? ⟨yb, 1, none⟩ = some (.int .i64 0) ∧ W.cell? ⟨yb, 2, none⟩ = some (.int .i64 0) ∧ W.cell? ⟨w.heap.size, 0, none⟩ = some (.int .i64 op) := fun W g1 g2 => by
    have h1 : Blk W yb _ _ := g1.trans hyb0
    have h2 : Blk W w.heap.size _ _ := g2.trans hkiw0
    exact ⟨h1.c rfl, h1.c rfl, h1.c rfl, h2.c rfl⟩
  have K0 := KK V0 rfl rfl
  have K1 := KK V0.drew rfl rfl
  have HBZ := Lib.hid hbw0
  have HYZ := Lib.hid hyb0.lt
  have HKZ := Lib.hid hkiw0.lt
  clear hf00 hbw0 hkiw0 hyb0
  rw [rounds_succ]
  go_wp2_with fail
  have hD := HD.out V0.drew
  go_region_held3 (fun w' => w'.cell? ⟨yb, 0, none⟩ = some (.int .i64 y0) ∧ w'.cell? ⟨yb, 1, none⟩ = some (.int .i64 0) ∧ w'.cell? ⟨yb, 2, none⟩ = some (.int .i64 0) ∧ w'.cell? ⟨w.heap.size, 0, none⟩ = some (.int .i64 op))
    (first | exact K5 | exact K1 | exact K0)
    (first
      | (go_at_call 58
         (with_reducible refine hD.mono ?_)
         rintro e w5 ⟨rfl, hb5⟩
         have hb5' : Below V0.heap.size V0 w5 := below_next ((Below.refl V0.heap.size V0).drew) hb5
         have K5 := KK w5 (hb5'.block yb HYZ.out) (hb5'.block w.heap.size HKZ.out)))
  have HB5 := Lib.hid (below_next HBZ.out hb5')
  clear hD hb5 hb5' K0 K1 K5 KK
  go_wp2_with fail
  go_ret2
  rw [HR.out]
  exact ⟨rfl, HB5.out⟩
set_option maxRecDepth 100000 in
set_option maxHeartbeats 2000000 in
theorem rmade_ops2 {w : World} {r sl inp : List Int} {first : Bool} {vin vr vs : Value} (h1 : Sl intC 1 w vin inp) (h2 : Sl intC 1 w vr r) (h3 : Sl intC 1 w vs sl) (op d a b c n : Int) (hx : Cx.InOk r.length sl.length inp.length ⟨op, d, a, b, c, n⟩) (ho : Cx.opsN op = 2) (hf : ∀ y ∈ r, Cx.fits y = true) :
    Calls Tryz.prog 30 #[.agg #[.int .i64 op, .int .i64 d, .int .i64 a, .int .i64 b, .int .i64 c, .int .i64 n], vin, vr, .agg #[vs, .bool first]] w fun e w' => e = .returned (.tuple #[.int .i64 (Cx.madeS ⟨op, d, a, b, c, n⟩ inp r sl first).1, .int .i64 (Cx.madeS ⟨op, d, a, b, c, n⟩ inp r sl first).2]) ∧ Below w.heap.size w w' := by
  obtain ⟨ia, ic, rfl, -, -⟩ := h1.form
  obtain ⟨ra, rc, rfl, -, hrx⟩ := h2.form
  obtain ⟨sa, sc, rfl, -, -⟩ := h3.form
  obtain ⟨a1, a2, a3, a4, a5, a6, a7⟩ := opsN_not (op := op) (by omega)
  have e3 : (op == 3) = false := by simpa using a1
  have e1 : (op == 1) = false := by simpa using a2
  have e2 : (op == 2) = false := by simpa using a3
  have e21 : (op == 21) = false := by simpa using a4
  have e19 : (op == 19) = false := by simpa using a5
  obtain ⟨q1, q2⟩ := hx.a (by simp only; rw [a7, ho]; decide)
  simp only at q1 q2
  obtain ⟨i0, rfl⟩ := Int.eq_ofNat_of_zero_le q1
  obtain ⟨y0, hy0⟩ : ∃ y, r[i0]? = some y := ⟨_, List.getElem?_eq_getElem (by omega)⟩
  have hq0 : i0 < r.length := by omega
  clear q1 q2
  obtain ⟨q1, q2⟩ := hx.b (by simp only; rw [a7, ho]; decide)
  simp only at q1 q2
  obtain ⟨i1, rfl⟩ := Int.eq_ofNat_of_zero_le q1
  obtain ⟨y1, hy1⟩ : ∃ y, r[i1]? = some y := ⟨_, List.getElem?_eq_getElem (by omega)⟩
  have hq1 : i1 < r.length := by omega
  clear q1 q2
  have HD := Lib.hid (fun W => rDo_any op y0 y1 0 (by omega) (hf y0 (List.mem_of_getElem? hy0)) (hf y1 (List.mem_of_getElem? hy1)) (by decide) W)
  have HR : Hid (Cx.madeS ⟨op, d, i0, i1, c, n⟩ inp r sl first = Cx.doV op y0 y1 0) := by
    show _ = _
    rw [made_ops (by simp only; omega)]
    simp only [ho, Int.toNat_natCast]
    rw [getD_of hy0, getD_of hy1, if_pos (by decide), if_neg (by decide), doS_fits (hf y0 (List.mem_of_getElem? hy0)) (hf y1 (List.mem_of_getElem? hy1)) (by decide)]
  have hRd := fun W => Reads_any op d i0 i1 c n W
  have hrd : Cx.rds ⟨op, d, i0, i1, c, n⟩ = [(i0 : Int), (i1 : Int)] := by rw [rds_of (k := 2) (by simp only; rw [a7, ho]; rfl)]; rfl
  obtain ⟨n', hn'⟩ : ∃ n', n' = r.length := ⟨_, rfl⟩
  have hin0 : (i0 : Int) < (n' : Int) := by omega
  have hin1 : (i1 : Int) < (n' : Int) := by omega
  have HA7 : Hid (decide (0 ≤ Cx.readsN op) = true) := by show _ = _; rw [a7, ho]; rfl
  rw [← hn']
  have HRX := Lib.hid hrx
  have HY0 := Lib.hid hy0
  have HY1 := Lib.hid hy1
  have HB1 := Lib.hid ((Below.refl w.heap.size w).alloc (Nat.le_refl _) (.cells #[.int .i64 op, .int .i64 d, .int .i64 i0, .int .i64 i1, .int .i64 c, .int .i64 n] 74))
  have HB := Lib.hid (HB1.out.alloc HB1.out.size (.cells #[.slice sa sl.length sc, .bool first] 40))
  clear h1 h2 h3 hx hrx a1 a2 a3 a4 a5 a6 a7 ho hf hy0 hq0 hy1 hq1 hn'
  go_enter Tryz.func30, Tryz.ntmps30
  go_wp2_with fail
  have hki := (Blk.new w #[.int .i64 op, .int .i64 d, .int .i64 i0, .int .i64 i1, .int .i64 c, .int .i64 n] 74).below ((Below.refl (w.alloc (.cells #[.int .i64 op, .int .i64 d, .int .i64 i0, .int .i64 i1, .int .i64 c, .int .i64 n] 74)).heap.size _).alloc (Nat.le_refl _) (.cells #[.slice sa sl.length sc, .bool first] 40))
  have hb0 := HB.out
  generalize (w.alloc (.cells #[.int .i64 op, .int .i64 d, .int .i64 i0, .int .i64 i1, .int .i64 c, .int .i64 n] 74)).alloc (.cells #[.slice sa sl.length sc, .bool first] 40) = W0 at hki hb0 ⊢
  refine (hRd _).mono ?_
  rintro e w1 ⟨u, rfl, hu0, hb1⟩
  rw [hrd] at hu0
  have hu := (hu0 [] (fun i hi => by cases hi)).sl
  have hB1 := below_next hb0 hb1
  have hki1 := hki.below hb1
  have hun : SlN intC 1 [w1.heap.size] w1 u [(i0 : Int), (i1 : Int)] := hu.apart (fun i hi => by rw [List.mem_singleton.1 hi]; exact Nat.le_refl _)
  obtain ⟨ua, uc, rfl, -, hux⟩ := hun.form
  simp only [HA7.out]
  have hyb := Blk.new w1 #[.int .i64 0, .int .i64 0, .int .i64 0] 3
  have hba := (Below.refl w1.heap.size w1).alloc (Nat.le_refl _) (.cells #[.int .i64 0, .int .i64 0, .int .i64 0] 3)
  have HU := Lib.hid hux
  have HB11 := Lib.hid hB1
  have HKI1 := Lib.hid hki1
  have hf0 := FrS.of_below hba [w1.heap.size]
  have hbw := hB1.alloc hB1.size (.cells #[.int .i64 0, .int .i64 0, .int .i64 0] 3)
  have hkiw := hki1.below hba
  have hlt1 := hki1.lt
  obtain ⟨yb, hybe⟩ : ∃ yb, yb = w1.heap.size := ⟨_, rfl⟩
  have HYB := Lib.hid hybe
  have hwy : w.heap.size ≤ yb := by rw [hybe]; exact hB1.size
  have hny : w.heap.size < yb := by rw [hybe]; exact hlt1
  have HWY := Lib.hid hwy
  have HNY := Lib.hid hny
  clear hki hb0 hRd hu0 hu hb1 hB1 hki1 hun hux hba hlt1 hwy hny
  go_wp2_with fail
  refine wp_loop_rounds 3 ?_
  rw [← hybe] at hyb hf0 ⊢
  have HUU : Hid (∀ W S, FrS S w1 W → (∀ i ∈ S, i ∈ [yb] ∨ w1.heap.size ≤ i) → ∀ (i : Nat) (x : Int), ([(i0 : Int), (i1 : Int)] : List Int)[i]? = some x → ∃ b o, ua = some ⟨b, o, none⟩ ∧ b < w1.heap.size ∧ b ∉ [yb] ∧ ∀ j u, (intC x)[j]? = some u → W.cell? ⟨b, o + i * 1 + j, none⟩ = some u) := by rw [HYB.out]; exact HU.out
  clear HU hybe
  generalize w1.alloc (.cells #[.int .i64 0, .int .i64 0, .int .i64 0] 3) = V at hyb hf0 hbw hkiw ⊢
  obtain ⟨ub0, uo0, rfl, -, -, gu0⟩ := HUU.out _ _ hf0 (fun i hi => Or.inl hi) 0 i0 rfl
  have su0 := gu0 0 _ rfl
  obtain ⟨rb0, ro0, rfl, gr0⟩ := HRX.out _ hbw i0 y0 HY0.out
  have sr0 := gr0 0 _ rfl
  simp only [Nat.mul_one, Nat.add_zero, Nat.zero_mul] at su0 sr0
  have r0 : V.cell? ⟨yb, 0, none⟩ = some (.int .i64 0) := hyb.c rfl
  have z0 : V.frozen? ⟨yb, 0, none⟩ = false := hyb.z (v := .int .i64 0) rfl
  have HF0 := Lib.hid hf0
  have HBW0 := Lib.hid hbw
  have HKW0 := Lib.hid hkiw
  have HYW0 := Lib.hid hyb
  clear hf0 hbw hkiw hyb gu0 gr0
  rw [rounds_succ]
  go_wp2_with fail
  have hf00 := HF0.out.setCell (p := yb) (i := 0) (Or.inl (by simp)) (.int .i64 y0)
  have hbw0 := HBW0.out.setCell (p := ⟨yb, 0, none⟩) HWY.out (.int .i64 y0)
  have hkiw0 := HKW0.out.other (p := yb) 0 (by have := HNY.out; omega) (.int .i64 y0)
  have hyb0 := HYW0.out.puti 0 (.int .i64 y0)
  generalize V.setCell ⟨yb, 0, none⟩ (.int .i64 y0) = V0 at hf00 hbw0 hkiw0 hyb0 ⊢
  clear su0 sr0 r0 z0
  obtain ⟨ub1, uo1, ue1, -, -, gu1⟩ := HUU.out _ _ hf00 (fun i hi => Or.inl hi) 1 i1 rfl
  cases ue1
  have su1 := gu1 0 _ rfl
  obtain ⟨rb1, ro1, re1, gr1⟩ := HRX.out _ hbw0 i1 y1 HY1.out
  cases re1
  have sr1 := gr1 0 _ rfl
  simp only [Nat.mul_one, Nat.add_zero, Nat.zero_mul] at su1 sr1
  have r0 : V0.cell? ⟨yb, 1, none⟩ = some (.int .i64 0) := hyb0.c rfl
  have z0 : V0.frozen? ⟨yb, 1, none⟩ = false := hyb0.z (v := .int .i64 0) rfl
  have HF1 := Lib.hid hf00
  have HBW1 := Lib.hid hbw0
  have HKW1 := Lib.hid hkiw0
  have HYW1 := Lib.hid hyb0
  clear hf00 hbw0 hkiw0 hyb0 gu1 gr1
  rw [rounds_succ]
  go_wp2_with fail
  have hf01 := HF1.out.setCell (p := yb) (i := 1) (Or.inl (by simp)) (.int .i64 y1)
  have hbw1 := HBW1.out.setCell (p := ⟨yb, 1, none⟩) HWY.out (.int .i64 y1)
  have hkiw1 := HKW1.out.other (p := yb) 1 (by have := HNY.out; omega) (.int .i64 y1)
  have hyb1 := HYW1.out.puti 1 (.int .i64 y1)
  generalize V0.setCell ⟨yb, 1, none⟩ (.int .i64 y1) = V1 at hf01 hbw1 hkiw1 hyb1 ⊢
  clear su1 sr1 r0 z0
  have KK : ∀ W : World, W.heap[yb]? = V1.heap[yb]? → W.heap[w.heap.size]? = V1.heap[w.heap.size]? → W.cell? ⟨yb, 0, none⟩ = some (.int .i64 y0) ∧ W.cell? ⟨yb, 1, none⟩ = some (.int .i64 y1) ∧ W.cell? ⟨yb, 2, none⟩ = some (.int .i64 0) ∧ W.cell? ⟨w.heap.size, 0, none⟩ = some (.int .i64 op) := fun W g1 g2 => by
    have h1 : Blk W yb _ _ := g1.trans hyb1
    have h2 : Blk W w.heap.size _ _ := g2.trans hkiw1
    exact ⟨h1.c rfl, h1.c rfl, h1.c rfl, h2.c rfl⟩
  have K0 := KK V1 rfl rfl
  have K1 := KK V1.drew rfl rfl
  have HBZ := Lib.hid hbw1
  have HYZ := Lib.hid hyb1.lt
  have HKZ := Lib.hid hkiw1.lt
  clear hf01 hbw1 hkiw1 hyb1
  rw [rounds_succ]
  go_wp2_with fail
  have hD := HD.out V1.drew
  go_region_held3 (fun w' => w'.cell? ⟨yb, 0, none⟩ = some (.int .i64 y0) ∧ w'.cell? ⟨yb, 1, none⟩ = some (.int .i64 y1) ∧ w'.cell? ⟨yb, 2, none⟩ = some (.int .i64 0) ∧ w'.cell? ⟨w.heap.size, 0, none⟩ = some (.int .i64 op))
    (first | exact K5 | exact K1 | exact K0)
    (first
      | (go_at_call 58
         (with_reducible refine hD.mono ?_)
         rintro e w5 ⟨rfl, hb5⟩
         have hb5' : Below V1.heap.size V1 w5 := below_next ((Below.refl V1.heap.size V1).drew) hb5
         have K5 := KK w5 (hb5'.block yb HYZ.out) (hb5'.block w.heap.size HKZ.out)))
  have HB5 := Lib.hid (below_next HBZ.out hb5')
  clear hD hb5 hb5' K0 K1 K5 KK
  go_wp2_with fail
  go_ret2
  rw [HR.out]
  exact ⟨rfl, HB5.out⟩
set_option maxRecDepth 100000 in
set_option maxHeartbeats 2000000 in
theorem rmade_ops3 {w : World} {r sl inp : List Int} {first : Bool} {vin vr vs : Value} (h1 : Sl intC 1 w vin inp) (h2 : Sl intC 1 w vr r) (h3 : Sl intC 1 w vs sl) (op d a b c n : Int) (hx : Cx.InOk r.length sl.length inp.length ⟨op, d, a, b, c, n⟩) (ho : Cx.opsN op = 3) (hf : ∀ y ∈ r, Cx.fits y = true) :
    Calls Tryz.prog 30 #[.agg #[.int .i64 op, .int .i64 d, .int .i64 a, .int .i64 b, .int .i64 c, .int .i64 n], vin, vr, .agg #[vs, .bool first]] w fun e w' => e = .returned (.tuple #[.int .i64 (Cx.madeS ⟨op, d, a, b, c, n⟩ inp r sl first).1, .int .i64 (Cx.madeS ⟨op, d, a, b, c, n⟩ inp r sl first).2]) ∧ Below w.heap.size w w' := by
  obtain ⟨ia, ic, rfl, -, -⟩ := h1.form
  obtain ⟨ra, rc, rfl, -, hrx⟩ := h2.form
  obtain ⟨sa, sc, rfl, -, -⟩ := h3.form
  obtain ⟨a1, a2, a3, a4, a5, a6, a7⟩ := opsN_not (op := op) (by omega)
  have e3 : (op == 3) = false := by simpa using a1
  have e1 : (op == 1) = false := by simpa using a2
  have e2 : (op == 2) = false := by simpa using a3
  have e21 : (op == 21) = false := by simpa using a4
  have e19 : (op == 19) = false := by simpa using a5
  obtain ⟨q1, q2⟩ := hx.a (by simp only; rw [a7, ho]; decide)
  simp only at q1 q2
  obtain ⟨i0, rfl⟩ := Int.eq_ofNat_of_zero_le q1
  obtain ⟨y0, hy0⟩ : ∃ y, r[i0]? = some y := ⟨_, List.getElem?_eq_getElem (by omega)⟩
  have hq0 : i0 < r.length := by omega
  clear q1 q2
  obtain ⟨q1, q2⟩ := hx.b (by simp only; rw [a7, ho]; decide)
  simp only at q1 q2
  obtain ⟨i1, rfl⟩ := Int.eq_ofNat_of_zero_le q1
  obtain ⟨y1, hy1⟩ : ∃ y, r[i1]? = some y := ⟨_, List.getElem?_eq_getElem (by omega)⟩
  have hq1 : i1 < r.length := by omega
  clear q1 q2
  obtain ⟨q1, q2⟩ := hx.c (by simp only; rw [a7, ho]; decide)
  simp only at q1 q2
  obtain ⟨i2, rfl⟩ := Int.eq_ofNat_of_zero_le q1
  obtain ⟨y2, hy2⟩ : ∃ y, r[i2]? = some y := ⟨_, List.getElem?_eq_getElem (by omega)⟩
  have hq2 : i2 < r.length := by omega
  clear q1 q2
  have HD := Lib.hid (fun W => rDo_any op y0 y1 y2 (by omega) (hf y0 (List.mem_of_getElem? hy0)) (hf y1 (List.mem_of_getElem? hy1)) (hf y2 (List.mem_of_getElem? hy2)) W)
  have HR : Hid (Cx.madeS ⟨op, d, i0, i1, i2, n⟩ inp r sl first = Cx.doV op y0 y1 y2) := by
    show _ = _
    rw [made_ops (by simp only; omega)]
    simp only [ho, Int.toNat_natCast]
    rw [getD_of hy0, getD_of hy1, getD_of hy2, if_pos (by decide), if_pos (by decide), doS_fits (hf y0 (List.mem_of_getElem? hy0)) (hf y1 (List.mem_of_getElem? hy1)) (hf y2 (List.mem_of_getElem? hy2))]
  have hRd := fun W => Reads_any op d i0 i1 i2 n W
  have hrd : Cx.rds ⟨op, d, i0, i1, i2, n⟩ = [(i0 : Int), (i1 : Int), (i2 : Int)] := by rw [rds_of (k := 3) (by simp only; rw [a7, ho]; rfl)]; rfl
  obtain ⟨n', hn'⟩ : ∃ n', n' = r.length := ⟨_, rfl⟩
  have hin0 : (i0 : Int) < (n' : Int) := by omega
  have hin1 : (i1 : Int) < (n' : Int) := by omega
  have hin2 : (i2 : Int) < (n' : Int) := by omega
  have HA7 : Hid (decide (0 ≤ Cx.readsN op) = true) := by show _ = _; rw [a7, ho]; rfl
  rw [← hn']
  have HRX := Lib.hid hrx
  have HY0 := Lib.hid hy0
  have HY1 := Lib.hid hy1
  have HY2 := Lib.hid hy2
  have HB1 := Lib.hid ((Below.refl w.heap.size w).alloc (Nat.le_refl _) (.cells #[.int .i64 op, .int .i64 d, .int .i64 i0, .int .i64 i1, .int .i64 i2, .int .i64 n] 74))
  have HB := Lib.hid (HB1.out.alloc HB1.out.size (.cells #[.slice sa sl.length sc, .bool first] 40))
  clear h1 h2 h3 hx hrx a1 a2 a3 a4 a5 a6 a7 ho hf hy0 hq0 hy1 hq1 hy2 hq2 hn'
  go_enter Tryz.func30, Tryz.ntmps30
  go_wp2_with fail
  have hki := (Blk.new w #[.int .i64 op, .int .i64 d, .int .i64 i0, .int .i64 i1, .int .i64 i2, .int .i64 n] 74).below ((Below.refl (w.alloc (.cells #[.int .i64 op, .int .i64 d, .int .i64 i0, .int .i64 i1, .int .i64 i2, .int .i64 n] 74)).heap.size _).alloc (Nat.le_refl _) (.cells #[.slice sa sl.length sc, .bool first] 40))
  have hb0 := HB.out
  generalize (w.alloc (.cells #[.int .i64 op, .int .i64 d, .int .i64 i0, .int .i64 i1, .int .i64 i2, .int .i64 n] 74)).alloc (.cells #[.slice sa sl.length sc, .bool first] 40) = W0 at hki hb0 ⊢
  refine (hRd _).mono ?_
  rintro e w1 ⟨u, rfl, hu0, hb1⟩
  rw [hrd] at hu0
  have hu := (hu0 [] (fun i hi => by cases hi)).sl
  have hB1 := below_next hb0 hb1
  have hki1 := hki.below hb1
  have hun : SlN intC 1 [w1.heap.size] w1 u [(i0 : Int), (i1 : Int), (i2 : Int)] := hu.apart (fun i hi => by rw [List.mem_singleton.1 hi]; exact Nat.le_refl _)
  obtain ⟨ua, uc, rfl, -, hux⟩ := hun.form
  simp only [HA7.out]
  have hyb := Blk.new w1 #[.int .i64 0, .int .i64 0, .int .i64 0] 3
  have hba := (Below.refl w1.heap.size w1).alloc (Nat.le_refl _) (.cells #[.int .i64 0, .int .i64 0, .int .i64 0] 3)
  have HU := Lib.hid hux
  have HB11 := Lib.hid hB1
  have HKI1 := Lib.hid hki1
  have hf0 := FrS.of_below hba [w1.heap.size]
  have hbw := hB1.alloc hB1.size (.cells #[.int .i64 0, .int .i64 0, .int .i64 0] 3)
  have hkiw := hki1.below hba
  have hlt1 := hki1.lt
  obtain ⟨yb, hybe⟩ : ∃ yb, yb = w1.heap.size := ⟨_, rfl⟩
  have HYB := Lib.hid hybe
  have hwy : w.heap.size ≤ yb := by rw [hybe]; exact hB1.size
  have hny : w.heap.size < yb := by rw [hybe]; exact hlt1
  have HWY := Lib.hid hwy
  have HNY := Lib.hid hny
  clear hki hb0 hRd hu0 hu hb1 hB1 hki1 hun hux hba hlt1 hwy hny
  go_wp2_with fail
  refine wp_loop_rounds 4 ?_
  rw [← hybe] at hyb hf0 ⊢
  have HUU : Hid (∀ W S, FrS S w1 W → (∀ i ∈ S, i ∈ [yb] ∨ w1.heap.size ≤ i) → ∀ (i : Nat) (x : Int), ([(i0 : Int), (i1 : Int), (i2 : Int)] : List Int)[i]? = some x → ∃ b o, ua = some ⟨b, o, none⟩ ∧ b < w1.heap.size ∧ b ∉ [yb] ∧ ∀ j u, (intC x)[j]? = some u → W.cell? ⟨b, o + i * 1 + j, none⟩ = some u) := by rw [HYB.out]; exact HU.out
  clear HU hybe
  generalize w1.alloc (.cells #[.int .i64 0, .int .i64 0, .int .i64 0] 3) = V at hyb hf0 hbw hkiw ⊢
  obtain ⟨ub0, uo0, rfl, -, -, gu0⟩ := HUU.out _ _ hf0 (fun i hi => Or.inl hi) 0 i0 rfl
  have su0 := gu0 0 _ rfl
  obtain ⟨rb0, ro0, rfl, gr0⟩ := HRX.out _ hbw i0 y0 HY0.out
  have sr0 := gr0 0 _ rfl
  simp only [Nat.mul_one, Nat.add_zero, Nat.zero_mul] at su0 sr0
  have r0 : V.cell? ⟨yb, 0, none⟩ = some (.int .i64 0) := hyb.c rfl
  have z0 : V.frozen? ⟨yb, 0, none⟩ = false := hyb.z (v := .int .i64 0) rfl
  have HF0 := Lib.hid hf0
  have HBW0 := Lib.hid hbw
  have HKW0 := Lib.hid hkiw
  have HYW0 := Lib.hid hyb
  clear hf0 hbw hkiw hyb gu0 gr0
  rw [rounds_succ]
  go_wp2_with fail
  have hf00 := HF0.out.setCell (p := yb) (i := 0) (Or.inl (by simp)) (.int .i64 y0)
  have hbw0 := HBW0.out.setCell (p := ⟨yb, 0, none⟩) HWY.out (.int .i64 y0)
  have hkiw0 := HKW0.out.other (p := yb) 0 (by have := HNY.out; omega) (.int .i64 y0)
  have hyb0 := HYW0.out.puti 0 (.int .i64 y0)
  generalize V.setCell ⟨yb, 0, none⟩ (.int .i64 y0) = V0 at hf00 hbw0 hkiw0 hyb0 ⊢
  clear su0 sr0 r0 z0
  obtain ⟨ub1, uo1, ue1, -, -, gu1⟩ := HUU.out _ _ hf00 (fun i hi => Or.inl hi) 1 i1 rfl
  cases ue1
  have su1 := gu1 0 _ rfl
  obtain ⟨rb1, ro1, re1, gr1⟩ := HRX.out _ hbw0 i1 y1 HY1.out
  cases re1
  have sr1 := gr1 0 _ rfl
  simp only [Nat.mul_one, Nat.add_zero, Nat.zero_mul] at su1 sr1
  have r0 : V0.cell? ⟨yb, 1, none⟩ = some (.int .i64 0) := hyb0.c rfl
  have z0 : V0.frozen? ⟨yb, 1, none⟩ = false := hyb0.z (v := .int .i64 0) rfl
  have HF1 := Lib.hid hf00
  have HBW1 := Lib.hid hbw0
  have HKW1 := Lib.hid hkiw0
  have HYW1 := Lib.hid hyb0
  clear hf00 hbw0 hkiw0 hyb0 gu1 gr1
  rw [rounds_succ]
  go_wp2_with fail
  have hf01 := HF1.out.setCell (p := yb) (i := 1) (Or.inl (by simp)) (.int .i64 y1)
  have hbw1 := HBW1.out.setCell (p := ⟨yb, 1, none⟩) HWY.out (.int .i64 y1)
  have hkiw1 := HKW1.out.other (p := yb) 1 (by have := HNY.out; omega) (.int .i64 y1)
  have hyb1 := HYW1.out.puti 1 (.int .i64 y1)
  generalize V0.setCell ⟨yb, 1, none⟩ (.int .i64 y1) = V1 at hf01 hbw1 hkiw1 hyb1 ⊢
  clear su1 sr1 r0 z0
  obtain ⟨ub2, uo2, ue2, -, -, gu2⟩ := HUU.out _ _ hf01 (fun i hi => Or.inl hi) 2 i2 rfl
  cases ue2
  have su2 := gu2 0 _ rfl
  obtain ⟨rb2, ro2, re2, gr2⟩ := HRX.out _ hbw1 i2 y2 HY2.out
  cases re2
  have sr2 := gr2 0 _ rfl
  simp only [Nat.mul_one, Nat.add_zero, Nat.zero_mul] at su2 sr2
  have r0 : V1.cell? ⟨yb, 2, none⟩ = some (.int .i64 0) := hyb1.c rfl
  have z0 : V1.frozen? ⟨yb, 2, none⟩ = false := hyb1.z (v := .int .i64 0) rfl
  have HF2 := Lib.hid hf01
  have HBW2 := Lib.hid hbw1
  have HKW2 := Lib.hid hkiw1
  have HYW2 := Lib.hid hyb1
  clear hf01 hbw1 hkiw1 hyb1 gu2 gr2
  rw [rounds_succ]
  go_wp2_with fail
  have hf02 := HF2.out.setCell (p := yb) (i := 2) (Or.inl (by simp)) (.int .i64 y2)
  have hbw2 := HBW2.out.setCell (p := ⟨yb, 2, none⟩) HWY.out (.int .i64 y2)
  have hkiw2 := HKW2.out.other (p := yb) 2 (by have := HNY.out; omega) (.int .i64 y2)
  have hyb2 := HYW2.out.puti 2 (.int .i64 y2)
  generalize V1.setCell ⟨yb, 2, none⟩ (.int .i64 y2) = V2 at hf02 hbw2 hkiw2 hyb2 ⊢
  clear su2 sr2 r0 z0
  have KK : ∀ W : World, W.heap[yb]? = V2.heap[yb]? → W.heap[w.heap.size]? = V2.heap[w.heap.size]? → W.cell? ⟨yb, 0, none⟩ = some (.int .i64 y0) ∧ W.cell? ⟨yb, 1, none⟩ = some (.int .i64 y1) ∧ W.cell? ⟨yb, 2, none⟩ = some (.int .i64 y2) ∧ W.cell? ⟨w.heap.size, 0, none⟩ = some (.int .i64 op) := fun W g1 g2 => by
    have h1 : Blk W yb _ _ := g1.trans hyb2
    have h2 : Blk W w.heap.size _ _ := g2.trans hkiw2
    exact ⟨h1.c rfl, h1.c rfl, h1.c rfl, h2.c rfl⟩
  have K0 := KK V2 rfl rfl
  have K1 := KK V2.drew rfl rfl
  have HBZ := Lib.hid hbw2
  have HYZ := Lib.hid hyb2.lt
  have HKZ := Lib.hid hkiw2.lt
  clear hf02 hbw2 hkiw2 hyb2
  rw [rounds_succ]
  go_wp2_with fail
  have hD := HD.out V2.drew
  go_region_held3 (fun w' => w'.cell? ⟨yb, 0, none⟩ = some (.int .i64 y0) ∧ w'.cell? ⟨yb, 1, none⟩ = some (.int .i64 y1) ∧ w'.cell? ⟨yb, 2, none⟩ = some (.int .i64 y2) ∧ w'.cell? ⟨w.heap.size, 0, none⟩ = some (.int .i64 op))
    (first | exact K5 | exact K1 | exact K0)
    (first
      | (go_at_call 58
         (with_reducible refine hD.mono ?_)
         rintro e w5 ⟨rfl, hb5⟩
         have hb5' : Below V2.heap.size V2 w5 := below_next ((Below.refl V2.heap.size V2).drew) hb5
         have K5 := KK w5 (hb5'.block yb HYZ.out) (hb5'.block w.heap.size HKZ.out)))
  have HB5 := Lib.hid (below_next HBZ.out hb5')
  clear hD hb5 hb5' K0 K1 K5 KK
  go_wp2_with fail
  go_ret2
  rw [HR.out]
  exact ⟨rfl, HB5.out⟩
theorem rmade_any {w:World} {r sl inp:List Int} {first:Bool} {vin vr vs:Value} (h1:Sl intC 1 w vin inp) (h2:Sl intC 1 w vr r) (h3:Sl intC 1 w vs sl) (x:Cx.In) (hx:Cx.InOk r.length sl.length inp.length x) (h30:x.op≠30) (hf:∀ y∈r,Cx.fits y=true) :
  Calls Tryz.prog 30 #[.agg #[.int .i64 x.op,.int .i64 x.d,.int .i64 x.a,.int .i64 x.b,.int .i64 x.c,.int .i64 x.n],vin,vr,.agg #[vs,.bool first]] w fun e w'=>e=.returned (.tuple #[.int .i64 (Cx.madeS x inp r sl first).1,.int .i64 (Cx.madeS x inp r sl first).2])∧Below w.heap.size w w':=by
 have hr:=hx.reads
 have hc:=Cx.opsN_cases x.op
 by_cases he:x.op=3∨x.op=1∨x.op=2∨x.op=21∨x.op=19
 ·exact made_early h1 h2 h3 x hx he
 ·have h7:Cx.readsN x.op=Cx.opsN x.op:=by unfold Cx.readsN;rw[if_neg (by omega),if_neg h30,if_neg (by omega)]
  obtain⟨op,d,a,b,c,n⟩:=x
  simp only at hr hc h7 ⊢
  rcases hc with hc | hc | hc | hc
  ·exact rmade_ops1 h1 h2 h3 op d a b c n hx hc.1 hf
  ·exact rmade_ops2 h1 h2 h3 op d a b c n hx hc.1 hf
  ·exact rmade_ops3 h1 h2 h3 op d a b c n hx hc.1 hf
  ·omega
end Go.Proofs.YtbdbhdcbdfbnnaaGreatDoor
