/- The law ExprLevels, whatever its arguments: the walk. (Printed by gen/levels.py.) -/
import Derived.Test.YtmklieoikbgmpaaDoorJ40
set_option linter.unusedVariables false
set_option linter.unusedSimpArgs false
namespace Go.Proofs.YtmklieoikbgmpaaDoor
open Go.RowKit Go.Shelf Tx Px

def lvS : List ByteArray := [⟨#[45, 62]⟩, ⟨#[61, 62]⟩, ⟨#[115, 105, 110, 99, 101]⟩, ⟨#[111, 114]⟩, ⟨#[97, 110, 100]⟩, ⟨#[43]⟩, ⟨#[42]⟩]
def lvO : List Int := [19, 9, 20, 7, 6, 14, 16]
def lvT (x y : Nat) : ByteArray := ((((⟨#[97, 32]⟩ ++ lvS.getD x ⟨#[]⟩) ++ ⟨#[32, 98, 32]⟩) ++ lvS.getD y ⟨#[]⟩) ++ ⟨#[32, 99]⟩)
def lvF (x y : Nat) : Bool := decide (y < x) || (decide (x = y) && decide (1 < x))
def lvN (x y : Nat) (F : Fo) : Bool := decide ((F.flat 0).length = 5) && (match (F.flat 0)[4]? with
  | some n => decide (n.op = if lvF x y = true then lvO.getD y 0 else lvO.getD x 0) && decide (n.a = if lvF x y = true then 2 else 0) && decide (n.b = 3)
  | none => false)
def lvOk (x y : Nat) : Bool := decide ((lvT x y).size ≤ 100) && (Lx.lexS (lvT x y).data.toList).2.isNone && (match parse (toks (lvT x y).size (Lx.lexS (lvT x y).data.toList).1) 60 0 with
  | some (.ok (F, i)) => decide (i = (toks (lvT x y).size (Lx.lexS (lvT x y).data.toList).1).length) && lvN x y F
  | _ => false)
theorem lv_le : ∀ s ∈ lvS, s.size ≤ 5 := by
  intro s hs
  have h : (lvS.all fun s => decide (s.size ≤ 5)) = true := by kernel_rfl
  exact of_decide_eq_true (List.all_eq_true.1 h s hs)
theorem lv_all : ((List.range 7).all fun x => (List.range 7).all fun y => lvOk x y) = true := by kernel_rfl
theorem lv_read {x y : Nat} (hx : x < 7) (hy : y < 7) : (lvT x y).size ≤ 100 ∧ ∃ F n, RdS (lvT x y) (.ok F) ∧ (F.flat 0).length = 5 ∧ (F.flat 0)[4]? = some n ∧ (n.op = if lvF x y = true then lvO.getD y 0 else lvO.getD x 0) ∧ (n.a = if lvF x y = true then 2 else 0) ∧ n.b = 3 := by
  have h := List.all_eq_true.1 (List.all_eq_true.1 lv_all x (by simpa using hx)) y (by simpa using hy)
  unfold lvOk at h
  simp only [Bool.and_eq_true, decide_eq_true_eq, Option.isNone_iff_eq_none] at h
  obtain ⟨⟨h0, h1⟩, h2⟩ := h
  refine ⟨h0, ?_⟩
  split at h2
  · rename_i F i hp
    simp only [Bool.and_eq_true, decide_eq_true_eq] at h2
    obtain ⟨hi, hn⟩ := h2
    unfold lvN at hn
    simp only [Bool.and_eq_true, decide_eq_true_eq] at hn
    obtain ⟨h5, h6⟩ := hn
    split at h6
    · rename_i n hn4
      simp only [Bool.and_eq_true, decide_eq_true_eq] at h6
      refine ⟨F, n, ?_, h5, hn4, h6.1.1, h6.1.2, h6.2⟩
      unfold RdS
      rw [h1]
      refine ⟨_, ⟨60, hp⟩, ?_⟩
      rw [hi]
      simp
    · cases h6
  · cases h2
theorem fr_set (W : World) (g i : Nat) (v : Value) : Fr (fun k => k = g) W (W.setCell ⟨g, i, none⟩ v) :=
  ⟨rfl, rfl, rfl, by rw [set_size]; exact Nat.le_refl _, fun k _ hn => Below.heap_setCell _ _ _ _ (by show k ≠ g; exact hn)⟩
theorem lv_cell {α : Type} {f : α → Value} {W : World} {b T x : Nat} {l : List α} {v : α} (h : Blk W b (l.map f).toArray T) (hv : l[x]? = some v) : W.cell? ⟨b, x, none⟩ = some (f v) := by
  unfold Blk at h; simp [World.cell?, h, hv]
set_option maxRecDepth 100000 in
set_option maxHeartbeats 16000000 in
theorem exprLevels_any (a b : Int) (w : World) (G : Gl w) :
    Calls Tryd.prog 3 #[.int .i64 a, .int .i64 b] w fun e w' => e = .returned (.bool true) ∧ Below w.heap.size w w' := by
  obtain ⟨W0, hW0⟩ : ∃ W, W = (w.alloc (.cells #[.string ⟨#[45, 62]⟩, .string ⟨#[61, 62]⟩, .string ⟨#[115, 105, 110, 99, 101]⟩, .string ⟨#[111, 114]⟩, .string ⟨#[97, 110, 100]⟩, .string ⟨#[43]⟩, .string ⟨#[42]⟩] 9)).alloc (.cells #[.int .i64 19, .int .i64 9, .int .i64 20, .int .i64 7, .int .i64 6, .int .i64 14, .int .i64 16] 3) := ⟨_, rfl⟩
  have b0 : Below w.heap.size w W0 := by rw [hW0]; exact ((Below.refl _ _).alloc (Nat.le_refl _) _).alloc (by simp) _
  have K1 : Blk W0 w.heap.size (lvS.map Value.string).toArray 9 := by rw [hW0]; exact (Blk.new w _ _).below ((Below.refl _ _).alloc (Nat.le_refl _) _)
  have K2 : Blk W0 (w.heap.size + 1) (lvO.map (Value.int .i64)).toArray 3 := by rw [hW0]; have h := Blk.new (w.alloc (.cells #[.string ⟨#[45, 62]⟩, .string ⟨#[61, 62]⟩, .string ⟨#[115, 105, 110, 99, 101]⟩, .string ⟨#[111, 114]⟩, .string ⟨#[97, 110, 100]⟩, .string ⟨#[43]⟩, .string ⟨#[42]⟩] 9)) #[.int .i64 19, .int .i64 9, .int .i64 20, .int .i64 7, .int .i64 6, .int .i64 14, .int .i64 16] 3; rw [show (w.alloc (.cells #[.string ⟨#[45, 62]⟩, .string ⟨#[61, 62]⟩, .string ⟨#[115, 105, 110, 99, 101]⟩, .string ⟨#[111, 114]⟩, .string ⟨#[97, 110, 100]⟩, .string ⟨#[43]⟩, .string ⟨#[42]⟩] 9)).heap.size = w.heap.size + 1 from by simp] at h; exact h
  have HLV := Lib.hid (fun W (hW : Below w.heap.size w W) => live04_any W (G.below hW))
  have HGB := Lib.hid (fun W (hW : Below w.heap.size w W) => G.below hW)
  have HW0 := Lib.hid hW0
  have HB0 := Lib.hid b0
  have HK1 := Lib.hid K1
  have HK2 := Lib.hid K2
  obtain ⟨x1, hx1⟩ : ∃ b, b = w.heap.size := ⟨_, rfl⟩
  obtain ⟨x2, hx2⟩ : ∃ b, b = w.heap.size + 1 := ⟨_, rfl⟩
  rw [← hx1] at HK1
  rw [← hx2] at HK2
  have HX1 := Lib.hid hx1
  have HX2 := Lib.hid hx2
  clear hW0 b0 K1 K2 hx1 hx2 G
  go_enter Tryd.func3, Tryd.ntmps3
  go_upto_region 3 with fail
  rw [← HW0.out, ← HX2.out, ← HX1.out]
  by_cases hin : 0 ≤ a ∧ a ≤ 6 ∧ 0 ≤ b ∧ b ≤ 6
  · obtain ⟨x, rfl⟩ : ∃ x : Nat, a = (x : Int) := ⟨a.toNat, by omega⟩
    obtain ⟨y, rfl⟩ : ∃ y : Nat, b = (y : Int) := ⟨b.toNat, by omega⟩
    obtain ⟨ha0, ha6, hb0, hb6⟩ := hin
    have hx7 : x < 7 := by omega
    have hy7 : y < 7 := by omega
    obtain ⟨hsz, F, nd, hrd, hfl, hnd, hop, hna, hnb⟩ := lv_read hx7 hy7
    obtain ⟨sx, hsx⟩ : ∃ v, lvS[x]? = some v := ⟨_, List.getElem?_eq_getElem (by exact hx7)⟩
    obtain ⟨sy, hsy⟩ : ∃ v, lvS[y]? = some v := ⟨_, List.getElem?_eq_getElem (by exact hy7)⟩
    obtain ⟨px, hpx⟩ : ∃ v, lvO[x]? = some v := ⟨_, List.getElem?_eq_getElem (by exact hx7)⟩
    obtain ⟨py, hpy⟩ : ∃ v, lvO[y]? = some v := ⟨_, List.getElem?_eq_getElem (by exact hy7)⟩
    have hT : lvT x y = ((((⟨#[97, 32]⟩ ++ sx) ++ ⟨#[32, 98, 32]⟩) ++ sy) ++ ⟨#[32, 99]⟩) := by unfold lvT; rw [List.getD_eq_getElem?_getD, List.getD_eq_getElem?_getD, hsx, hsy]; rfl
    rw [List.getD_eq_getElem?_getD, List.getD_eq_getElem?_getD, hpx, hpy] at hop
    simp only [Option.getD_some] at hop
    have HRD : Hid (∀ W, Below w.heap.size w W → Calls Tryd.prog 5 #[.string ((((⟨#[97, 32]⟩ ++ sx) ++ ⟨#[32, 98, 32]⟩) ++ sy) ++ ⟨#[32, 99]⟩)] W (RdPost W (.ok F))) := fun W hW => by rw [← hT]; exact pRead_any (lvT x y) (by omega) _ hrd W (HGB.out W hW)
    have k1 := lv_cell HK1.out hsx
    have k2 := lv_cell HK1.out hsy
    have HPX := Lib.hid hpx
    have HPY := Lib.hid hpy
    have HFL := Lib.hid hfl
    have HND := Lib.hid hnd
    have HOP := Lib.hid hop
    have HNA := Lib.hid hna
    have hx1lt := HK1.out.lt
    have h5x : sx.size ≤ 5 := lv_le sx (List.mem_of_getElem? hsx)
    have h5y : sy.size ≤ 5 := lv_le sy (List.mem_of_getElem? hsy)
    have ad1 : ¬ 9223372036854775807 < 2 + sx.size := by omega
    have ad2 : ¬ 9223372036854775807 < 2 + sx.size + 3 := by omega
    have ad3 : ¬ 9223372036854775804 < 2 + sx.size := by omega
    have ad4 : ¬ 9223372036854775807 < 2 + sx.size + 3 + sy.size := by omega
    have ad5 : ¬ 9223372036854775807 < 2 + sx.size + 3 + sy.size + 2 := by omega
    have ad6 : ¬ 9223372036854775805 < 2 + sx.size + 3 + sy.size := by omega
    clear hsz hrd hfl hnd hop hna hsx hsy hpx hpy hT
    have hx0 : (0 : Int) ≤ (x : Int) := by omega
    have hy0 : (0 : Int) ≤ (y : Int) := by omega
    have hx7i : (x : Int) < 7 := by omega
    have hy7i : (y : Int) < 7 := by omega
    have hx6 : ¬ (6 : Int) < (x : Int) := by omega
    have hy6 : ¬ (6 : Int) < (y : Int) := by omega
    have hxn : ¬ (x : Int) < 0 := by omega
    have hyn : ¬ (y : Int) < 0 := by omega
    go_wp2_with fail
    have K0 : W0.cell? ⟨x1, x, none⟩ = some (.string sx) ∧ W0.cell? ⟨x1, y, none⟩ = some (.string sy) := ⟨k1, k2⟩
    have K1 : W0.drew.cell? ⟨x1, x, none⟩ = some (.string sx) ∧ W0.drew.cell? ⟨x1, y, none⟩ = some (.string sy) := ⟨k1, k2⟩
    have hne : ¬ (x1 = W0.heap.size) := by omega
    have KA : ∀ o, (W0.alloc o).drew.cell? ⟨x1, x, none⟩ = some (.string sx) ∧ (W0.alloc o).drew.cell? ⟨x1, y, none⟩ = some (.string sy) := fun o => ⟨(((Below.refl W0.heap.size W0).alloc (Nat.le_refl _) o).cell (p := ⟨x1, x, none⟩) hx1lt).trans k1, (((Below.refl W0.heap.size W0).alloc (Nat.le_refl _) o).cell (p := ⟨x1, y, none⟩) hx1lt).trans k2⟩
    have KB : ∀ o, (W0.alloc o).cell? ⟨x1, x, none⟩ = some (.string sx) ∧ (W0.alloc o).cell? ⟨x1, y, none⟩ = some (.string sy) := fun o => ⟨(((Below.refl W0.heap.size W0).alloc (Nat.le_refl _) o).cell (p := ⟨x1, x, none⟩) hx1lt).trans k1, (((Below.refl W0.heap.size W0).alloc (Nat.le_refl _) o).cell (p := ⟨x1, y, none⟩) hx1lt).trans k2⟩
    have BA : Below W0.heap.size W0 (W0.alloc (.cells #[.int .i64 0, .int .i64 0] 29)).drew := ((Below.refl _ _).alloc (Nat.le_refl _) _).drew
    have hltA : x1 < (W0.alloc (.cells #[.int .i64 0, .int .i64 0] 29)).drew.heap.size := Nat.lt_of_lt_of_le hx1lt BA.size
    have KF0 : Hid (Blk (W0.alloc (.cells #[.int .i64 0, .int .i64 0] 29)).drew W0.heap.size #[.int .i64 0, .int .i64 0] 29) := Blk.new W0 _ _
    have hszA : (W0.alloc (.cells #[.int .i64 0, .int .i64 0] 29)).drew.heap.size = W0.heap.size + 1 := by simp [World.drew]
    have HBA := Lib.hid BA
    have HSA := Lib.hid hszA
    clear hszA
    go_region_held3 (fun w' => w'.cell? ⟨x1, x, none⟩ = some (.string sx) ∧ w'.cell? ⟨x1, y, none⟩ = some (.string sy))
      (first | exact K2 | exact K3 _ | exact K5 _ _ | exact K1 | exact K0 | exact KA _ | exact KB _ | fail)
      (first | (go_at_call 5; (with_reducible refine (HRD.out W0.drew (below_next HB0.out ((Below.refl _ _).drew))).mono ?_); rintro e w2 ⟨hb2, v, rfl, hO⟩; obtain ⟨ea, ec, rfl, -⟩ := hO.form; have hO := Lib.hid hO; have K2 : w2.cell? ⟨x1, x, none⟩ = some (.string sx) ∧ w2.cell? ⟨x1, y, none⟩ = some (.string sy) := ⟨(hb2.cell (p := ⟨x1, x, none⟩) hx1lt).trans K1.1, (hb2.cell (p := ⟨x1, y, none⟩) hx1lt).trans K1.2⟩; have hlt2 : x1 < w2.heap.size := Nat.lt_of_lt_of_le hx1lt hb2.size; have K3 : ∀ o, (w2.alloc o).cell? ⟨x1, x, none⟩ = some (.string sx) ∧ (w2.alloc o).cell? ⟨x1, y, none⟩ = some (.string sy) := fun o => ⟨(((Below.refl w2.heap.size w2).alloc (Nat.le_refl _) o).cell (p := ⟨x1, x, none⟩) hlt2).trans K2.1, (((Below.refl w2.heap.size w2).alloc (Nat.le_refl _) o).cell (p := ⟨x1, y, none⟩) hlt2).trans K2.2⟩) | (go_at_call 5; (with_reducible refine (HRD.out (W0.alloc (.cells #[.int .i64 0, .int .i64 0] 29)).drew (below_next HB0.out BA)).mono ?_); rintro e w2 ⟨hb2, v, rfl, hO⟩; obtain ⟨ea, ec, rfl, -⟩ := hO.form; have hO := Lib.hid hO; have K2 : w2.cell? ⟨x1, x, none⟩ = some (.string sx) ∧ w2.cell? ⟨x1, y, none⟩ = some (.string sy) := ⟨(hb2.cell (p := ⟨x1, x, none⟩) hltA).trans (KA _).1, (hb2.cell (p := ⟨x1, y, none⟩) hltA).trans (KA _).2⟩; have KF : Blk w2 W0.heap.size #[.int .i64 0, .int .i64 0] 29 := KF0.out.below hb2; obtain ⟨z0, z1, zf0, zf1⟩ := two_cells KF; have KF := Lib.hid KF; have K5 : ∀ u v, ((w2.setCell ⟨W0.heap.size, 0, none⟩ u).setCell ⟨W0.heap.size, 1, none⟩ v).cell? ⟨x1, x, none⟩ = some (.string sx) ∧ ((w2.setCell ⟨W0.heap.size, 0, none⟩ u).setCell ⟨W0.heap.size, 1, none⟩ v).cell? ⟨x1, y, none⟩ = some (.string sy) := fun u v => ⟨((Fr.trans (fr_set w2 W0.heap.size 0 u) (fr_set _ _ 1 v) (fun _ _ q => q)).cell (p := ⟨x1, x, none⟩) (Nat.lt_of_lt_of_le hltA hb2.size) hne).trans K2.1, ((Fr.trans (fr_set w2 W0.heap.size 0 u) (fr_set _ _ 1 v) (fun _ _ q => q)).cell (p := ⟨x1, y, none⟩) (Nat.lt_of_lt_of_le hltA hb2.size) hne).trans K2.2⟩))
    · obtain ⟨V, hV⟩ : ∃ V, V = w2.alloc (.cells #[.int .i64 0, .int .i64 0] 29) := ⟨_, rfl⟩
      have bV : Below W0.heap.size W0 V := by rw [hV]; exact below_next (below_next ((Below.refl W0.heap.size W0).drew) hb2) ((Below.refl _ _).alloc (Nat.le_refl _) _)
      have KV : Blk V w2.heap.size #[.int .i64 0, .int .i64 0] 29 := by rw [hV]; exact Blk.new w2 _ _
      have OV : OwnE W0.heap.size V (.slice ea (F.flat 0).length ec) (F.flat 0) := by rw [hV]; exact (hO.out.mono (Nat.le_refl _)).below ((Below.refl _ _).alloc (Nat.le_refl _) _)
      have HBV : Hid (Below w.heap.size w V) := below_next HB0.out bV
      have hl := HLV.out V HBV.out
      have m1 := lv_cell (HK2.out.below bV) HPX.out
      have m2 := lv_cell (HK2.out.below bV) HPY.out
      obtain ⟨y0, y1, -, -⟩ := two_cells KV
      obtain ⟨a_, c_, e_, -, hcell⟩ := Sl.form OV.isE
      cases e_
      obtain ⟨gb, go_, rfl, hj⟩ := hcell V (Below.refl _ _) 4 nd HND.out
      obtain ⟨n0, n1, n2, -, -, -⟩ := nd_cells hj
      rw [HFL.out]
      rw [hnb] at n2
      have HV := Lib.hid hV
      clear hV bV KV OV hcell hj K0 K1 KA KB BA hltA
      rw [← HV.out]
      by_cases hc1 : y < x
      · have hc1i : (y : Int) < (x : Int) := by omega
        have HF : lvF x y = true := by unfold lvF; simp; omega
        have hop := HOP.out
        have hna := HNA.out
        rw [HF] at hop hna
        simp only [if_true] at hop hna
        rw [hop] at n0
        rw [hna] at n1
        clear HF hop hna
        go_wp2_with fail
        refine hl.mono ?_
        rintro e w9 ⟨rfl, hb9⟩
        have HB9 := Lib.hid (below_next HBV.out hb9)
        clear hl hb9
        go_wp2_with fail
        go_ret
        exact ⟨rfl, HB9.out⟩
      · have hc1i : ¬ (y : Int) < (x : Int) := by omega
        by_cases hc2 : x = y
        · have hc2i : ((x : Int) == (y : Int)) = true := by rw [beq_iff_eq]; omega
          have hpp : px = py := by have h1 := HPX.out; have h2 := HPY.out; rw [hc2, h2] at h1; exact (Option.some.inj h1).symm
          subst hpp
          by_cases hc3 : 1 < x
          · have hc3i : (1 : Int) < (x : Int) := by omega
            have hc3y : (1 : Int) < (y : Int) := by omega
            have HC2 := Lib.hid hc2
            clear hc2
            have hc2 := HC2.out
            clear HC2
            have HF : lvF x y = true := by unfold lvF; simp; omega
            have hop := HOP.out
            have hna := HNA.out
            rw [HF] at hop hna
            simp only [if_true] at hop hna
            rw [hop] at n0
            rw [hna] at n1
            clear HF hop hna
            go_wp2_with fail
            refine hl.mono ?_
            rintro e w9 ⟨rfl, hb9⟩
            have HB9 := Lib.hid (below_next HBV.out hb9)
            clear hl hb9
            go_wp2_with fail
            go_ret
            exact ⟨rfl, HB9.out⟩
          · have hc3i : ¬ (1 : Int) < (x : Int) := by omega
            have hc3y : ¬ (1 : Int) < (y : Int) := by omega
            have HF : lvF x y = false := by unfold lvF; simp; omega
            have hop := HOP.out
            have hna := HNA.out
            rw [HF] at hop hna
            simp only [Bool.false_eq_true, if_false] at hop hna
            rw [hop] at n0
            rw [hna] at n1
            clear HF hop hna
            go_wp2_with fail
            refine hl.mono ?_
            rintro e w9 ⟨rfl, hb9⟩
            have HB9 := Lib.hid (below_next HBV.out hb9)
            clear hl hb9
            go_wp2_with fail
            go_ret
            exact ⟨rfl, HB9.out⟩
        · have hc2i : ((x : Int) == (y : Int)) = false := by rw [beq_eq_false_iff_ne]; omega
          have HF : lvF x y = false := by unfold lvF; simp; omega
          have hop := HOP.out
          have hna := HNA.out
          rw [HF] at hop hna
          simp only [Bool.false_eq_true, if_false] at hop hna
          rw [hop] at n0
          rw [hna] at n1
          clear HF hop hna
          go_wp2_with fail
          refine hl.mono ?_
          rintro e w9 ⟨rfl, hb9⟩
          have HB9 := Lib.hid (below_next HBV.out hb9)
          clear hl hb9
          go_wp2_with fail
          go_ret
          exact ⟨rfl, HB9.out⟩
    · obtain ⟨V, hV⟩ : ∃ V, V = (w2.setCell ⟨W0.heap.size, 0, none⟩ (.int .i64 0)).setCell ⟨W0.heap.size, 1, none⟩ (.int .i64 0) := ⟨_, rfl⟩
      have bV : Below W0.heap.size W0 V := by rw [hV]; exact ((below_next HBA.out hb2).setCell (Nat.le_refl _) _).setCell (Nat.le_refl _) _
      have KV : Blk V W0.heap.size #[.int .i64 0, .int .i64 0] 29 := by rw [hV]; have h := Blk.setAt (Blk.setAt KF.out 0 (.int .i64 0)) 1 (.int .i64 0); simpa using h
      have OV : OwnE W0.heap.size V (.slice ea (F.flat 0).length ec) (F.flat 0) := by rw [hV]; exact Fr.ownsRow (S := fun k => k = W0.heap.size) (Fr.trans (fr_set w2 W0.heap.size 0 _) (fr_set _ _ 1 _) (fun _ _ q => q)) (hO.out.mono (show W0.heap.size ≤ (W0.alloc (.cells #[.int .i64 0, .int .i64 0] 29)).drew.heap.size from HBA.out.size)) (fun k hk (e : k = W0.heap.size) => by have h := (World.ownsRow.lt hO.out k hk).1; have h2 := HSA.out; omega)
      have HBV : Hid (Below w.heap.size w V) := below_next HB0.out bV
      have hl := HLV.out V HBV.out
      have m1 := lv_cell (HK2.out.below bV) HPX.out
      have m2 := lv_cell (HK2.out.below bV) HPY.out
      obtain ⟨y0, y1, -, -⟩ := two_cells KV
      obtain ⟨a_, c_, e_, -, hcell⟩ := Sl.form OV.isE
      cases e_
      obtain ⟨gb, go_, rfl, hj⟩ := hcell V (Below.refl _ _) 4 nd HND.out
      obtain ⟨n0, n1, n2, -, -, -⟩ := nd_cells hj
      rw [HFL.out]
      rw [hnb] at n2
      have HV := Lib.hid hV
      clear hV bV KV OV hcell hj K0 K1 KA KB BA hltA
      rw [← HV.out]
      by_cases hc1 : y < x
      · have hc1i : (y : Int) < (x : Int) := by omega
        have HF : lvF x y = true := by unfold lvF; simp; omega
        have hop := HOP.out
        have hna := HNA.out
        rw [HF] at hop hna
        simp only [if_true] at hop hna
        rw [hop] at n0
        rw [hna] at n1
        clear HF hop hna
        go_wp2_with fail
        refine hl.mono ?_
        rintro e w9 ⟨rfl, hb9⟩
        have HB9 := Lib.hid (below_next HBV.out hb9)
        clear hl hb9
        go_wp2_with fail
        go_ret
        exact ⟨rfl, HB9.out⟩
      · have hc1i : ¬ (y : Int) < (x : Int) := by omega
        by_cases hc2 : x = y
        · have hc2i : ((x : Int) == (y : Int)) = true := by rw [beq_iff_eq]; omega
          have hpp : px = py := by have h1 := HPX.out; have h2 := HPY.out; rw [hc2, h2] at h1; exact (Option.some.inj h1).symm
          subst hpp
          by_cases hc3 : 1 < x
          · have hc3i : (1 : Int) < (x : Int) := by omega
            have hc3y : (1 : Int) < (y : Int) := by omega
            have HC2 := Lib.hid hc2
            clear hc2
            have hc2 := HC2.out
            clear HC2
            have HF : lvF x y = true := by unfold lvF; simp; omega
            have hop := HOP.out
            have hna := HNA.out
            rw [HF] at hop hna
            simp only [if_true] at hop hna
            rw [hop] at n0
            rw [hna] at n1
            clear HF hop hna
            go_wp2_with fail
            refine hl.mono ?_
            rintro e w9 ⟨rfl, hb9⟩
            have HB9 := Lib.hid (below_next HBV.out hb9)
            clear hl hb9
            go_wp2_with fail
            go_ret
            exact ⟨rfl, HB9.out⟩
          · have hc3i : ¬ (1 : Int) < (x : Int) := by omega
            have hc3y : ¬ (1 : Int) < (y : Int) := by omega
            have HF : lvF x y = false := by unfold lvF; simp; omega
            have hop := HOP.out
            have hna := HNA.out
            rw [HF] at hop hna
            simp only [Bool.false_eq_true, if_false] at hop hna
            rw [hop] at n0
            rw [hna] at n1
            clear HF hop hna
            go_wp2_with fail
            refine hl.mono ?_
            rintro e w9 ⟨rfl, hb9⟩
            have HB9 := Lib.hid (below_next HBV.out hb9)
            clear hl hb9
            go_wp2_with fail
            go_ret
            exact ⟨rfl, HB9.out⟩
        · have hc2i : ((x : Int) == (y : Int)) = false := by rw [beq_eq_false_iff_ne]; omega
          have HF : lvF x y = false := by unfold lvF; simp; omega
          have hop := HOP.out
          have hna := HNA.out
          rw [HF] at hop hna
          simp only [Bool.false_eq_true, if_false] at hop hna
          rw [hop] at n0
          rw [hna] at n1
          clear HF hop hna
          go_wp2_with fail
          refine hl.mono ?_
          rintro e w9 ⟨rfl, hb9⟩
          have HB9 := Lib.hid (below_next HBV.out hb9)
          clear hl hb9
          go_wp2_with fail
          go_ret
          exact ⟨rfl, HB9.out⟩
  · have hl := HLV.out W0 HB0.out
    by_cases h1 : a < 0
    · clear hin
      go_wp2_with fail
      refine hl.mono ?_
      rintro e w9 ⟨rfl, hb9⟩
      have HB9 := Lib.hid (below_next HB0.out hb9)
      clear hl hb9
      go_wp2_with fail
      go_ret
      exact ⟨rfl, HB9.out⟩
    · by_cases h2 : 6 < a
      · clear hin
        go_wp2_with fail
        refine hl.mono ?_
        rintro e w9 ⟨rfl, hb9⟩
        have HB9 := Lib.hid (below_next HB0.out hb9)
        clear hl hb9
        go_wp2_with fail
        go_ret
        exact ⟨rfl, HB9.out⟩
      · by_cases h3 : b < 0
        · clear hin
          go_wp2_with fail
          refine hl.mono ?_
          rintro e w9 ⟨rfl, hb9⟩
          have HB9 := Lib.hid (below_next HB0.out hb9)
          clear hl hb9
          go_wp2_with fail
          go_ret
          exact ⟨rfl, HB9.out⟩
        · have h4 : 6 < b := by omega
          clear hin
          go_wp2_with fail
          refine hl.mono ?_
          rintro e w9 ⟨rfl, hb9⟩
          have HB9 := Lib.hid (below_next HB0.out hb9)
          clear hl hb9
          go_wp2_with fail
          go_ret
          exact ⟨rfl, HB9.out⟩
end Go.Proofs.YtmklieoikbgmpaaDoor
