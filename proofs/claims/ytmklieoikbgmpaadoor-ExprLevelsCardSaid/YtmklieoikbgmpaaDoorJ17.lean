/- The tables of the program's reader of expressions: levels, prefixes: the walk. (Printed by gen/explev.py.) -/
import Derived.Test.YtmklieoikbgmpaaDoorJ15
import Derived.Test.YtmklieoikbgmpaaDoorJ16
namespace Go.Proofs.YtmklieoikbgmpaaDoor
open Go.RowKit Go.Shelf Tx Px
theorem keyText : KeyLaw' Tryd.prog 9 Value.string := keyLaw_str Tryd.underlying9
def lvl : Nat → List (ByteArray × Int)
  | 0 => [(⟨#[45, 62]⟩, 19)]
  | 1 => [(⟨#[61, 62]⟩, 9)]
  | 2 => [(⟨#[115, 105, 110, 99, 101]⟩, 20)]
  | 3 => [(⟨#[111, 114]⟩, 7), (⟨#[120, 111, 114]⟩, 8)]
  | 4 => [(⟨#[97, 110, 100]⟩, 6)]
  | 5 => [(⟨#[61]⟩, 10), (⟨#[60, 62]⟩, 11), (⟨#[60]⟩, 12), (⟨#[60, 61]⟩, 13), (⟨#[62]⟩, (-12)), (⟨#[62, 61]⟩, (-13))]
  | 6 => [(⟨#[43]⟩, 14), (⟨#[45]⟩, 15)]
  | 7 => [(⟨#[42]⟩, 16), (⟨#[100, 105, 118]⟩, 17), (⟨#[109, 111, 100]⟩, 18)]
  | _ => []
def preL : List (ByteArray × Int) := [(⟨#[110, 111, 116]⟩, 4), (⟨#[45]⟩, 5), (⟨#[112, 114, 101]⟩, 21), (⟨#[111, 110, 99, 101]⟩, 22), (⟨#[104, 105, 115, 116]⟩, 23), (⟨#[112, 114, 101, 118]⟩, 24), (⟨#[119, 105, 116, 104, 105, 110]⟩, 25)]
theorem look_lvl (n : Nat) (s : ByteArray) : Px.opAt n s = (look s (lvl n)).map fun v => if v < 0 then (-v, true) else (v, false) := by
  have hb : ∀ l : List UInt8, (s = bs l) = ((⟨l.toArray⟩ : ByteArray) = s) := fun l => by rw [eq_iff_iff]; exact ⟨fun h => h.symm, fun h => h.symm⟩
  match n with
  | 0 =>
    simp only [Px.opAt, lvl, look, hb]
    repeat' split
    all_goals first | rfl | (exfalso; simp_all; done)
  | 1 =>
    simp only [Px.opAt, lvl, look, hb]
    repeat' split
    all_goals first | rfl | (exfalso; simp_all; done)
  | 2 =>
    simp only [Px.opAt, lvl, look, hb]
    repeat' split
    all_goals first | rfl | (exfalso; simp_all; done)
  | 3 =>
    simp only [Px.opAt, lvl, look, hb]
    repeat' split
    all_goals first | rfl | (exfalso; simp_all; done)
  | 4 =>
    simp only [Px.opAt, lvl, look, hb]
    repeat' split
    all_goals first | rfl | (exfalso; simp_all; done)
  | 5 =>
    simp only [Px.opAt, lvl, look, hb]
    repeat' split
    all_goals first | rfl | (exfalso; simp_all; done)
  | 6 =>
    simp only [Px.opAt, lvl, look, hb]
    repeat' split
    all_goals first | rfl | (exfalso; simp_all; done)
  | 7 =>
    simp only [Px.opAt, lvl, look, hb]
    repeat' split
    all_goals first | rfl | (exfalso; simp_all; done)
  | n + 8 => rfl
theorem look_pre (s : ByteArray) : preAt s = look s preL := by
  have hb : ∀ l : List UInt8, (s = bs l) = ((⟨l.toArray⟩ : ByteArray) = s) := fun l => by rw [eq_iff_iff]; exact ⟨fun h => h.symm, fun h => h.symm⟩
  simp only [preAt, preL, look, hb]; repeat' split
  all_goals first | rfl | (exfalso; simp_all)
theorem lvl_bound {n : Nat} {s : ByteArray} {v : Int} (h : look s (lvl n) = some v) : -20 ≤ v ∧ v ≤ 20 ∧ v ≠ 0 := by
  have hm := look_mem h
  match n, hm with
  | 0, hm => simp only [lvl, List.mem_cons, Prod.mk.injEq, List.not_mem_nil, or_false] at hm; omega
  | 1, hm => simp only [lvl, List.mem_cons, Prod.mk.injEq, List.not_mem_nil, or_false] at hm; omega
  | 2, hm => simp only [lvl, List.mem_cons, Prod.mk.injEq, List.not_mem_nil, or_false] at hm; omega
  | 3, hm => simp only [lvl, List.mem_cons, Prod.mk.injEq, List.not_mem_nil, or_false] at hm; omega
  | 4, hm => simp only [lvl, List.mem_cons, Prod.mk.injEq, List.not_mem_nil, or_false] at hm; omega
  | 5, hm => simp only [lvl, List.mem_cons, Prod.mk.injEq, List.not_mem_nil, or_false] at hm; omega
  | 6, hm => simp only [lvl, List.mem_cons, Prod.mk.injEq, List.not_mem_nil, or_false] at hm; omega
  | 7, hm => simp only [lvl, List.mem_cons, Prod.mk.injEq, List.not_mem_nil, or_false] at hm; omega
  | n + 8, hm => simp [lvl] at hm
theorem look_noS (n : Nat) : look noS (lvl n) = none := by
  have h := look_lvl n noS
  match n with
  | 0 => decide
  | 1 => decide
  | 2 => decide
  | 3 => decide
  | 4 => decide
  | 5 => decide
  | 6 => decide
  | 7 => decide
  | n + 8 => rfl
def LvAt (lb : Nat) (ms : Nat → Nat) (w : World) : Prop := ∀ n, n < 8 → MapIs Value.string vI w (ms n) (lvl n) ∧ w.cell? ⟨lb, n * 3, none⟩ = some (.map (some (ms n))) ∧ w.cell? ⟨lb, n * 3 + 1, none⟩ = some (.bool (decide (n ≤ 1))) ∧ w.cell? ⟨lb, n * 3 + 2, none⟩ = some (.bool (decide (n = 5)))
theorem LvAt.fr {lb : Nat} {ms : Nat → Nat} {w w' : World} {S : Nat → Prop} (h : LvAt lb ms w) (hf : Fr S w w') (hs : ∀ k, k < w.heap.size → ¬ S k) : LvAt lb ms w' := fun n hn => by
  obtain ⟨h1, h2, h3, h4⟩ := h n hn
  have hl := World.block_lt_of_cell? w _ h2
  exact ⟨h1.of_block (hf.block _ h1.lt (hs _ h1.lt)), (hf.cell (p := ⟨lb, n * 3, none⟩) hl (hs _ hl)).trans h2, (hf.cell (p := ⟨lb, n * 3 + 1, none⟩) hl (hs _ hl)).trans h3, (hf.cell (p := ⟨lb, n * 3 + 2, none⟩) hl (hs _ hl)).trans h4⟩
theorem grown_below {B : Nat} {w w' : World} {row : Option Nat} (h : w.grownBy w' row) (hB : B ≤ w.heap.size) (hr : ∀ q, row = some q → B ≤ q) : Below B w w' :=
  ⟨h.os, h.tape, h.output, h.size, fun k hk => h.block k (by omega) (fun e => by have := hr k e.symm; omega)⟩
theorem below_made {w w' w2 : World} {m : Nat} {B : Nat} (h : Below B w w') (hB : B ≤ m) (hs : B ≤ w'.heap.size) (hg : w'.grownBy w2 (some m)) : Below B w w2 :=
  h.trans (grown_below hg hs (fun q hq => by cases hq; exact hB))
theorem map_past {κ ν : Type} {kc : κ → Value} {vc : ν → Value} {w w' : World} {m : Nat} {l : List (κ × ν)} (h : MapIs kc vc w m l) (hb : Below w.heap.size w w') : MapIs kc vc w' m l := h.of_block (hb.block m h.lt)
set_option maxRecDepth 100000 in
set_option maxHeartbeats 4000000 in
theorem prefixes_any (w : World) : Calls Tryd.prog 14 #[] w fun e w' => ∃ m, e = .returned (.map (some m)) ∧ w.heap.size ≤ m ∧ MapIs Value.string vI w' m preL ∧ Below w.heap.size w w' := by
  have hmm := @run_makeMap Tryd.prog
  have hm0 := MapIs.made Value.string vI w
  have hb0 : Below w.heap.size w (w.alloc (.map #[] 0)) := (Below.refl _ _).alloc (Nat.le_refl _) _
  have hs0 : w.heap.size ≤ (w.alloc (.map #[] 0)).heap.size := by simp
  go_enter Tryd.func14, Tryd.ntmps14
  go_wp2_with (first
    | (refine wpList_insert_is rfl _ _ _ _ rfl keyText Tryd.underlying52 hm6 rfl (⟨#[119, 105, 116, 104, 105, 110]⟩ : ByteArray) (25 : Int) rfl rfl ?_; intro w7 hm7 hg7; have hb7 := below_made hb6 (Nat.le_refl _) hs6 hg7; have hs7 := Nat.le_trans hs6 hg7.size)
    | (refine wpList_insert_is rfl _ _ _ _ rfl keyText Tryd.underlying52 hm5 rfl (⟨#[112, 114, 101, 118]⟩ : ByteArray) (24 : Int) rfl rfl ?_; intro w6 hm6 hg6; have hb6 := below_made hb5 (Nat.le_refl _) hs5 hg6; have hs6 := Nat.le_trans hs5 hg6.size)
    | (refine wpList_insert_is rfl _ _ _ _ rfl keyText Tryd.underlying52 hm4 rfl (⟨#[104, 105, 115, 116]⟩ : ByteArray) (23 : Int) rfl rfl ?_; intro w5 hm5 hg5; have hb5 := below_made hb4 (Nat.le_refl _) hs4 hg5; have hs5 := Nat.le_trans hs4 hg5.size)
    | (refine wpList_insert_is rfl _ _ _ _ rfl keyText Tryd.underlying52 hm3 rfl (⟨#[111, 110, 99, 101]⟩ : ByteArray) (22 : Int) rfl rfl ?_; intro w4 hm4 hg4; have hb4 := below_made hb3 (Nat.le_refl _) hs3 hg4; have hs4 := Nat.le_trans hs3 hg4.size)
    | (refine wpList_insert_is rfl _ _ _ _ rfl keyText Tryd.underlying52 hm2 rfl (⟨#[112, 114, 101]⟩ : ByteArray) (21 : Int) rfl rfl ?_; intro w3 hm3 hg3; have hb3 := below_made hb2 (Nat.le_refl _) hs2 hg3; have hs3 := Nat.le_trans hs2 hg3.size)
    | (refine wpList_insert_is rfl _ _ _ _ rfl keyText Tryd.underlying52 hm1 rfl (⟨#[45]⟩ : ByteArray) (5 : Int) rfl rfl ?_; intro w2 hm2 hg2; have hb2 := below_made hb1 (Nat.le_refl _) hs1 hg2; have hs2 := Nat.le_trans hs1 hg2.size)
    | (refine wpList_insert_is rfl _ _ _ _ rfl keyText Tryd.underlying52 hm0 rfl (⟨#[110, 111, 116]⟩ : ByteArray) (4 : Int) rfl rfl ?_; intro w1 hm1 hg1; have hb1 := below_made hb0 (Nat.le_refl _) hs0 hg1; have hs1 := Nat.le_trans hs0 hg1.size))
  go_ret
  exact ⟨_, rfl, Nat.le_refl _, hm7, hb7⟩
set_option maxRecDepth 100000 in
set_option maxHeartbeats 8000000 in
theorem levels_any (w : World) : Calls Tryd.prog 13 #[] w fun e w' => ∃ lb ms, e = .returned (.slice (some ⟨lb, 0, none⟩) 8 8) ∧ w.heap.size ≤ lb ∧ LvAt lb ms w' ∧ Below w.heap.size w w' := by
  have hmm := @run_makeMap Tryd.prog
  have ha0 := Below.refl w.heap.size w
  have hz0 := Nat.le_refl w.heap.size
  have hm0 := MapIs.made Value.string vI w
  have hb0 : Below w.heap.size w (w.alloc (.map #[] 0)) := (Below.refl _ _).alloc (Nat.le_refl _) _
  have hs0 : w.heap.size ≤ (w.alloc (.map #[] 0)).heap.size := by simp
  go_enter Tryd.func13, Tryd.ntmps13
  go_wp2_with (first
    | (refine wpList_insert_is rfl _ _ _ _ rfl keyText Tryd.underlying52 hm16 rfl (⟨#[109, 111, 100]⟩ : ByteArray) (18 : Int) rfl rfl ?_; intro w17 hm17 hg17; have hb17 := below_made hb16 (Nat.le_refl _) hs16 hg17; have hs17 := Nat.le_trans hs16 hg17.size; have hmS8 := MapIs.made Value.string vI w17; have hbS8 : Below w17.heap.size w17 (w17.alloc (.map #[] 0)) := (Below.refl _ _).alloc (Nat.le_refl _) _; have hsS8 : w17.heap.size ≤ (w17.alloc (.map #[] 0)).heap.size := by simp)
    | (refine wpList_insert_is rfl _ _ _ _ rfl keyText Tryd.underlying52 hm15 rfl (⟨#[100, 105, 118]⟩ : ByteArray) (17 : Int) rfl rfl ?_; intro w16 hm16 hg16; have hb16 := below_made hb15 (Nat.le_refl _) hs15 hg16; have hs16 := Nat.le_trans hs15 hg16.size)
    | (refine wpList_insert_is rfl _ _ _ _ rfl keyText Tryd.underlying52 hmS7 rfl (⟨#[42]⟩ : ByteArray) (16 : Int) rfl rfl ?_; intro w15 hm15 hg15; have hb15 := below_made hbS7 (Nat.le_refl _) hsS7 hg15; have hs15 := Nat.le_trans hsS7 hg15.size)
    | (refine wpList_insert_is rfl _ _ _ _ rfl keyText Tryd.underlying52 hm13 rfl (⟨#[45]⟩ : ByteArray) (15 : Int) rfl rfl ?_; intro w14 hm14 hg14; have hb14 := below_made hb13 (Nat.le_refl _) hs13 hg14; have hs14 := Nat.le_trans hs13 hg14.size; have hmS7 := MapIs.made Value.string vI w14; have hbS7 : Below w14.heap.size w14 (w14.alloc (.map #[] 0)) := (Below.refl _ _).alloc (Nat.le_refl _) _; have hsS7 : w14.heap.size ≤ (w14.alloc (.map #[] 0)).heap.size := by simp)
    | (refine wpList_insert_is rfl _ _ _ _ rfl keyText Tryd.underlying52 hmS6 rfl (⟨#[43]⟩ : ByteArray) (14 : Int) rfl rfl ?_; intro w13 hm13 hg13; have hb13 := below_made hbS6 (Nat.le_refl _) hsS6 hg13; have hs13 := Nat.le_trans hsS6 hg13.size)
    | (refine wpList_insert_is rfl _ _ _ _ rfl keyText Tryd.underlying52 hm11 rfl (⟨#[62, 61]⟩ : ByteArray) ((-13) : Int) rfl rfl ?_; intro w12 hm12 hg12; have hb12 := below_made hb11 (Nat.le_refl _) hs11 hg12; have hs12 := Nat.le_trans hs11 hg12.size; have hmS6 := MapIs.made Value.string vI w12; have hbS6 : Below w12.heap.size w12 (w12.alloc (.map #[] 0)) := (Below.refl _ _).alloc (Nat.le_refl _) _; have hsS6 : w12.heap.size ≤ (w12.alloc (.map #[] 0)).heap.size := by simp)
    | (refine wpList_insert_is rfl _ _ _ _ rfl keyText Tryd.underlying52 hm10 rfl (⟨#[62]⟩ : ByteArray) ((-12) : Int) rfl rfl ?_; intro w11 hm11 hg11; have hb11 := below_made hb10 (Nat.le_refl _) hs10 hg11; have hs11 := Nat.le_trans hs10 hg11.size)
    | (refine wpList_insert_is rfl _ _ _ _ rfl keyText Tryd.underlying52 hm9 rfl (⟨#[60, 61]⟩ : ByteArray) (13 : Int) rfl rfl ?_; intro w10 hm10 hg10; have hb10 := below_made hb9 (Nat.le_refl _) hs9 hg10; have hs10 := Nat.le_trans hs9 hg10.size)
    | (refine wpList_insert_is rfl _ _ _ _ rfl keyText Tryd.underlying52 hm8 rfl (⟨#[60]⟩ : ByteArray) (12 : Int) rfl rfl ?_; intro w9 hm9 hg9; have hb9 := below_made hb8 (Nat.le_refl _) hs8 hg9; have hs9 := Nat.le_trans hs8 hg9.size)
    | (refine wpList_insert_is rfl _ _ _ _ rfl keyText Tryd.underlying52 hm7 rfl (⟨#[60, 62]⟩ : ByteArray) (11 : Int) rfl rfl ?_; intro w8 hm8 hg8; have hb8 := below_made hb7 (Nat.le_refl _) hs7 hg8; have hs8 := Nat.le_trans hs7 hg8.size)
    | (refine wpList_insert_is rfl _ _ _ _ rfl keyText Tryd.underlying52 hmS5 rfl (⟨#[61]⟩ : ByteArray) (10 : Int) rfl rfl ?_; intro w7 hm7 hg7; have hb7 := below_made hbS5 (Nat.le_refl _) hsS5 hg7; have hs7 := Nat.le_trans hsS5 hg7.size)
    | (refine wpList_insert_is rfl _ _ _ _ rfl keyText Tryd.underlying52 hmS4 rfl (⟨#[97, 110, 100]⟩ : ByteArray) (6 : Int) rfl rfl ?_; intro w6 hm6 hg6; have hb6 := below_made hbS4 (Nat.le_refl _) hsS4 hg6; have hs6 := Nat.le_trans hsS4 hg6.size; have hmS5 := MapIs.made Value.string vI w6; have hbS5 : Below w6.heap.size w6 (w6.alloc (.map #[] 0)) := (Below.refl _ _).alloc (Nat.le_refl _) _; have hsS5 : w6.heap.size ≤ (w6.alloc (.map #[] 0)).heap.size := by simp)
    | (refine wpList_insert_is rfl _ _ _ _ rfl keyText Tryd.underlying52 hm4 rfl (⟨#[120, 111, 114]⟩ : ByteArray) (8 : Int) rfl rfl ?_; intro w5 hm5 hg5; have hb5 := below_made hb4 (Nat.le_refl _) hs4 hg5; have hs5 := Nat.le_trans hs4 hg5.size; have hmS4 := MapIs.made Value.string vI w5; have hbS4 : Below w5.heap.size w5 (w5.alloc (.map #[] 0)) := (Below.refl _ _).alloc (Nat.le_refl _) _; have hsS4 : w5.heap.size ≤ (w5.alloc (.map #[] 0)).heap.size := by simp)
    | (refine wpList_insert_is rfl _ _ _ _ rfl keyText Tryd.underlying52 hmS3 rfl (⟨#[111, 114]⟩ : ByteArray) (7 : Int) rfl rfl ?_; intro w4 hm4 hg4; have hb4 := below_made hbS3 (Nat.le_refl _) hsS3 hg4; have hs4 := Nat.le_trans hsS3 hg4.size)
    | (refine wpList_insert_is rfl _ _ _ _ rfl keyText Tryd.underlying52 hmS2 rfl (⟨#[115, 105, 110, 99, 101]⟩ : ByteArray) (20 : Int) rfl rfl ?_; intro w3 hm3 hg3; have hb3 := below_made hbS2 (Nat.le_refl _) hsS2 hg3; have hs3 := Nat.le_trans hsS2 hg3.size; have hmS3 := MapIs.made Value.string vI w3; have hbS3 : Below w3.heap.size w3 (w3.alloc (.map #[] 0)) := (Below.refl _ _).alloc (Nat.le_refl _) _; have hsS3 : w3.heap.size ≤ (w3.alloc (.map #[] 0)).heap.size := by simp)
    | (refine wpList_insert_is rfl _ _ _ _ rfl keyText Tryd.underlying52 hmS1 rfl (⟨#[61, 62]⟩ : ByteArray) (9 : Int) rfl rfl ?_; intro w2 hm2 hg2; have hb2 := below_made hbS1 (Nat.le_refl _) hsS1 hg2; have hs2 := Nat.le_trans hsS1 hg2.size; have hmS2 := MapIs.made Value.string vI w2; have hbS2 : Below w2.heap.size w2 (w2.alloc (.map #[] 0)) := (Below.refl _ _).alloc (Nat.le_refl _) _; have hsS2 : w2.heap.size ≤ (w2.alloc (.map #[] 0)).heap.size := by simp)
    | (refine wpList_insert_is rfl _ _ _ _ rfl keyText Tryd.underlying52 hm0 rfl (⟨#[45, 62]⟩ : ByteArray) (19 : Int) rfl rfl ?_; intro w1 hm1 hg1; have hb1 := below_made hb0 (Nat.le_refl _) hs0 hg1; have hs1 := Nat.le_trans hs0 hg1.size; have hmS1 := MapIs.made Value.string vI w1; have hbS1 : Below w1.heap.size w1 (w1.alloc (.map #[] 0)) := (Below.refl _ _).alloc (Nat.le_refl _) _; have hsS1 : w1.heap.size ≤ (w1.alloc (.map #[] 0)).heap.size := by simp))
  have T7 := Below.refl w17.heap.size w17
  have T6 : Below w14.heap.size w14 w17 := below_next hb17 T7
  have T5 : Below w12.heap.size w12 w17 := below_next hb14 T6
  have T4 : Below w6.heap.size w6 w17 := below_next hb12 T5
  have T3 : Below w5.heap.size w5 w17 := below_next hb6 T4
  have T2 : Below w3.heap.size w3 w17 := below_next hb5 T3
  have T1 : Below w2.heap.size w2 w17 := below_next hb3 T2
  have T0 : Below w1.heap.size w1 w17 := below_next hb2 T1
  have TW : Below w.heap.size w w17 := below_next hb1 T0
  have M0 := map_past hm1 T0
  have M1 := map_past hm2 T1
  have M2 := map_past hm3 T2
  have M3 := map_past hm5 T3
  have M4 := map_past hm6 T4
  have M5 := map_past hm12 T5
  have M6 := map_past hm14 T6
  have M7 := map_past hm17 T7
  go_ret
  refine ⟨_, fun n => match n with | 0 => w.heap.size | 1 => w1.heap.size | 2 => w2.heap.size | 3 => w3.heap.size | 4 => w5.heap.size | 5 => w6.heap.size | 6 => w12.heap.size | _ => w14.heap.size, rfl, ?_, ?_, TW.alloc TW.size _⟩
  · exact TW.size
  · intro n hn
    have hb := Below.alloc (Below.refl w17.heap.size w17) (Nat.le_refl _) (.cells #[.map (some w.heap.size), .bool true, .bool false, .map (some w1.heap.size), .bool true, .bool false, .map (some w2.heap.size), .bool false, .bool false, .map (some w3.heap.size), .bool false, .bool false, .map (some w5.heap.size), .bool false, .bool false, .map (some w6.heap.size), .bool false, .bool true, .map (some w12.heap.size), .bool false, .bool false, .map (some w14.heap.size), .bool false, .bool false] 74)
    have hc := heap_alloc_new w17 (.cells #[.map (some w.heap.size), .bool true, .bool false, .map (some w1.heap.size), .bool true, .bool false, .map (some w2.heap.size), .bool false, .bool false, .map (some w3.heap.size), .bool false, .bool false, .map (some w5.heap.size), .bool false, .bool false, .map (some w6.heap.size), .bool false, .bool true, .map (some w12.heap.size), .bool false, .bool false, .map (some w14.heap.size), .bool false, .bool false] 74)
    match n, hn with
    | 0, _ => exact ⟨map_past M0 hb, by unfold World.cell?; rw [hc]; rfl, by unfold World.cell?; rw [hc]; rfl, by unfold World.cell?; rw [hc]; rfl⟩
    | 1, _ => exact ⟨map_past M1 hb, by unfold World.cell?; rw [hc]; rfl, by unfold World.cell?; rw [hc]; rfl, by unfold World.cell?; rw [hc]; rfl⟩
    | 2, _ => exact ⟨map_past M2 hb, by unfold World.cell?; rw [hc]; rfl, by unfold World.cell?; rw [hc]; rfl, by unfold World.cell?; rw [hc]; rfl⟩
    | 3, _ => exact ⟨map_past M3 hb, by unfold World.cell?; rw [hc]; rfl, by unfold World.cell?; rw [hc]; rfl, by unfold World.cell?; rw [hc]; rfl⟩
    | 4, _ => exact ⟨map_past M4 hb, by unfold World.cell?; rw [hc]; rfl, by unfold World.cell?; rw [hc]; rfl, by unfold World.cell?; rw [hc]; rfl⟩
    | 5, _ => exact ⟨map_past M5 hb, by unfold World.cell?; rw [hc]; rfl, by unfold World.cell?; rw [hc]; rfl, by unfold World.cell?; rw [hc]; rfl⟩
    | 6, _ => exact ⟨map_past M6 hb, by unfold World.cell?; rw [hc]; rfl, by unfold World.cell?; rw [hc]; rfl, by unfold World.cell?; rw [hc]; rfl⟩
    | 7, _ => exact ⟨map_past M7 hb, by unfold World.cell?; rw [hc]; rfl, by unfold World.cell?; rw [hc]; rfl, by unfold World.cell?; rw [hc]; rfl⟩
    | n + 8, hn => exact absurd hn (by omega)
end Go.Proofs.YtmklieoikbgmpaaDoor
