/- The program's reader of expressions: an expression out of a text: the walk. live of the laws of expressions: the walk. From what the rows list to what is known of the program's variables; the frame of a tied row. -/
import Derived.Test.YtmklieoikbgmpaaDoorRows
import Derived.Test.YtmklieoikbgmpaaDoorTie
import Derived.Lib.LaidU8
import Derived.SliceStrings
import Derived.HandedShaped
import Derived.ProofKit
import Derived.OpenShut
import Derived.Lay
import Derived.SevenTiedAt
import Derived.Deep.Slices
import Derived.Test.YtmklieoikbgmpaaDoorJ22
import Derived.Test.YtmklieoikbgmpaaDoorJ39
set_option linter.unusedVariables false
set_option linter.unusedSimpArgs false
namespace Go.Proofs.YtmklieoikbgmpaaDoor
open Go.RowKit Go.Shelf Tx Px
set_option maxRecDepth 100000 in
set_option maxHeartbeats 8000000 in
theorem pRead_any (s : ByteArray) (hs : s.size ≤ 100000) (r : Except (Int × Int) Fo) (hr : RdS s r) (w : World) (G : Gl w) :
    Calls Tryd.prog 5 #[.string s] w (RdPost w r) := by
  have C1 := Blk.new w #[.int .i64 0, .int .i64 0] 29
  have hba : Below w.heap.size w (w.alloc (.cells #[.int .i64 0, .int .i64 0] 29)) := (Below.refl _ _).alloc (Nat.le_refl _) _
  have hlex := Lex_any s hs (w.alloc (.cells #[.int .i64 0, .int .i64 0] 29)) (G.below hba)
  have HR := Lib.hid hr
  have HBA := Lib.hid hba
  have HC1 := Lib.hid C1
  obtain ⟨fa, hfa⟩ : ∃ fa, fa = w.heap.size := ⟨_, rfl⟩
  have HFA := Lib.hid hfa
  clear hr hba C1 G hfa
  go_enter Tryd.func5, Tryd.ntmps5
  go_wp2_with fail
  refine hlex.mono ?_
  rintro e w1 ⟨v, er, at_, rfl, hb1, hcase⟩
  have hk1 := HC1.out.below hb1
  rw [← HFA.out] at hk1 ⊢
  have HK1 := Lib.hid hk1
  have HB1 := Lib.hid (below_next HBA.out hb1)
  have hlt1 := hk1.lt
  obtain ⟨fb, hfb⟩ : ∃ fb, fb = w1.heap.size := ⟨_, rfl⟩
  have hne : fa ≠ fb := by omega
  have hne2 : fb ≠ fa := by omega
  have HFB := Lib.hid hfb
  have hfle : Hid (w.heap.size ≤ fb) := by show _ ≤ _; rw [hfb]; exact HB1.out.size
  have hfla : Hid (w.heap.size ≤ fa) := by show _ ≤ _; rw [HFA.out]; exact Nat.le_refl _
  clear hlex hk1 hfb
  rcases hcase with ⟨rfl, rfl, hl, hown⟩ | ⟨c, m, hc, rfl, rfl, hl, rfl⟩
  · obtain ⟨L, hL⟩ : ∃ L, L = toks s.size (Lx.lexS s.data.toList).1 := ⟨_, rfl⟩
    have hLl := toks_len s
    have hLk := toks_is s
    have HRD : Hid (RdR L r) := by
      have h := HR.out
      unfold RdS at h; rw [hl] at h; rw [hL]; exact h
    rw [← hL] at hown hLl hLk
    have hLlen : (Lx.lexS s.data.toList).1.length = L.length := by rw [hL]; simp [toks]
    rw [hLlen] at hown
    have hsl : Sl tokC 3 w1 v L := Sl.own tokC_len hown rfl
    obtain ⟨x, hx, hrx⟩ := HRD.out
    obtain ⟨ta, tc, rfl, htc, -⟩ := hsl.form
    have nb := (Below.refl w1.heap.size w1).alloc (Nat.le_refl _) (.cells #[.int .i64 0, .int .i64 0] 29)
    have hpar := pParse_any L (by omega) hLk (.slice ta L.length tc) 0 (Nat.zero_le _) x (w1.alloc (.cells #[.int .i64 0, .int .i64 0] 29)) (Sl.below hsl nb) hx
    have hkb : Blk (w1.alloc (.cells #[.int .i64 0, .int .i64 0] 29)) fb #[.int .i64 0, .int .i64 0] 29 := by rw [HFB.out]; exact Blk.new w1 _ _
    have HSL := Lib.hid hsl
    have HNB := Lib.hid nb
    have HKB := Lib.hid hkb
    have HXR : Hid (r = endR L x) := by
      show _ = _
      rw [hrx]; match x with
      | .error e => rfl
      | .ok (F, i) => rfl
    have HXX := Lib.hid (codeOk_of hx)
    clear hown hL hLlen hx hrx hsl nb hkb hLk HR HRD hl HC1 HBA
    go_wp2_with fail
    rw [← HFB.out]
    refine hpar.mono ?_
    rintro e w2 ⟨hb2, hpost⟩
    have hk2 := ((HK1.out.below HNB.out).below hb2)
    have hkb2 := HKB.out.below hb2
    have HB2 : Hid (Below w.heap.size w w2) := below_next (below_next HB1.out HNB.out) hb2
    have HSL2 : Hid (Sl tokC 3 w2 (.slice ta L.length tc) L) := Sl.below (Sl.below HSL.out HNB.out) hb2
    obtain ⟨p0, p1, p2, p3⟩ := two_cells hk2
    obtain ⟨g0, g1, g2, g3⟩ := two_cells hkb2
    have HK2 := Lib.hid hk2
    have HKB2 := Lib.hid hkb2
    have hszb : Hid (fb + 1 ≤ w2.heap.size) := hkb2.lt
    clear hpar hk2 hkb2
    match x, hpost with
    | .error (c, p), he =>
      subst he
      have hc : c ≠ 0 := HXX.out
      have HRE : Hid (r = .error (c, p)) := HXR.out
      have e0 : (c != 0) = true := by simp [hc]
      clear hpost hb2
      go_wp2_with fail
      obtain ⟨V, hV⟩ : ∃ V, V = (w2.setCell ⟨fb, 0, none⟩ (.int .i64 c)).setCell ⟨fb, 1, none⟩ (.int .i64 p) := ⟨_, rfl⟩
      have hVA : Blk V fa #[.int .i64 0, .int .i64 0] 29 := by rw [hV]; exact (HK2.out.other 0 hne _).other 1 hne _
      have hVB : Blk V fb #[.int .i64 c, .int .i64 p] 29 := by
        have h1 := Blk.setAt HKB2.out 0 (.int .i64 c)
        have h2 := Blk.setAt h1 1 (.int .i64 p)
        rw [hV]; simpa using h2
      have HBV : Hid (Below w.heap.size w V) := by show Below _ _ _; rw [hV]; exact (HB2.out.setCell hfle.out _).setCell hfle.out _
      rw [← hV]
      clear hV p0 p1 p2 p3 g0 g1 g2 g3
      obtain ⟨p0, p1, p2, p3⟩ := two_cells hVA
      obtain ⟨g0, g1, g2, g3⟩ := two_cells hVB
      have HS : Hid (Below w.heap.size w ((V.drew.setCell ⟨fa, 0, none⟩ (.int .i64 c)).setCell ⟨fa, 1, none⟩ (.int .i64 p))) := (HBV.out.drew.setCell hfla.out _).setCell hfla.out _
      clear hVA hVB
      go_region
      all_goals
        go_wp2_with fail
        refine bodyPost_ret (v := .tuple #[.slice none 0 0, .agg #[.int .i64 c, .int .i64 p]]) (by simp [results, Tryd.results5, go_sem, p0, p1]) rfl ?_
        rw [HRE.out]
        exact ⟨HS.out, hc, rfl⟩
    | .ok (F, i), ⟨v2, he, hO⟩ =>
      cases he
      obtain ⟨ya, yc, rfl, -⟩ := hO.form
      rw [Fo.flat_len] at hO ⊢
      have hlow : ∀ g, (Value.slice ya F.size yc).ownBlock = some g → g ≠ fa ∧ g ≠ fb := fun g hg => by have h1 := (hO.low g hg).1; have h2 := HKB.out.lt; have h3 := HFB.out; have h4 := HK1.out.lt; omega
      have HLOW := Lib.hid hlow
      have HO := Lib.hid (hO.mono (b2 := w.heap.size) (by have := HNB.out.size; have := HB1.out.size; omega))
      obtain ⟨V, hV⟩ : ∃ V, V = (w2.setCell ⟨fb, 0, none⟩ (.int .i64 0)).setCell ⟨fb, 1, none⟩ (.int .i64 0) := ⟨_, rfl⟩
      have hVA : Blk V fa #[.int .i64 0, .int .i64 0] 29 := by rw [hV]; exact (HK2.out.other 0 hne _).other 1 hne _
      have HBV : Hid (Below w.heap.size w V) := by show Below _ _ _; rw [hV]; exact (HB2.out.setCell hfle.out _).setCell hfle.out _
      have HOV : Hid (OwnE w.heap.size V (.slice ya F.size yc) (F.flat 0)) := by
        show OwnE _ _ _ _; rw [hV]; exact OwnE.set (OwnE.set HO.out (fun e => (HLOW.out _ e).2 rfl) _ _) (fun e => (HLOW.out _ e).2 rfl) _ _
      have HVW : Hid (∀ (b q : Nat), b < fb → V.cell? ⟨b, q, none⟩ = w2.cell? ⟨b, q, none⟩) := fun b q h => by
        rw [hV, World.cell?_setCell_other (h := fun e => by cases e; omega), World.cell?_setCell_other (h := fun e => by cases e; omega)]
      have HV := Lib.hid hV
      obtain ⟨u0, u1, u2, u3⟩ := two_cells hVA
      clear hV hVA
      by_cases hil : i < L.length
      · obtain ⟨t, ht⟩ : ∃ t, L[i]? = some t := ⟨_, List.getElem?_eq_getElem hil⟩
        have HRE : Hid (r = .error (5, (t.p : Int))) := by
          have h := HXR.out
          unfold endR at h; simp only [if_pos hil, atP_lt ht] at h; exact h
        obtain ⟨ta', tc', h4, -, hcell⟩ := HSL.out.form
        cases h4
        obtain ⟨b, q, rfl, hj⟩ := hcell w1 (Below.refl _ _) i t ht
        have d1 := hj 2 _ rfl
        have hbl : b < w1.heap.size := World.block_lt_of_cell? w1 _ d1
        have d2 : V.cell? ⟨b, q + i * 3 + 2, none⟩ = some (.int .i64 t.p) := by
          rw [HVW.out b _ (by rw [HFB.out]; exact hbl)]
          exact ((hb2.cell (p := ⟨b, q + i * 3 + 2, none⟩) (Nat.lt_of_lt_of_le hbl HNB.out.size)).trans (HNB.out.cell (p := ⟨b, q + i * 3 + 2, none⟩) hbl)).trans d1
        have hil2 : (i : Int) < (L.length : Int) := by omega
        have hi0 : (0 : Int) ≤ (i : Int) := by omega
        have HS : Hid (Below w.heap.size w ((V.drew.setCell ⟨fa, 0, none⟩ (.int .i64 5)).setCell ⟨fa, 1, none⟩ (.int .i64 t.p))) := (HBV.out.drew.setCell hfla.out _).setCell hfla.out _
        clear hpost hO hlow hcell hj ht hil d1 hb2 hbl
        go_wp2_with fail
        rw [← HV.out]
        clear p0 p1 p2 p3 g0 g1 g2 g3
        go_region
        all_goals
          go_wp2_with fail
          refine bodyPost_ret (v := .tuple #[.slice none 0 0, .agg #[.int .i64 5, .int .i64 t.p]]) (by simp [results, Tryd.results5, go_sem, u0, u1]) rfl ?_
          rw [HRE.out]
          exact ⟨HS.out, by decide, rfl⟩
      · have HRE : Hid (r = .ok F) := by
          have h := HXR.out
          unfold endR at h; simp only [if_neg hil] at h; exact h
        have hil2 : ¬ (i : Int) < (L.length : Int) := by omega
        have HS : Hid (Below w.heap.size w ((V.setCell ⟨fa, 0, none⟩ (.int .i64 0)).setCell ⟨fa, 1, none⟩ (.int .i64 0)) ∧ OwnE w.heap.size ((V.setCell ⟨fa, 0, none⟩ (.int .i64 0)).setCell ⟨fa, 1, none⟩ (.int .i64 0)) (.slice ya F.size yc) (F.flat 0)) :=
          ⟨(HBV.out.setCell hfla.out _).setCell hfla.out _, OwnE.set (OwnE.set HOV.out (fun e => (HLOW.out _ e).1 rfl) _ _) (fun e => (HLOW.out _ e).1 rfl) _ _⟩
        have HU := Lib.hid (And.intro u0 u1)
        clear hpost hO hlow hil hb2
        go_wp2_with fail
        rw [← HV.out]
        refine bodyPost_ret (v := .tuple #[.slice ya F.size yc, .agg #[.int .i64 0, .int .i64 0]]) (by simp [results, Tryd.results5, go_sem, u0, u1]) rfl ?_
        rw [HRE.out]
        exact ⟨HS.out.1, _, rfl, HS.out.2⟩
  · have HRE : Hid (r = .error ((c : Int), ((s.size - m : Nat) : Int))) := by
      have h := HR.out
      unfold RdS at h; rw [hl] at h; exact h
    have hc' : (c : Int) ≠ 0 := by omega
    have e0 : ((c : Int) != 0) = true := by simp [hc]
    obtain ⟨pm, hpm⟩ : ∃ pm, pm = s.size - m := ⟨_, rfl⟩
    rw [← hpm] at HRE ⊢
    obtain ⟨V, hV⟩ : ∃ V, V = w1.alloc (.cells #[.int .i64 c, .int .i64 pm] 29) := ⟨_, rfl⟩
    have hbv : Below w1.heap.size w1 V := by rw [hV]; exact (Below.refl _ _).alloc (Nat.le_refl _) _
    have hVA := HK1.out.below hbv
    have hVB : Blk V fb #[.int .i64 c, .int .i64 pm] 29 := by rw [hV, HFB.out]; exact Blk.new w1 _ _
    have HBV : Hid (Below w.heap.size w V) := below_next HB1.out hbv
    obtain ⟨p0, p1, p2, p3⟩ := two_cells hVA
    obtain ⟨g0, g1, g2, g3⟩ := two_cells hVB
    have HS : Hid (Below w.heap.size w ((V.drew.setCell ⟨fa, 0, none⟩ (.int .i64 c)).setCell ⟨fa, 1, none⟩ (.int .i64 pm))) := (HBV.out.drew.setCell hfla.out _).setCell hfla.out _
    have HV := Lib.hid hV
    clear hVA hVB hbv hV hpm hl
    go_wp2_with fail
    rw [← HFB.out, ← HV.out]
    go_region
    all_goals
      go_wp2_with fail
      refine bodyPost_ret (v := .tuple #[.slice none 0 0, .agg #[.int .i64 c, .int .i64 pm]]) (by simp [results, Tryd.results5, go_sem, p0, p1]) rfl ?_
      rw [HRE.out]
      exact ⟨HS.out, hc', rfl⟩
end Go.Proofs.YtmklieoikbgmpaaDoor
namespace Go.Proofs.YtmklieoikbgmpaaDoor
open Go.RowKit Go.Shelf Tx Px
theorem flt_fields {P : Program} {t : TypeId} {fs : Array Field} (h : P.underlying t = some (.struct fs)) : P.fieldsOf t = fs := by unfold Program.fieldsOf; rw [h]
theorem fltPart0 (z u : Value) (w : World) : (part 27 #[z, u] 0).run Tryd.prog w = .ok z w := by kernel_rfl
theorem fltPart1 (z u : Value) (w : World) : (part 3 #[z, u] 1).run Tryd.prog w = .ok u w := by kernel_rfl
theorem fltStood : Tryd.prog.stoodInHeld 29 = false := by kernel_rfl
theorem eqFlt (a b c d : Int) (w : World) : (Op.equalIn 10000 29 (.agg #[.int .i64 a, .int .i64 b]) (.agg #[.int .i64 c, .int .i64 d])).run Tryd.prog w = .ok (a == c && b == d) w := by
  have hu := Tryd.underlying29
  have hf := flt_fields Tryd.underlying29
  have hi : ∀ (d : Nat) (p q : Int), (Op.equalIn (d + 1) 3 (.int .i64 p) (.int .i64 q)).run Tryd.prog w = .ok (p == q) w := fun d p q => run_equalIn_int w d _ _ _ p q Tryd.underlying3
  have hs : ∀ (d : Nat) (p q : Int), (Op.equalIn (d + 1) 27 (.int .i64 p) (.int .i64 q)).run Tryd.prog w = .ok (p == q) w := fun d p q => run_equalIn_int w d _ _ _ p q Tryd.underlying27
  rw [run_equalIn_agg w 9999 _ _ _ (by rw [hf]; exact hu) fltStood, hf]
  simp only [Op.eqFields]
  cases h1 : (a == c) <;> cases h2 : (b == d) <;> simp [hi, hs, fltPart0, fltPart1, h1, h2, Result.andThen]
def e4A : ByteArray := ⟨#[97, 32, 45, 62, 32, 98, 32, 62, 32, 49]⟩
def e4B : ByteArray := ⟨#[97, 32, 43, 32]⟩
def e4C : ByteArray := ⟨#[97, 32, 98]⟩
def e4D : ByteArray := ⟨#[97, 32, 61, 32, 98, 32, 61, 32, 99]⟩
def fE4 : Fo := .tr 19 0 ByteArray.empty (.tr 3 0 ⟨#[97]⟩ .no (.tr 12 0 ByteArray.empty (.tr 1 1 ByteArray.empty .no (.tr 3 0 ⟨#[98]⟩ .no .no)) .no)) .no
theorem e4A_read : RdS e4A (.ok fE4) := by
  have h1 : (Lx.lexS e4A.data.toList).2 = none := by kernel_rfl
  unfold RdS
  rw [h1]
  exact ⟨.ok (fE4, (toks e4A.size (Lx.lexS e4A.data.toList).1).length), ⟨60, by kernel_rfl⟩, by kernel_rfl⟩
theorem e4_err {s : ByteArray} {c p : Int} (h1 : (Lx.lexS s.data.toList).2 = none) (x : Except (Int × Int) (Fo × Nat)) (h2 : parse (toks s.size (Lx.lexS s.data.toList).1) 60 0 = some x) (h3 : endR (toks s.size (Lx.lexS s.data.toList).1) x = .error (c, p)) : RdS s (.error (c, p)) := by
  unfold RdS
  rw [h1]
  refine ⟨x, ⟨60, h2⟩, ?_⟩
  rw [← h3]
  match x with
  | .error e => rfl
  | .ok (F, i) => rfl
theorem e4B_read : RdS e4B (.error (5, -1)) := e4_err (by kernel_rfl) (.error (5, -1)) (by kernel_rfl) rfl
theorem e4C_read : RdS e4C (.error (5, 2)) := e4_err (by kernel_rfl) (.ok (.tr 3 0 ⟨#[97]⟩ .no .no, 1)) (by kernel_rfl) (by kernel_rfl)
def fD4 : Fo := .tr 10 0 ByteArray.empty (.tr 3 0 ⟨#[97]⟩ .no (.tr 3 0 ⟨#[98]⟩ .no .no)) .no
theorem e4D_lex : (Lx.lexS e4D.data.toList).2 = none := by kernel_rfl
theorem e4D_par : parse (toks e4D.size (Lx.lexS e4D.data.toList).1) 60 0 = some (.ok (fD4, 3)) := by kernel_rfl
theorem e4D_end : endR (toks e4D.size (Lx.lexS e4D.data.toList).1) (.ok (fD4, 3)) = .error (5, 6) := by kernel_rfl
theorem e4D_read : RdS e4D (.error (5, 6)) := @e4_err e4D 5 6 e4D_lex (.ok (fD4, 3)) e4D_par e4D_end
theorem e4A_nodes : fE4.flat 0 = [⟨3, -1, -1, -1, 0, ⟨#[97]⟩⟩, ⟨1, -1, -1, -1, 1, ⟨#[]⟩⟩, ⟨3, -1, -1, -1, 0, ⟨#[98]⟩⟩, ⟨12, 1, 2, -1, 0, ⟨#[]⟩⟩, ⟨19, 0, 3, -1, 0, ⟨#[]⟩⟩] := by kernel_rfl
set_option maxRecDepth 100000 in
theorem at_nil (w : World) : Calls Tryd.prog 6 #[.slice none 0 0, .int .i64 0] w fun e w' => e = .returned (.int .i64 (-1)) ∧ w' = w := by
  go_enter Tryd.func6, Tryd.ntmps6
  go_wp2_with fail
  go_ret
  exact ⟨rfl, rfl⟩
set_option maxRecDepth 100000 in
set_option maxHeartbeats 4000000 in
theorem live04_any (w : World) (G : Gl w) : Calls Tryd.prog 4 #[] w fun e w' => e = .returned (.bool true) ∧ Below w.heap.size w w' := by
  have rdA := pRead_any e4A (by decide) (.ok fE4) e4A_read w G
  have rdB := fun W (hW : Below w.heap.size w W) => pRead_any e4B (by decide) _ e4B_read W (G.below hW)
  have rdC := fun W (hW : Below w.heap.size w W) => pRead_any e4C (by decide) _ e4C_read W (G.below hW)
  have rdD := fun W (hW : Below w.heap.size w W) => pRead_any e4D (by decide) _ e4D_read W (G.below hW)
  have HB := Lib.hid rdB
  have HC := Lib.hid rdC
  have HD := Lib.hid rdD
  clear rdB rdC rdD G
  go_enter Tryd.func4, Tryd.ntmps4
  go_wp2_with fail
  refine rdA.mono ?_
  rintro e w1 ⟨hb1, v1, rfl, ho1⟩
  have hE := ho1.isE
  rw [e4A_nodes] at hE
  obtain ⟨a1, c1, hv1, hc1, hx1⟩ := hE.form
  have hv1' : v1 = .slice a1 5 c1 := hv1
  subst hv1'
  clear hv1
  obtain ⟨b, o, hab, hcell⟩ := hx1 w1 (Below.refl _ _) 1 _ rfl
  subst hab
  obtain ⟨b', o', hab, hcell3⟩ := hx1 w1 (Below.refl _ _) 3 _ rfl
  cases hab
  obtain ⟨b', o', hab, hcell4⟩ := hx1 w1 (Below.refl _ _) 4 _ rfl
  cases hab
  have k10 : w1.cell? ⟨b, o + 6, none⟩ = some (.int .i64 1) := hcell 0 _ rfl
  have k30 : w1.cell? ⟨b, o + 18, none⟩ = some (.int .i64 12) := hcell3 0 _ rfl
  have k31 : w1.cell? ⟨b, o + 18 + 1, none⟩ = some (.int .i64 1) := hcell3 1 _ rfl
  have k32 : w1.cell? ⟨b, o + 18 + 2, none⟩ = some (.int .i64 2) := hcell3 2 _ rfl
  have k33 : w1.cell? ⟨b, o + 18 + 3, none⟩ = some (.int .i64 (-1)) := hcell3 3 _ rfl
  have k34 : w1.cell? ⟨b, o + 18 + 4, none⟩ = some (.int .i64 0) := hcell3 4 _ rfl
  have k35 : w1.cell? ⟨b, o + 18 + 5, none⟩ = some (.string ⟨#[]⟩) := hcell3 5 _ rfl
  have k40 : w1.cell? ⟨b, o + 24, none⟩ = some (.int .i64 19) := hcell4 0 _ rfl
  have hbl : b < w1.heap.size := World.block_lt_of_cell? w1 _ k10
  have KC : Hid (∀ W, Below w1.heap.size w1 W → W.cell? ⟨b, o + 6, none⟩ = some (.int .i64 1) ∧ W.cell? ⟨b, o + 18, none⟩ = some (.int .i64 12) ∧ W.cell? ⟨b, o + 18 + 1, none⟩ = some (.int .i64 1) ∧ W.cell? ⟨b, o + 18 + 2, none⟩ = some (.int .i64 2) ∧ W.cell? ⟨b, o + 18 + 3, none⟩ = some (.int .i64 (-1)) ∧ W.cell? ⟨b, o + 18 + 4, none⟩ = some (.int .i64 0) ∧ W.cell? ⟨b, o + 18 + 5, none⟩ = some (.string ⟨#[]⟩) ∧ W.cell? ⟨b, o + 24, none⟩ = some (.int .i64 19)) := fun W h =>
    ⟨(h.cell (p := ⟨b, o + 6, none⟩) hbl).trans k10, (h.cell (p := ⟨b, o + 18, none⟩) hbl).trans k30, (h.cell (p := ⟨b, o + 18 + 1, none⟩) hbl).trans k31, (h.cell (p := ⟨b, o + 18 + 2, none⟩) hbl).trans k32, (h.cell (p := ⟨b, o + 18 + 3, none⟩) hbl).trans k33, (h.cell (p := ⟨b, o + 18 + 4, none⟩) hbl).trans k34, (h.cell (p := ⟨b, o + 18 + 5, none⟩) hbl).trans k35, (h.cell (p := ⟨b, o + 24, none⟩) hbl).trans k40⟩
  have hc5 : 5 ≤ c1 := hc1
  clear rdA ho1 hE hx1 hcell hcell3 hcell4 k10 k30 k31 k32 k33 k34 k35 k40 hc1 hbl
  obtain ⟨W1, hW1⟩ : ∃ W1, W1 = w1.alloc (.cells #[.int .i64 0, .int .i64 0] 29) := ⟨_, rfl⟩
  have b1 : Below w1.heap.size w1 W1 := by rw [hW1]; exact (Below.refl _ _).alloc (Nat.le_refl _) _
  have F1 : Hid (Blk W1 w1.heap.size #[.int .i64 0, .int .i64 0] 29) := by show Blk _ _ _ _; rw [hW1]; exact Blk.new w1 _ _
  have B1 : Hid (Below w.heap.size w W1) := below_next hb1 b1
  have KB1 := Lib.hid b1
  have HW1 := Lib.hid hW1
  clear hW1 b1 hb1
  go_wp2_with fail
  rw [← HW1.out]
  refine (HB.out W1 B1.out).mono ?_
  rintro e w2 ⟨hb2, hne, rfl⟩
  obtain ⟨W2, hW2⟩ : ∃ W2, W2 = w2.alloc (.cells #[.int .i64 5, .int .i64 (-1)] 29) := ⟨_, rfl⟩
  have b2 : Below w2.heap.size w2 W2 := by rw [hW2]; exact (Below.refl _ _).alloc (Nat.le_refl _) _
  have F2 : Hid (Blk W2 w2.heap.size #[.int .i64 5, .int .i64 (-1)] 29) := by show Blk _ _ _ _; rw [hW2]; exact Blk.new w2 _ _
  have F12 := Lib.hid ((F1.out.below hb2).below b2)
  have B2 : Hid (Below w.heap.size w W2) := below_next (below_next B1.out hb2) b2
  have KB2 : Hid (Below w1.heap.size w1 W2) := below_next (below_next KB1.out hb2) b2
  have HW2 := Lib.hid hW2
  clear hW2 b2 hb2 hne HW1
  go_wp2_with fail
  rw [← HW2.out]
  refine (HC.out W2 B2.out).mono ?_
  rintro e w3 ⟨hb3, hne, rfl⟩
  obtain ⟨W3, hW3⟩ : ∃ W3, W3 = w3.alloc (.cells #[.int .i64 5, .int .i64 2] 29) := ⟨_, rfl⟩
  have b3 : Below w3.heap.size w3 W3 := by rw [hW3]; exact (Below.refl _ _).alloc (Nat.le_refl _) _
  have F3 : Hid (Blk W3 w3.heap.size #[.int .i64 5, .int .i64 2] 29) := by show Blk _ _ _ _; rw [hW3]; exact Blk.new w3 _ _
  have F13 := Lib.hid ((F12.out.below hb3).below b3)
  have F23 := Lib.hid ((F2.out.below hb3).below b3)
  have B3 : Hid (Below w.heap.size w W3) := below_next (below_next B2.out hb3) b3
  have KB3 : Hid (Below w1.heap.size w1 W3) := below_next (below_next KB2.out hb3) b3
  have HW3 := Lib.hid hW3
  clear hW3 b3 hb3 hne HW2
  go_wp2_with fail
  rw [← HW3.out]
  refine (HD.out W3 B3.out).mono ?_
  rintro e w4 ⟨hb4, hne, rfl⟩
  obtain ⟨W4, hW4⟩ : ∃ W4, W4 = w4.alloc (.cells #[.int .i64 5, .int .i64 6] 29) := ⟨_, rfl⟩
  have b4 : Below w4.heap.size w4 W4 := by rw [hW4]; exact (Below.refl _ _).alloc (Nat.le_refl _) _
  have F4 : Hid (Blk W4 w4.heap.size #[.int .i64 5, .int .i64 6] 29) := by show Blk _ _ _ _; rw [hW4]; exact Blk.new w4 _ _
  have F14 := Lib.hid ((F13.out.below hb4).below b4)
  have F24 := Lib.hid ((F23.out.below hb4).below b4)
  have F34 := Lib.hid ((F3.out.below hb4).below b4)
  have B4 : Hid (Below w.heap.size w W4) := below_next (below_next B3.out hb4) b4
  have KB4 : Hid (Below w1.heap.size w1 W4) := below_next (below_next KB3.out hb4) b4
  have HW4 := Lib.hid hW4
  clear hW4 b4 hb4 hne HW3
  obtain ⟨k10, k30, k31, k32, k33, k34, k35, k40⟩ := KC.out W4 KB4.out
  obtain ⟨u0, u1, -, -⟩ := two_cells F14.out
  obtain ⟨v0, v1, -, -⟩ := two_cells F24.out
  obtain ⟨x0, x1, -, -⟩ := two_cells F34.out
  obtain ⟨y0, y1, -, -⟩ := two_cells F4.out
  have q1 : ∀ W, (Op.equalIn 10000 29 (.agg #[.int .i64 0, .int .i64 0]) (.agg #[.int .i64 0, .int .i64 0])).run Tryd.prog W = .ok true W := eqFlt 0 0 0 0
  have q2 : ∀ W, (Op.equalIn 10000 29 (.agg #[.int .i64 5, .int .i64 (-1)]) (.agg #[.int .i64 5, .int .i64 (-1)])).run Tryd.prog W = .ok true W := eqFlt 5 (-1) 5 (-1)
  have q3 : ∀ W, (Op.equalIn 10000 29 (.agg #[.int .i64 5, .int .i64 2]) (.agg #[.int .i64 5, .int .i64 2])).run Tryd.prog W = .ok true W := eqFlt 5 2 5 2
  have q4 : ∀ W, (Op.equalIn 10000 29 (.agg #[.int .i64 5, .int .i64 6]) (.agg #[.int .i64 5, .int .i64 6])).run Tryd.prog W = .ok true W := eqFlt 5 6 5 6
  have q5 : ∀ W, (Op.equalIn 10000 33 (.agg #[.int .i64 12, .int .i64 1, .int .i64 2, .int .i64 (-1), .int .i64 0, .string ⟨#[]⟩]) (.agg #[.int .i64 12, .int .i64 1, .int .i64 2, .int .i64 (-1), .int .i64 0, .string ⟨#[]⟩])).run Tryd.prog W = .ok true W := fun W => by
    have h := eqNd ⟨12, 1, 2, -1, 0, ⟨#[]⟩⟩ ⟨12, 1, 2, -1, 0, ⟨#[]⟩⟩ W
    simpa [ndV] using h
  have hat := at_nil W4
  have hw4 := HW4.out
  clear HW4
  subst hw4
  go_wp2_with fail
  refine hat.mono ?_
  rintro e w5 ⟨rfl, rfl⟩
  clear hat
  go_wp2_with fail
  go_ret
  exact ⟨rfl, B4.out⟩
end Go.Proofs.YtmklieoikbgmpaaDoor
namespace Go.Proofs.YtmklieoikbgmpaaDoor
open Go.ChangeShapes Go.WideShapes Go.ChangeAt Go.RowKit Go.Deep
theorem handed_shaped_and {H : Type} {enc : TypeId × Value → H} {a : Assume} {C : Checked} {os : Os} {f : FuncId} {fn : Func} {s : ChangeSpec} {conds : List PathCond} {apart fresh handsOn again : Bool} {X : World → Array Value → Prop}
    (hX : ∀ (w w' : World) (args : Array Value), w.heap = w'.heap → X w args → X w' args)
    (own : ownKnob C.prog.godebug = none) (started : os.Started) (noInit : C.prog.inits.idxOf? f = none) (hfn : C.prog.funcs[f]? = some fn)
    (witness : ∃ (w : World) (tape : Tape) (i : Input), w.os = os ∧ (w.forCall tape i).Shaped C.prog ∧ i.vars = [] ∧ Input.okWide C.prog (w.forCall tape i) .any w.heap.size f i ∧
      ((s.pre enc C.prog fn conds apart (w.forCall tape i).memory i.args ∧ X (w.forCall tape i).memory i.args) ∧ sizedMet enc C.prog fn (OpenSpec.ofChange s) apart (w.forCall tape i).memory i.args) ∧ a.holds C.prog (lone (Frame.enter C.prog f i.args .normal) [] (w.forCall tape i)))
    (contract : ∀ (W : World) (base : Nat) (args : Array Value) (ds gs : List (DataW H)) (before : List MemPlace),
      (∀ (j : Nat) t v, fn.params[j]? = some t → args[j]? = some v → Value.okWide C.prog W .any base t v) →
      DataW.Whole enc C.prog fn.params.toList s.vars apart W args.toList ds gs before → X W args → W.ShapedOpen C.prog →
      Calls C.prog f args W fun e W' => ∃ v, e = .returned v ∧ s.post enc C.prog fn apart fresh handsOn again W args v W') :
    ReturnsInHanded a C os f .any (fun w args => (s.pre enc C.prog fn conds apart w args ∧ X w args) ∧ sizedMet enc C.prog fn (OpenSpec.ofChange s) apart w args) (s.post enc C.prog fn apart fresh handsOn again) := by
  refine returnsInHanded_of_calls own started noInit witness ?_
  intro w tape i _ hsh _ hok hpre _
  obtain ⟨_, _, _, fn', hfn', _, _, _, _, hval⟩ := hok
  obtain rfl : fn' = fn := Option.some.inj (hfn'.symm.trans hfn)
  obtain ⟨⟨⟨ds, gs, before, hw, _⟩, hx⟩, _⟩ := hpre
  refine (contract (w.forCall tape i) w.heap.size i.args ds gs before hval (DataW.Whole.of_heap (w' := w.forCall tape i) (by rfl) hw) (hX _ _ _ (by rfl) hx) hsh).mono fun e W' h => ?_
  obtain ⟨v, he, hp⟩ := h
  subst he
  exact ChangeSpec.post_blind hp
theorem strs_map {H : Type} : ∀ {a : List ByteArray} {l : List (List UInt8)}, (strs a : List (DataW H)) = l.map (fun x => .lit (.string x)) → a.map (fun b => b.data.toList) = l
  | [], [], _ => rfl
  | [], _ :: _, h => by simp [strs] at h
  | _ :: _, [], h => by simp [strs] at h
  | b :: a, x :: l, h => by
    simp [strs] at h
    simp only [List.map_cons, h.1]
    rw [strs_map (H := H) (a := a) (l := l) (by simp [strs]; exact h.2)]
theorem spot_of_cell {w : World} {a : Addr} {v : Value} (h : w.cell? a = some v) : a.spot = none := by
  unfold World.cell? at h
  split at h
  · cases hs : a.spot
    · rfl
    · rw [hs] at h; simp at h
  · simp at h
theorem add_of_spot {a : Addr} (h : a.spot = none) (n : Nat) : a.add n = ⟨a.block, a.off + n, none⟩ := by
  unfold Addr.add
  split
  · subst_vars; cases a; simp_all
  · rfl
theorem strings_var {W : World} {n : String} {g t : Nat} {l : List (List UInt8)} (hr : Lib.VarReads Tryd.prog W n (.slice (l.map fun x => .lit (.string x)) [])) (hg : Tryd.prog.globalNamed n = some g) (ht : (Tryd.prog.globals[g]?).map (·.type) = some t) (hu : Tryd.prog.underlying t = some (.slice 9)) (hl : l ≠ []) :
    ∃ b o c, W.cell? ⟨g, 0, none⟩ = some (.slice (some ⟨b, o, none⟩) l.length c) ∧ ∀ j, j < l.length → W.cell? ⟨b, o + j, none⟩ = some (.string ⟨(l.getD j []).toArray⟩) := by
  obtain ⟨g', t', cs, fuel, p, hg', ht', hv, hd⟩ := hr
  obtain rfl := Option.some.inj (hg.symm.trans hg')
  obtain rfl := Option.some.inj (ht.symm.trans ht')
  rcases open_strings hu Tryd.underlying9 (by kernel_rfl) hd with ⟨_, h⟩ | ⟨a, len, cap, ss, hcs, _, hlc, _, hss, hx, hcell, _⟩
  · cases h
  · have hx1 := congrArg Prod.fst hx
    simp only [DataW.slice.injEq] at hx1
    obtain ⟨h1, h2⟩ := hx1
    have h3 := strs_map h1.symm
    have h4 : ss.drop len = [] := by
      cases hq : ss.drop len with
      | nil => rfl
      | cons x r => rw [hq] at h2; simp [strs] at h2
    have h5 : ss.take len = ss := by
      rw [List.drop_eq_nil_iff] at h4; exact List.take_of_length_le h4
    rw [h5] at h3
    have hlen : len = l.length := by
      have h6 : ss.length ≤ len := by rw [List.drop_eq_nil_iff] at h4; exact h4
      have h7 : ss.length = l.length := by rw [← h3]; simp
      simp at hss; omega
    subst hlen
    have hgv : W.cell? ⟨g, 0, none⟩ = some (.slice (some a) l.length cap) := by
      rw [World.var?_cell hg hv 0]
      have : cs.toList[0]? = some (.slice (some a) l.length cap) := by rw [hcs]; rfl
      simpa using this
    have hl0 : 0 < l.length := List.length_pos_iff.2 hl
    have hsl : ss.length = l.length := by rw [← h3]; simp
    have hs := spot_of_cell (hcell 0 (by omega))
    have hs0 : a.spot = none := by simpa [Addr.add] using hs
    have ha : a = ⟨a.block, a.off, none⟩ := by cases a; simp_all
    refine ⟨a.block, a.off, cap, by rw [← ha]; exact hgv, fun j hj => ?_⟩
    have := hcell j (by omega)
    rw [add_of_spot hs0] at this
    have h8 : (ss.map (fun b => b.data.toList))[j]? = l[j]? := by rw [h3]
    rw [List.getElem?_map] at h8
    have e1 : ss[j]? = some (ss.getD j ByteArray.empty) := by rw [List.getD_eq_getElem?_getD, List.getElem?_eq_getElem (by omega)]; rfl
    have e2 : l[j]? = some (l.getD j []) := by rw [List.getD_eq_getElem?_getD, List.getElem?_eq_getElem hj]; rfl
    rw [e1, e2] at h8
    have h9 : (ss.getD j ByteArray.empty).data.toList = l.getD j [] := Option.some.inj h8
    have h10 : ss.getD j ByteArray.empty = ⟨(l.getD j []).toArray⟩ := bytes_ext h9
    rw [this, h10]
theorem glob_words : Tryd.prog.globalNamed "bailment/lex.words" = some 1 := by kernel_rfl
theorem glob_signs : Tryd.prog.globalNamed "bailment/lex.signs" = some 0 := by kernel_rfl
noncomputable def rowLaid : List (String × DataW Unit) := Rows.exprLevelsRow.laid
theorem laid_words : (Rows.laid_bailment_lex_words : DataW Unit) = .slice (Lx.words.map fun x => .lit (.string x)) [] := by kernel_rfl
theorem laid_signs : (Rows.laid_bailment_lex_signs : DataW Unit) = .slice (Lx.signs.map fun x => .lit (.string x)) [] := by kernel_rfl
theorem gl_of {W : World} (hL : laidMetH Tryd.prog rowLaid W) (hs : W.ShapedOpen Tryd.prog) : Gl W := by
  rw [MakeChecks.laidMetH_plain _ _ _ (by kernel_rfl)] at hL
  have r1 : Lib.VarReads Tryd.prog W "bailment/lex.words" Rows.laid_bailment_lex_words := Lib.laidMet.reads hL (by unfold rowLaid Rows.exprLevelsRow; simp)
  have r2 : Lib.VarReads Tryd.prog W "bailment/lex.signs" Rows.laid_bailment_lex_signs := Lib.laidMet.reads hL (by unfold rowLaid Rows.exprLevelsRow; simp)
  rw [laid_words] at r1
  rw [laid_signs] at r2
  obtain ⟨b, o, c, h1, h2⟩ := strings_var r1 glob_words (by kernel_rfl) Tryd.underlying22 (by decide)
  obtain ⟨b', o', c', h3, h4⟩ := strings_var r2 glob_signs (by kernel_rfl) Tryd.underlying22 (by decide)
  exact ⟨⟨b, o, c, h1, h2⟩, ⟨b', o', c', h3, h4⟩, hs⟩
end Go.Proofs.YtmklieoikbgmpaaDoor
